/- What the statements about triangulations stand on: contracts of functions, plain laws. Part 3 of 5, no condition of its own. (X12 X5 X6 X7 X11 N25 X13 X8 X9 X10 Shelf2 L1 K1 K2 K3 K4 K5 K6 K7 K8 K9 K10 J1) -/
import Derived.Test.YtdaeofhdgabhjaaGreatCM2
import Derived.ChangeKeysEq
import Derived.Shelf.SlSortCmp.NoneTotal
import Derived.Shelf.SlicesE.DeleteFunc
import Derived.Ground.SlsfProg
import Derived.Ground.SlgfProg
import Derived.Test.YtdaeofhdgabhjaaGreatProg
import Derived.Lib.SliceRun
import Derived.Lib.AppendZerosOnto
namespace Go.Proofs.YtdaeofhdgabhjaaGreat
noncomputable section
theorem tB{m:Rf}{l r:List AV}(h:dD m l r):cS m (eN l) (eN r):=by
 unfold eN;cases hl:cK l with
 |some q=>
  have e:=eD hl;subst e;have:∀(q:List PV) (r:List AV),dD m (q.map .p) r->r=q.map .p:=by
   intro q;induction q with
   |nil=>intro r h;unfold dD at h;exact h
   |cons x q ih=>intro r h;rw[List.map_cons]at h;unfold dD at h;obtain⟨y,r',rfl,h1,h2⟩:=h;unfold cS at h1;rw[h1,ih r' h2];rfl
  rw[this q r h,bT];dsimp only;unfold cS;rfl
 |none=>
  dsimp only;unfold cS;cases hr:cK r with
  |some q=>exact⟨r,.inr ⟨q,rfl,eD hr⟩,h⟩
  |none=>exact⟨r,.inl rfl,h⟩
theorem xV{m:Rf}{l r:List AV}(h:dD m l r):cS m (lN l) (lN r):=by
 unfold lN;cases hl:cK l with
 |some q=>
  have e:=eD hl;subst e;have:∀(q:List PV) (r:List AV),dD m (q.map .p) r->r=q.map .p:=by
   intro q;induction q with
   |nil=>intro r h;unfold dD at h;exact h
   |cons x q ih=>intro r h;rw[List.map_cons]at h;unfold dD at h;obtain⟨y,r',rfl,h1,h2⟩:=h;unfold cS at h1;rw[h1,ih r' h2];rfl
  rw[this q r h,bT];dsimp only;unfold cS;rfl
 |none=>
  dsimp only;unfold cS;cases hr:cK r with
  |some q=>exact⟨r,.inr ⟨q,rfl,eD hr⟩,h⟩
  |none=>exact⟨r,.inl rfl,h⟩
theorem cX{m:Rf}{x:PV}{y:AV}(h:y= .p x):cS m (.p x) y:=by unfold cS;exact h
theorem eE(m:Rf):∀q:List PV,dD m (q.map .p) (q.map .p)
 |[] =>by simp only[List.map_nil];unfold dD;rfl
 |x::q=>by simp only[List.map_cons];unfold dD;exact⟨_,_,rfl,cX rfl,eE m q⟩
theorem oU{m:Rf}{α:Type}(f g:α->AV):∀l:List α,(∀x∈l,cS m (f x) (g x))->dD m (l.map f) (l.map g)
 |[],_=>by simp only[List.map_nil];unfold dD;rfl
 |x::l,h=>by
  simp only[List.map_cons];unfold dD;exact⟨_,_,rfl,h x List.mem_cons_self,oU f g l fun y hy=>h y (List.mem_cons_of_mem _ hy)⟩
mutual
def SV.ren(f:Nat->Nat):SV->SV
 | .agg l=> .agg (Eb f l)
 | .tup l=> .tup (Eb f l)
 | .fn g a b=> .fn g (Eb f a) (Eb f b)
 | .ptr s o=> .ptr (f s) o
 | .pte s t i o=> .pte (f s) t i o
 | .own s t n=> .own (f s) t n
 | .owns s t o n=> .owns (f s) t o n
 | .ownx s n=> .ownx (f s) n
 | .ownf s t a n=> .ownf (f s) t a n
 | .ptef s t a i o=> .ptef (f s) t a i o
 | .ptf s a=> .ptf (f s) a
 | .owF s n=> .owF (f s) n
 | .mp s=> .mp (f s)
 | .any=> .any
 | .undef=> .undef
 | .nil=> .nil
 | .int k n=> .int k n
 | .bool b=> .bool b
 | .lit b=> .lit b
 | .prop p d=> .prop p d
 | .str s=> .str s
 | .lst t l=> .lst t l
 | .sl n cs=> .sl n cs
 | .pe t l i o=> .pe t l i o
 | .pro cs o=> .pro cs o
 | .fnp g a b=> .fnp g a b
 | .clo1 pv t q dom=> .clo1 pv t q dom
 | .clo2 pv t q dom=> .clo2 pv t q dom
 | .ptb F n o=> .ptb F n o
 | .junk=> .junk
def Eb(f:Nat->Nat):List SV->List SV
 |[] =>[]
 |x::l=>x.ren f::Eb f l
end
def Fl(m:Rf)(f:Nat->Nat):Prop:=∀y a,m (inn (f y) a)=some (some (inn y a))
theorem Fl.n{m:Rf}{f:Nat->Nat}(h:Fl m f)(y:Nat):m (aW (f y))=some (some (aW y)):=h y 0
mutual
theorem Th{m:Rf}{f:Nat->Nat}(hm:Fl m f):∀v:SV,cS m (v.ren f).av v.av
 | .any=>by simp only[SV.ren,SV.av];unfold cS;trivial
 | .undef=>by simp only[SV.ren,SV.av];unfold cS;rfl
 | .nil=>by simp only[SV.ren,SV.av];unfold cS;rfl
 | .int _ _=>cX rfl
 | .bool _=>cX rfl
 | .lit _=>cX rfl
 | .prop _ _=>cX rfl
 | .str _=>cX rfl
 | .lst _ _=>cX rfl
 | .pe _ _ _ _=>cX rfl
 | .clo1 _ _ _ _=>cX rfl
 | .clo2 _ _ _ _=>cX rfl
 | .ptb _ _ _=>cX rfl
 | .junk=>cX rfl
 | .sl n cs=>by
   simp only[SV.ren,SV.av];split
   ·exact cX rfl
   ·unfold cS;trivial
 | .pro cs off=>by
   simp only[SV.ren,SV.av];split
   ·exact cX rfl
   ·unfold cS;trivial
 | .fnp g a b=>by
   simp only[SV.ren,SV.av];split
   ·exact cX rfl
   ·unfold cS;trivial
 | .agg l=>by simp only[SV.ren,SV.av];exact tB (mZ hm l)
 | .tup l=>by simp only[SV.ren,SV.av];exact xV (mZ hm l)
 | .fn g a b=>by simp only[SV.ren,SV.av];unfold cS;exact⟨_,_,rfl,mZ hm a,mZ hm b⟩
 | .ptr s off=>by simp only[SV.ren,SV.av];unfold cS;exact⟨_,hm.n s,rfl⟩
 | .pte s t i off=>by simp only[SV.ren,SV.av];unfold cS;exact⟨_,hm.n s,rfl⟩
 | .ptf s a=>by simp only[SV.ren,SV.av];unfold cS;exact⟨_,hm.n s,rfl⟩
 | .ptef s t a i off=>by simp only[SV.ren,SV.av];unfold cS;exact⟨_,hm s (a+1),rfl⟩
 | .own s t n=>by simp only[SV.ren,SV.av];unfold cS;exact .inl ⟨_,hm.n s,rfl⟩
 | .owns s t o n=>by simp only[SV.ren,SV.av];unfold cS;exact .inl ⟨_,hm.n s,rfl⟩
 | .ownx s n=>by simp only[SV.ren,SV.av];unfold cS;exact .inl ⟨_,hm.n s,rfl⟩
 | .owF s n=>by simp only[SV.ren,SV.av];unfold cS;exact .inl ⟨_,hm.n s,rfl⟩
 | .ownf s t a n=>by simp only[SV.ren,SV.av];unfold cS;exact .inl ⟨_,hm s (a+1),rfl⟩
 | .mp s=>by simp only[SV.ren,SV.av];unfold cS;exact⟨_,hm.n s,rfl⟩
theorem mZ{m:Rf}{f:Nat->Nat}(hm:Fl m f):∀l:List SV,dD m (avs (Eb f l)) (avs l)
 |[] =>by simp only[Eb,avs];unfold dD;rfl
 |x::l=>by simp only[Eb,avs];unfold dD;exact⟨_,_,rfl,Th hm x,mZ hm l⟩
end
def SOb.ren(f:Nat->Nat):SOb->SOb
 | .box ty cs=> .box ty (Eb f cs)
 | .arr ty ez cs=> .arr ty ez (Eb f cs)
 | .row ty t l=> .row ty t l
 | .fam ty ity t L ov=> .fam ty ity t L (ov.map fun q=>(q.1,q.2.ren f))
 | .mp ks=> .mp ks
def qT:SOb->Bool
 | .box ty _=> !(Nat.beq ty 0)
 | .fam _ _ _ _ ov=>ov.isEmpty
 | .arr _ ez _=> !(Nat.beq ez 0)
 |_=>true
theorem Vy{m:Rf}{f:Nat->Nat}(hm:Fl m f)(k:Nat){o:SOb}(ho:qT o=true):vN m ((o.ren f).ob (f k)) (o.ob k):=by
 cases o with
 |box ty cs=>exact⟨rfl,rfl,mZ hm cs⟩
 |arr ty ez cs=>exact⟨rfl,rfl,mZ hm cs⟩
 |row ty t l=>exact⟨rfl,rfl,eE m _⟩
 |mp ks=>refine⟨rfl,rfl,?_⟩;show dD m (kD (lQ ks)) (kD (lQ ks));rw[kJ];exact eE m _
 |fam ty ity t L ov=>
  have:ov=[] :=List.isEmpty_iff.1 ho;subst this;refine⟨rfl,rfl,oU _ _ _ fun i _=> ?_⟩
  show cS m (.own (inn (f k) (i+1)) 0 _) (.own (inn k (i+1)) 0 _);unfold cS;exact .inl ⟨_,hm k (i+1),rfl⟩
def Hf(x:Nat)(ob:SOb):List (Nat×Option Ob):=(aW x,some (ob.ob x))::match ob with
 | .fam _ ity t L _=>(List.range L.length).map fun a=>(inn x (a+1),some ⟨ity,t.w,(t.enc (L.getD a [])).map .p⟩)
 |_=>[]
theorem Dd{α:Type}{g0:Nat->Nat}(hg:∀a b,g0 a=g0 b->a=b)(h0:Nat->α):∀(l:List Nat) (a:Nat),(l.map fun i=>(g0 i,h0 i)).lookup (g0 a)=if a∈l then some (h0 a)else none
 |[],a=>rfl
 |i::l,a=>by
  rw[List.map_cons,List.lookup_cons,Dd hg h0 l a];by_cases e:a=i
  ·subst e;rw[beq_iff_eq.2 rfl,if_pos List.mem_cons_self]
  ·rw[beq_eq_false_iff_ne.2 (fun h=>e (hg _ _ h))]
   by_cases h2:a∈l
   ·rw[if_pos h2,if_pos (List.mem_cons_of_mem _ h2)]
   ·rw[if_neg h2,if_neg (fun h3=>(List.mem_cons.1 h3).elim e h2)]
theorem lD{α:Type}{s:Nat}:∀{l:List (Nat×α)},(∀q∈l,q.1≠s)->l.lookup s=none
 |[],_=>rfl
 |q::l,h=>by rw[List.lookup_cons,beq_eq_false_iff_ne.2 (fun e=>h q List.mem_cons_self e.symm)];exact lD fun q hq=>h q (List.mem_cons_of_mem _ hq)
theorem pX{α:Type}{s:Nat}:∀{l r:List (Nat×α)},(l++r).lookup s=(match l.lookup s with|some x=>some x|none=>r.lookup s)
 |[],r=>rfl
 |q::l,r=>by
  rw[List.cons_append,List.lookup_cons,List.lookup_cons];cases s==q.1 with
  |true=>rfl
  |false=>exact pX
theorem aA4{ob:SOb}(ho:qT ob=true)(a:Nat):ob.inner a=(match ob with| .fam _ ity t L _=>if a<L.length then some ⟨ity,t.w,(t.enc (L.getD a [])).map .p⟩else none|_=>none):=by
 cases ob<;>try rfl
 rename_i ty ity t L ov;have:ov=[] :=List.isEmpty_iff.1 ho;subst this;show((L[a]?).map fun l=>(⟨ity,t.w,(t.enc l).map .p⟩:Ob))=_
 by_cases h:a<L.length
 ·dsimp only;rw[if_pos h,List.getElem?_eq_getElem h,List.getD_eq_getElem?_getD,List.getElem?_eq_getElem h];rfl
 ·dsimp only;rw[if_neg h,List.getElem?_eq_none (by omega)];rfl
theorem Vf(x y:Nat)(ob:SOb):(Hf x ob).lookup (aW y)=if y=x then some (some (ob.ob x))else none:=by
 unfold Hf;rw[List.lookup_cons];by_cases e:y=x
 ·subst e;rw[beq_iff_eq.2 rfl,if_pos rfl]
 ·rw[beq_eq_false_iff_ne.2 (fun h=>e (fW h)),if_neg e]
  refine lD fun q hq=> ?_
  split at hq
  ·obtain⟨a,_,rfl⟩:=List.mem_map.1 hq;exact fun h=>by have:=(dC h).2;omega
  ·cases hq
theorem aAy(x y a:Nat){ob:SOb}(ho:qT ob=true):(Hf x ob).lookup (inn y (a+1))=if y=x then(ob.inner a).map some else none:=by
 have e0:inn y (a+1)≠aW x:=fun h=>by have:=(dC h).2;omega
 rw[aA4 ho a];unfold Hf;rw[List.lookup_cons,beq_eq_false_iff_ne.2 e0];cases ob with
 |fam ty ity t L ov=>
  dsimp only;by_cases e:y=x
  ·subst e;rw[if_pos rfl,Dd (g0:=fun a=>inn y (a+1)) (fun a b h=>by have:=(dC h).2;omega)]
   by_cases h:a<L.length
   ·rw[if_pos (List.mem_range.2 h),if_pos h];rfl
   ·rw[if_neg (fun hh=>h (List.mem_range.1 hh)),if_neg h];rfl
  ·rw[if_neg e];refine lD fun q hq=> ?_
   obtain⟨b,_,rfl⟩:=List.mem_map.1 hq;exact fun h=>e (dC h).1.symm
 |_=>dsimp only;split<;>rfl
theorem aBY(x:Nat)(ob:SOb){s:Nat}(h:∀x a,s≠inn x a):(Hf x ob).lookup s=none:=by
 refine lD fun q hq=> ?_
 unfold Hf at hq;rcases List.mem_cons.1 hq with rfl|hq
 ·exact fun e=>h x 0 e.symm
 ·split at hq
  ·obtain⟨a,_,rfl⟩:=List.mem_map.1 hq;exact fun e=>h x (a+1) e.symm
  ·cases hq
def tX(W:List (Nat×SOb)):List (Nat×Option Ob):=W.flatMap fun q=>Hf q.1 q.2
theorem nC(y:Nat):∀W:List (Nat×SOb),(tX W).lookup (aW y)=(W.lookup y).map fun ob=>some (ob.ob y)
 |[] =>rfl
 |q::W=>by
  unfold tX;rw[List.flatMap_cons,pX,Vf,List.lookup_cons];by_cases e:y=q.1
  ·rw[if_pos e,beq_iff_eq.2 e,e];rfl
  ·rw[if_neg e,beq_eq_false_iff_ne.2 e];exact nC y W
theorem pC(y a:Nat):∀{W:List (Nat×SOb)},(∀q∈W,qT q.2=true)->(W.map (·.1)).Nodup->(tX W).lookup (inn y (a+1))=((W.lookup y).bind (SOb.inner a)).map some
 |[],_,_=>rfl
 |q::W,h,hn=>by
  rw[List.map_cons,List.nodup_cons]at hn;have ih:=pC y a (W:=W) (fun q hq=>h q (List.mem_cons_of_mem _ hq)) hn.2
  unfold tX;rw[List.flatMap_cons,pX,aAy _ _ _ (h q List.mem_cons_self),List.lookup_cons];by_cases e:y=q.1
  ·rw[if_pos e,beq_iff_eq.2 e];have hno:W.lookup y=none:=lD fun r hr e2=>hn.1 (by rw[<-e,<-e2];exact List.mem_map_of_mem hr)
   cases hi:q.2.inner a with
   |some ob=>simp[hi]
   |none=>
    have ih':(List.flatMap (fun q=>Hf q.1 q.2) W).lookup (inn y (a+1))=none:=by
     have:=ih;unfold tX at this;rw[this,hno];rfl
    simp[hi,ih']
  ·rw[if_neg e,beq_eq_false_iff_ne.2 e];exact ih
theorem rF{s:Nat}(h:∀x a,s≠inn x a):∀W:List (Nat×SOb),(tX W).lookup s=none
 |[] =>rfl
 |q::W=>by
  unfold tX;rw[List.flatMap_cons,pX,aBY _ _ h];exact rF h W
theorem zJ(W:List (Nat×SOb))(y:Nat):((W.map fun q=>(q.1,some q.2)).lookup y:Option (Option SOb))=(W.lookup y).map some:=by
 induction W with
 |nil=>rfl
 |cons q W ih=>
  rw[List.map_cons,List.lookup_cons,List.lookup_cons];cases y==q.1 with
  |true=>rfl
  |false=>exact ih
theorem cR.news{σ:Sg}{W:List (Nat×SOb)}(hW:∀q∈W,qT q.2=true)(hn:(W.map (·.1)).Nodup)(hσ:∀q∈W,σ q.1=none):cR σ [] (W.map fun q=>(q.1,some q.2)) [] (tX W):=by
 refine⟨fun s hs=>(List.not_mem_nil hs).elim,fun s hs=> ?_,?_⟩
 ·obtain⟨⟨t,ob⟩,hq,rfl⟩:=List.mem_map.1 hs;unfold tX at hq;obtain⟨q,hq1,hq2⟩:=List.mem_flatMap.1 hq;have:cls t=ncl q.1:=by
   unfold Hf at hq2;rcases List.mem_cons.1 hq2 with e|hq2
   ·cases e;exact dI _ 0
   ·split at hq2
    ·obtain⟨a,_,e⟩:=List.mem_map.1 hq2;cases e;exact dI _ _
    ·cases hq2
  show cls t∈_;rw[this,List.map_map];exact List.mem_map_of_mem hq1
 ·funext s
  unfold cB;have hno:∀y,W.lookup y≠none->σ y=none:=by
   intro y hy;rcases Option.ne_none_iff_exists'.1 hy with⟨ob,hob⟩
   have:(y,ob)∈W:=by
    clear hn hW hσ hy;induction W with
    |nil=>cases hob
    |cons q W ih=>
     rw[List.lookup_cons]at hob;split at hob
     ·rename_i e;cases hob;rw[beq_iff_eq.1 e];exact List.mem_cons_self
     ·exact List.mem_cons_of_mem _ (ih hob)
   exact hσ _ this
  rcases dV s with⟨y,rfl⟩|⟨y,b,rfl⟩|hns
  ·rw[Sg.cE,Sg.cE,nC];unfold bD.up;rw[zJ];cases hl:W.lookup y with
   |none=>rfl
   |some ob=>rfl
  ·rw[Sg.fS,Sg.fS,pC y b hW hn];unfold bD.up;rw[zJ];cases hl:W.lookup y with
   |none=>rfl
   |some ob=>
    show(match((SOb.inner b ob).map some:Option (Option Ob))with|some x=>x|none=>(σ y).bind (SOb.inner b))=SOb.inner b ob
    cases hi:SOb.inner b ob with
    |some o=>rfl
    |none=>show(σ y).bind (SOb.inner b)=none;rw[hno y (by rw[hl];simp)];rfl
  ·rw[Sg.qQ _ hns,Sg.qQ _ hns,rF hns]
def mu(n y:Nat):Nat:=n+NM*(y+1)
def muR(n:Nat):Rf:=fun s=>if inn (nm s) (sub s)=s then(if mu n (nm s/NM-1)=nm s then some (some (inn (nm s/NM-1) (sub s)))else none)else none
theorem Pm{n:Nat}(hn:n<NM)(y:Nat):mu n y/NM-1=y:=by
 unfold mu;rw[Nat.add_mul_div_left _ _ (show 0<NM by unfold NM;omega),Nat.div_eq_of_lt hn];omega
theorem aD2{n:Nat}(hn:n<NM)(y:Nat):ncl (mu n y)=n:=by
 unfold ncl mu;rw[Nat.add_mul_mod_self_left,Nat.mod_eq_of_lt hn]
theorem aFm{n y z:Nat}(hn:n<NM)(h:mu n y=mu n z):y=z:=by rw[<-Pm hn y,h,Pm hn z]
theorem tH{n:Nat}(hn:n<NM):Fl (muR n) (mu n):=by
 intro y a;unfold muR;rw[uN,pS,if_pos rfl,Pm hn,if_pos rfl]
theorem Cb{n s:Nat}{x:Option Nat}(h:muR n s=some x):∃y a,s=inn (mu n y) a/\x=some (inn y a):=by
 unfold muR at h;split at h
 ·rename_i h1;split at h
  ·rename_i h2;cases h;exact⟨_,_,by rw[h2];exact h1.symm,rfl⟩
  ·cases h
 ·cases h
def Uq:List Nat->Nat->Bool
 |[],_=>false
 |x::l,s=>match Nat.beq s x with|true=>true|false=>Uq l s
theorem wF{s:Nat}:∀{l:List Nat},Uq l s=false->s∉l
 |[],_=>List.not_mem_nil
 |x::l,h=>by
  unfold Uq at h;cases hb:Nat.beq s x with
  |true=>rw[hb]at h;cases h
  |false=>
   rw[hb]at h;intro hm;rcases List.mem_cons.1 hm with rfl|hm
   ·exact absurd rfl (Nat.ne_of_beq_eq_false hb)
   ·exact wF h hm
def Ko(σ:Sg)(n:Nat):bD->Option (List (Nat×SOb))
 |[] =>some []
 |(y,some ob)::W=>(match qT ob,σ (mu n y),Uq (W.map (·.1)) y,Ko σ n W with
  |true,none,false,some l=>some ((mu n y,ob.ren (mu n))::l)
  |_,_,_,_=>none)
 |_::_=>none
theorem aAM{f:Nat->Nat}{ob:SOb}(h:qT ob=true):qT (ob.ren f)=true:=by
 cases ob<;>first|exact h|skip
 rename_i ty ity t L ov;have:ov=[] :=List.isEmpty_iff.1 h;subst this;rfl
theorem Vx{f:Nat->Nat}{ob:SOb}(h:qT ob=true)(a:Nat):(ob.ren f).inner a=ob.inner a:=by
 cases ob<;>first|rfl|skip
 rename_i ty ity t L ov;have:ov=[] :=List.isEmpty_iff.1 h;subst this;rfl
theorem Cn{σ:Sg}{n:Nat}(hn:n<NM):∀{W:bD} {l:List (Nat×SOb)},Ko σ n W=some l->
  (∀q∈l,qT q.2=true/\σ q.1=none)/\(l.map (·.1)).Nodup/\l.map (·.1)=W.map (fun q=>mu n q.1)/\∀z obr,l.lookup z=some obr->∃y ob,z=mu n y/\obr=ob.ren (mu n)/\qT ob=true/\bD.at W y=some ob
 |[],l,h=>by cases h;exact⟨fun q hq=>(by cases hq),List.nodup_nil,rfl,fun z obr h=>(by cases h)⟩
 |(y,none)::W,l,h=>by unfold Ko at h;cases h
 |(y,some ob)::W,l,h=>by
  unfold Ko at h;split at h<;>cases h;rename_i l' h1 h2 h3 h4;obtain⟨g1,g2,g3,g4⟩:=Cn hn h4;have hy:=wF h3;have hnot:mu n y∉l'.map (·.1):=by
   rw[g3];intro hm;obtain⟨q,hq,e⟩:=List.mem_map.1 hm;exact hy (by rw[<-aFm hn e];exact List.mem_map_of_mem hq)
  refine⟨fun q hq=> ?_,?_,?_,?_⟩
  ·rcases List.mem_cons.1 hq with rfl|hq
   ·exact⟨aAM h1,h2⟩
   ·exact g1 q hq
  ·rw[List.map_cons,List.nodup_cons];exact⟨hnot,g2⟩
  ·rw[List.map_cons,List.map_cons,g3]
  ·intro z obr hz;rw[List.lookup_cons]at hz;by_cases e:z=mu n y
   ·rw[beq_iff_eq.2 e]at hz;cases hz;exact⟨y,ob,e,rfl,h1,by unfold bD.at;rw[Nat.beq_refl]⟩
   ·rw[beq_eq_false_iff_ne.2 e]at hz;obtain⟨y2,ob2,k1,k2,k3,k4⟩:=g4 z obr hz;refine⟨y2,ob2,k1,k2,k3,?_⟩;unfold bD.at;have:Nat.beq y2 y=false:=by
     cases hb:Nat.beq y2 y with
     |false=>rfl
     |true=>exact absurd (by rw[k1,Nat.eq_of_beq_eq_true hb]) e
    rw[this];exact k4
def Uu:SV->Option Nat
 | .fnp f [] [] =>some f
 |_=>none
theorem Md{α:Type}{z:Nat}{ob:α}:∀{l:List (Nat×α)},l.lookup z=some ob->z∈l.map (·.1)
 |[],h=>by cases h
 |q::l,h=>by
  rw[List.lookup_cons]at h;rw[List.map_cons];split at h
  ·rename_i e;rw[beq_iff_eq.1 e];exact List.mem_cons_self
  ·exact List.mem_cons_of_mem _ (Md h)
def Yd(X:Cx)(n:Nat)(σ:Sg)(fv:SV)(xs:List SV):SR:=match Uu fv with
 |none=>none
 |some f=>(match X.T f with
  |some ⟨_,dec,pre,.tree res obs⟩=>(match cK (avs xs),dec xs,Nat.blt n NM with
   |some _,some x,true=>(match Ko σ n (obs x)with
    |some l=>some (pre x,(res x).ren (mu n),[],l.map fun q=>(q.1,some q.2))
    |none=>none)
   |_,_,_=>none)
  |_=>none)
theorem Aj{fv:SV}{f:Nat}(h:Uu fv=some f):fv.av= .p (.fn (.func f) [] []):=by
 unfold Uu at h;split at h<;>cases h;rfl
def zV(P:Program)(n:Nat)(o:Oper)(E:SE)(σ:Sg)(R:SR):Prop:=
 ∀ps r rd W,R=some (ps,r,rd,W)->(∀p∈ps,p)->(∃R' W',bM P o E.a σ.a n r.av R' W'/\cR σ rd W R' W')/\r.ok
theorem aAs{X:Cx}(hX:X.Ok){n:Nat}{o:Oper}{E:SE}{σ:Sg}{c:Call}{f:Operand}(ho:o.op= .call c)(hc:c.callee= .value f):zV X.P n o E σ (Fe (Yd X n σ (E f) (c.args.toList.map E))):=by
 intro ps r rd W h hp;obtain⟨h,hr⟩:=vF h;refine⟨?_,hr⟩;unfold Yd at h;split at h
 ·cases h
 rename_i fid hf;split at h
 case h_2=>cases h
 rename_i Y dec pre res obs hT;split at h
 case h_2=>cases h
 rename_i A' x hA' hx hn;split at h<;>cases h;rename_i l hl;have hn:n<NM:=Nat.le_of_ble_eq_true hn;obtain⟨A,h1,h2⟩:=hX.1 fid _ hT _ x hx hp;obtain⟨g1,g2,g3,g4⟩:=Cn hn hl;have avl:avs (c.args.toList.map E)=c.args.toList.map E.a:=by rw[eP,List.map_map];rfl
 refine⟨[],tX l,?_,cR.news (fun q hq=>(g1 q hq).1) g2 (fun q hq=>(g1 q hq).2)⟩
 have hinner:∀{ob:SOb} {a:Nat} {o':Ob},ob.inner a=some o'->∃(ity:TypeId) (wd:Nat) (q:List PV),wd≠0/\o'=⟨ity,wd,q.map .p⟩:=by
  intro ob a o' hi;cases ob<;>try (cases hi;done)
  rename_i ty ity t L ov;unfold SOb.inner at hi;dsimp only at hi;split at hi
  ·cases hi
  ·cases hL:L[a]? with
   |none=>rw[hL]at hi;cases hi
   |some r=>rw[hL]at hi;cases hi;exact⟨ity,t.w,_,Nat.ne_of_gt t.mR,rfl⟩
 have hcls:∀z∈l.map (·.1),ncl z=n:=by
  intro z hz;rw[g3]at hz;obtain⟨q,_,rfl⟩:=List.mem_map.1 hz;exact aD2 hn _
 have hmem:∀z,l.lookup z≠none->z∈l.map (·.1):=by
  intro z hz;rcases Option.ne_none_iff_exists'.1 hz with⟨ob,hob⟩
  exact Md hob
 refine Xh (A:=A) (m1:=muR n) ho hc (by show(E f).av=_;exact Aj hf) (by rw[<-avl,h1,bT]) h2 ?_ ?_ ⟨?_,?_⟩ ?_ (Th (tH hn) _)
 ·intro s x hs;obtain⟨y,a,rfl,_⟩:=Cb hs;rw[dI,aD2 hn]
 ·intro s hs;rcases dV s with⟨z,rfl⟩|⟨z,b,rfl⟩|hno
  ·rw[nC]at hs|-;have hz:l.lookup z≠none:=fun e=>by rw[e]at hs;exact hs rfl
   refine⟨by rw[show cls (aW z)=ncl z from dI z 0];exact hcls z (hmem z hz),?_⟩
   cases hl2:l.lookup z with
   |none=>exact absurd hl2 hz
   |some ob=>simp
  ·rw[pC z b (fun q hq=>(g1 q hq).1) g2]at hs|-
   have hz:l.lookup z≠none:=fun e=>by rw[e]at hs;exact hs rfl
   refine⟨by rw[dI];exact hcls z (hmem z hz),?_⟩
   cases(l.lookup z).bind (SOb.inner b)<;>simp
  ·exact absurd (rF hno l) hs
 ·intro s s' o1 e1 e2;obtain⟨y,a,rfl,k1⟩:=Cb e1;obtain⟨y',a',rfl,k2⟩:=Cb e2;rw[Option.some.inj k1]at k2;obtain⟨rfl,rfl⟩:=dC (Option.some.inj k2);rfl
 ·intro s ob' hs;dsimp only at hs;rcases dV s with⟨z,rfl⟩|⟨z,b,rfl⟩|hno
  ·rw[nC]at hs;cases hl2:l.lookup z with
   |none=>rw[hl2]at hs;cases hs
   |some obr=>
    rw[hl2]at hs;have hs:some (obr.ob z)=some ob':=hs;cases hs;obtain⟨y,ob,rfl,rfl,k3,k4⟩:=g4 z obr hl2;rw[(tH hn).n y];exact⟨ob.ob y,by rw[Sg.cE,k4];rfl,Vy (tH hn) y k3⟩
  ·rw[pC z b (fun q hq=>(g1 q hq).1) g2]at hs
   cases hl2:l.lookup z with
   |none=>rw[hl2]at hs;cases hs
   |some obr=>
    rw[hl2]at hs;obtain⟨y,ob,rfl,rfl,k3,k4⟩:=g4 z obr hl2;have hs:((SOb.inner b (ob.ren (mu n))).map some).join=some ob':=hs;rw[Vx k3]at hs;cases hi:ob.inner b with
    |none=>rw[hi]at hs;cases hs
    |some o'=>
     rw[hi]at hs;have hs:some o'=some ob':=hs;cases hs;rw[tH hn y (b+1)];refine⟨ob',by rw[Sg.fS,k4];exact hi,?_⟩
     obtain⟨ity,wd,q,_,rfl⟩:=hinner hi;exact⟨rfl,rfl,eE _ q⟩
  ·rw[rF hno]at hs;cases hs
 ·intro s ob' hs;rcases dV s with⟨z,rfl⟩|⟨z,b,rfl⟩|hno
  ·rw[nC]at hs;cases hl2:l.lookup z with
   |none=>rw[hl2]at hs;cases hs
   |some obr=>
    rw[hl2]at hs;have hs:some (some (obr.ob z))=some (some ob'):=hs;cases hs;obtain⟨y,ob,rfl,rfl,k3,k4⟩:=g4 z obr hl2;cases ob with
    |box ty cs=>
     intro⟨_,e⟩;have e:ty=0:=e;subst e;cases k3
    |arr ty ez cs=>
     intro⟨e,_⟩;have e:ez=0:=e;subst e;cases k3
    |row ty t l=>intro⟨e,_⟩;exact absurd e (Nat.ne_of_gt t.mR)
    |fam ty ity t L ov=>intro⟨e,_⟩;cases e
    |mp ks=>intro⟨_,e⟩;cases e
  ·rw[pC z b (fun q hq=>(g1 q hq).1) g2]at hs
   cases hb:(l.lookup z).bind (SOb.inner b)with
   |none=>rw[hb]at hs;cases hs
   |some o'=>
    rw[hb]at hs;have hs:some (some o')=some (some ob'):=hs;cases hs;obtain⟨ob,_,hi⟩:=Option.bind_eq_some_iff.1 hb;obtain⟨ity,wd,q,hw,rfl⟩:=hinner hi;intro⟨e,_⟩;exact hw e
  ·rw[rF hno]at hs;cases hs
def uK(f:SV->Option SV):List SV->Option (List SV)
 |[] =>some []
 |x::l=>(match f x,uK f l with|some y,some m=>some (y::m)|_,_=>none)
def jS:Nat->Sg->SV->Option SV
 |_,_,.nil=>some (.sl 0 [])
 |_,_,.own .. =>some .junk
 |_,_,.owns .. =>some .junk
 |_,_,.ownx .. =>some .junk
 |_,_,.owF .. =>some .junk
 |_,_,.ownf .. =>some .junk
 |_,_,.any=>some .junk
 |0,_,.ptr .. =>some .junk
 |d+1,σ,.ptr s off=>(match σ s with
  |some (.box _ cs)=>(match uK (jS d σ) cs with|some m=>some (.pro m off)|none=>none)
  |_=>none)
 |d+1,σ,.agg l=>(match uK (jS d σ) l with|some m=>some (.agg m)|none=>none)
 |d+1,σ,.fn f a b=>(match uK (jS d σ) a,uK (jS d σ) b with|some x,some y=>some (.fnp f x y)|_,_=>none)
 |_,_,x=>(match x.av with| .p _=>some x|_=>none)
def fH:Nat->Sg->SV->List Nat
 |0,_,_=>[]
 |d+1,σ,.ptr s _=>s::(match σ s with|some (.box _ cs)=>bJ (fH d σ) cs|_=>[])
 |d+1,σ,.agg l=>bJ (fH d σ) l
 |d+1,σ,.fn _ a b=>bJ (fH d σ) a++bJ (fH d σ) b
 |_,_,_=>[]
theorem Ij(d:Nat)(σ:Nat->Option Ob)(x:PV):gP d σ (.p x)=some x:=by cases d<;>rfl
theorem Zu(d:Nat)(σ:Nat->Option Ob):∀l:List PV,gE (gP d σ) (l.map .p)=some l
 |[] =>rfl
 |x::l=>by simp only[List.map_cons,gE,Ij,Zu d σ l]
theorem Io(d:Nat)(σ:Nat->Option Ob)(x:PV):fU d σ (.p x)=[] :=by cases d<;>rfl
theorem Ub(d:Nat)(σ:Nat->Option Ob):∀l:List PV,bJ (fU d σ) (l.map .p)=[]
 |[] =>rfl
 |x::l=>by simp only[List.map_cons,bJ,Io,Ub d σ l,List.append_nil]
theorem Nj{d:Nat}{σ:Sg}{x:SV}{y:SV}(h:(match x.av with| .p _=>some x|_=>none)=some y):(∃q,gP d σ.a x.av=some q/\y.av= .p q)/\fU d σ.a x.av=[] :=by
 split at h<;>cases h;rename_i q e;rw[e];exact⟨⟨q,Ij _ _ _,rfl⟩,Io _ _ _⟩
theorem Cs{d:Nat}{σ:Sg}{x:SV}{y:SV}(h:(match x.av with| .p _=>some x|_=>none)=some y)(hr:fH d σ x=[]):(∃q,gP d σ.a x.av=some q/\y.av= .p q)/\fU d σ.a x.av=(fH d σ x).map aW:=by
 rw[hr];exact Nj h
def JOk(d:Nat)(σ:Sg):Prop:=∀x y,jS d σ x=some y->(∃q,gP d σ.a x.av=some q/\y.av= .p q)/\fU d σ.a x.av=(fH d σ x).map aW
theorem mB{d:Nat}{σ:Sg}(hf:JOk d σ):∀{l m:List SV},uK (jS d σ) l=some m->(∃q,gE (gP d σ.a) (avs l)=some q/\avs m=q.map .p)/\bJ (fU d σ.a) (avs l)=(bJ (fH d σ) l).map aW
 |[],m,h=>by cases h;exact⟨⟨[],rfl,rfl⟩,rfl⟩
 |x::l,m,h=>by
  unfold uK at h;split at h<;>cases h;rename_i y m' h1 h2;obtain⟨⟨u,e1,e2⟩,e3⟩:=hf x y h1;obtain⟨⟨v,e4,e5⟩,e6⟩:=mB hf h2;refine⟨⟨u::v,?_,by rw[avs,e2,e5];rfl⟩,?_⟩
  ·rw[avs,gE,e1,e4]
  ·rw[avs,bJ,bJ,e3,e6,List.map_append]
theorem sU{σ:Sg}:∀d:Nat,JOk d σ:=by
 intro d;induction d with
 |zero=>
  intro x y h;cases x<;>first
   |(change some (SV.sl 0 [])=some y at h;cases h;exact⟨⟨.sl 0 [],rfl,rfl⟩,rfl⟩)
   |(change some SV.junk=some y at h;cases h;exact⟨⟨.junk,rfl,rfl⟩,rfl⟩)
   |exact Cs h rfl
 |succ d ih=>
  intro x y h;cases x with
  |nil=>change some (SV.sl 0 [])=some y at h;cases h;exact⟨⟨.sl 0 [],rfl,rfl⟩,rfl⟩
  |own s t n=>change some SV.junk=some y at h;cases h;exact⟨⟨.junk,rfl,rfl⟩,rfl⟩
  |owns s t o n=>change some SV.junk=some y at h;cases h;exact⟨⟨.junk,rfl,rfl⟩,rfl⟩
  |ownx s n=>change some SV.junk=some y at h;cases h;exact⟨⟨.junk,rfl,rfl⟩,rfl⟩
  |owF s n=>change some SV.junk=some y at h;cases h;exact⟨⟨.junk,rfl,rfl⟩,rfl⟩
  |ownf s t a n=>change some SV.junk=some y at h;cases h;exact⟨⟨.junk,rfl,rfl⟩,rfl⟩
  |any=>change some SV.junk=some y at h;cases h;exact⟨⟨.junk,rfl,rfl⟩,rfl⟩
  |ptr s off=>
   change (match σ s with|some (.box _ cs)=>(match uK (jS d σ) cs with|some m=>some (SV.pro m off)|none=>none)|_=>none)=_ at h
   split at h
   case h_2=>cases h
   rename_i ty cs hs;split at h<;>cases h;rename_i m hm;obtain⟨⟨q,e1,e2⟩,e3⟩:=mB ih hm;have e0:Sg.a σ (aW s)=some ⟨ty,0,avs cs⟩:=by rw[Sg.cE,hs];rfl
   refine⟨⟨.pro q off,?_,by show(match cK (avs m)with|some q=>AV.p (.pro q off)|none=> .any)=_;rw[e2,bT]⟩,?_⟩
   ·show gP (d+1) (Sg.a σ) (.ptr (aW s) off)=_;unfold gP;rw[e0];simp only[Option.bind_some,e1,Option.map_some]
   ·show fU (d+1) (Sg.a σ) (.ptr (aW s) off)=_;unfold fU fH;rw[e0,hs];dsimp only;rw[e3];rfl
  |agg l=>
   change (match uK (jS d σ) l with|some m=>some (SV.agg m)|none=>none)=_ at h
   split at h<;>cases h;rename_i m hm;obtain⟨⟨q,e1,e2⟩,e3⟩:=mB ih hm;refine⟨⟨.agg q,?_,by show eN (avs m)=_;rw[e2,iX]⟩,?_⟩
   ·show gP (d+1) (Sg.a σ) (eN (avs l))=_;unfold eN;cases hq:cK (avs l)with
    |some q'=>
     rw[eD hq,Zu]at e1;cases e1;exact Ij _ _ _
    |none=>dsimp only;unfold gP;rw[e1];rfl
   ·show fU (d+1) (Sg.a σ) (eN (avs l))=(bJ (fH d σ) l).map aW;rw[<-e3];unfold eN;cases hq:cK (avs l)with
    |some q'=>rw[eD hq,Ub];exact Io _ _ _
    |none=>rfl
  |fn f a b=>
   change (match uK (jS d σ) a,uK (jS d σ) b with|some x,some y=>some (SV.fnp f x y)|_,_=>none)=_ at h
   split at h<;>cases h;rename_i x y h1 h2;obtain⟨⟨u,e1,e2⟩,e3⟩:=mB ih h1;obtain⟨⟨v,e4,e5⟩,e6⟩:=mB ih h2;refine⟨⟨.fn (.func f) u v,?_,by show(match cK (avs x),cK (avs y)with|some x,some y=>AV.p (.fn (.func f) x y)|_,_=> .any)=_;rw[e2,e5,bT,bT]⟩,?_⟩
   ·show gP (d+1) (Sg.a σ) (.fn (.func f) (avs a) (avs b))=_;unfold gP;rw[e1,e4];rfl
   ·show bJ (fU d σ.a) (avs a)++bJ (fU d σ.a) (avs b)=(bJ (fH d σ) a++bJ (fH d σ) b).map aW;rw[e3,e6,List.map_append]
  |_=>exact Cs h rfl
theorem zI(l:List Nat):inC (l.map aW) (l.map ncl):=by
 intro s hs;obtain⟨x,hx,rfl⟩:=List.mem_map.1 hs;rw[show cls (aW x)=ncl x from dI x 0]
 exact List.mem_map_of_mem hx
def yX:LT->Bool
 | .R| .Q=>false
 |_=>true
theorem yK{t:LT}(h:yX t=true)(l:List t.ty):(t.enc l).all flat1=true:=by
 refine List.all_eq_true.2 fun x hx=> ?_
 unfold LT.enc at hx;obtain⟨e,_,hx⟩:=List.mem_flatMap.1 hx;cases t<;>first|(cases h;done)|skip
 all_goals (simp[LT.rowP]at hx;rcases hx with rfl|rfl|rfl|rfl<;>rfl)
theorem cR.rset{σ:Sg}{z a:Nat}{ty ity:TypeId}{lt:LT}{L:List (List lt.ty)}{ov:List (Nat×SV)}{l':List lt.ty}{rd R:List Nat}(hs:σ z=some (.fam ty ity lt L ov))(ho:ov.lookup a=none)(ha:a<L.length)(hl:l'.length=(L.getD a []).length)(hR:inC R (rd.map ncl)):
  cR σ rd [(z,some (.fam ty ity lt (L.set a l') ov))] R [(inn z (a+1),some ⟨ity,lt.w,(lt.enc l').map .p⟩)] :=by
 refine⟨hR,fun s hm=> ?_,?_⟩
 ·have hm:s=inn z (a+1):=by simpa using hm
  subst hm;rw[dI];exact List.mem_cons_self
 ·funext s
  unfold cB;rcases dV s with⟨y,rfl⟩|⟨y,b,rfl⟩|hno
  ·rw[Sg.cE,Sg.cE,List.lookup_cons,beq_eq_false_iff_ne.2 (show aW y≠inn z (a+1)from fun h=>by have:=(dC h).2;omega)]
   unfold bD.up;dsimp only;rw[List.lookup_cons];by_cases e:y=z
   ·subst e;rw[beq_iff_eq.2 rfl,hs];show some (⟨ty,1,_⟩:Ob)=some ⟨ty,1,_⟩
    congr 2
    rw[List.length_set];refine List.map_congr_left fun i hi=> ?_
    unfold oO;cases ov.lookup i with
    |some v=>rfl
    |none=>
     dsimp only
     congr 1
     by_cases hi:i=a
     ·subst hi;rw[List.getD_eq_getElem?_getD (l:=L.set i l'),List.getElem?_set,if_pos rfl,if_pos ha];exact hl.symm
     ·rw[List.getD_eq_getElem?_getD (l:=L.set a l'),List.getElem?_set,if_neg (fun h=>hi h.symm),<-List.getD_eq_getElem?_getD]
   ·rw[beq_eq_false_iff_ne.2 e];rfl
  ·rw[Sg.fS,Sg.fS,List.lookup_cons];unfold bD.up;rw[List.lookup_cons];by_cases e:y=z
   ·subst e;rw[beq_iff_eq.2 rfl,hs];by_cases hb:b=a
    ·subst hb;rw[beq_iff_eq.2 rfl];show some _=SOb.inner b (.fam ty ity lt (L.set b l') ov);unfold SOb.inner;dsimp only;rw[ho,List.getElem?_set,if_pos rfl,if_pos ha];rfl
    ·rw[beq_eq_false_iff_ne.2 (show inn y (b+1)≠inn y (a+1)from fun h=>hb (by have:=(dC h).2;omega))]
     show SOb.inner b (.fam ty ity lt L ov)=SOb.inner b (.fam ty ity lt (L.set a l') ov);unfold SOb.inner;dsimp only;rw[List.getElem?_set,if_neg (fun h=>hb h.symm)]
   ·rw[beq_eq_false_iff_ne.2 e,beq_eq_false_iff_ne.2 (show inn y (b+1)≠inn z (a+1)from fun h=>e (dC h).1)];rfl
  ·rw[Sg.qQ _ hno,Sg.qQ _ hno,List.lookup_cons,beq_eq_false_iff_ne.2 (hno z (a+1))];rfl
def Yg(X:Cx)(n:Nat)(σ:Sg)(fv:SV)(xs:List SV):SR:=match Uu fv with
 |none=>none
 |some f=>(match X.T f with
  |some ⟨_,dec,pre,.rowB t ty l'⟩=>(match xs with
   | .own s _ m::rest=>(match σ s,uK (jS 3 σ) rest,frs σ n,Uq (bJ (fH 3 σ) rest) s with
     |some (.row ty' t' l),some bs,true,false=>(match decEq t' t,Nat.beq ty' ty with
      | .isTrue h,true=>(match dec (.lst t (h▸l)::bs)with
        |some x=>some ((m=l.length)::(0<m)::pre x,.own n t (l' x).length,s::bJ (fH 3 σ) rest,[(s,none),(n,some (.row ty t (l' x)))])
        |none=>none)
      |_,_=>none)
     |_,_,_,_=>none)
   | .ownf z _ a m::rest=>(match σ z,uK (jS 3 σ) rest,frs σ n with
     |some (.fam tyo ity t' L ov),some bs,true=>(match decEq t' t,Nat.beq ity ty with
      | .isTrue h,true=>(match dec (.lst t ((h▸L:List (List t.ty)).getD a [])::bs)with
        |some x=>some ((a<L.length)::(m=(L.getD a []).length)::(0<m)::(zS ov a++pre x),.own n t (l' x).length,z::bJ (fH 3 σ) rest,[(z,some (.fam tyo ity t' L ((a,.ownf z t' a m)::ov))),(n,some (.row ty t (l' x)))])
        |none=>none)
      |_,_=>none)
     |_,_,_=>none)
   |_=>none)
  |_=>none)
theorem aBs(x:SV)(l:List SV):avs (x::l)=x.av::avs l:=rfl
theorem aAv{X:Cx}(hX:X.Ok){n:Nat}{o:Oper}{E:SE}{σ:Sg}{c:Call}{f:Operand}(ho:o.op= .call c)(hc:c.callee= .value f):zV X.P n o E σ (Yg X n σ (E f) (c.args.toList.map E)):=by
 intro ps r rd W h hp;unfold Yg at h;split at h
 ·cases h
 rename_i fid hf;split at h
 case h_2=>cases h
 rename_i Y dec pre t ty l' hT;have hfv:E.a f= .p (.fn (.func fid) [] []):=Aj hf;have avl:c.args.toList.map E.a=avs (c.args.toList.map E):=by rw[eP,List.map_map];rfl
 have hC:=hX.1 fid _ hT;split at h
 ·rename_i s lt m rest hxs;split at h
  case h_2=>cases h
  rename_i ty' t' l bs hs hbs hfr hmem;split at h
  case h_2=>cases h
  rename_i ht hty hb;subst ht;split at h<;>cases h;rename_i x hx;have hb:=Nat.eq_of_beq_eq_true hb;subst hb;have e1:m=l.length:=hp _ List.mem_cons_self;have e2:0<m:=hp _ (List.mem_cons_of_mem _ List.mem_cons_self);obtain⟨A,h1,h2⟩:=hC l bs x hx (fun p hq=>hp p (List.mem_cons_of_mem _ (List.mem_cons_of_mem _ hq)))
  obtain⟨⟨q,k1,k2⟩,k3⟩:=mB (sU 3) hbs;have hqA:q=A:=by
   have:=congrArg cK (k2.symm.trans h1);rw[bT,bT]at this;cases this;rfl
  subst hqA;obtain⟨hn1,hn2⟩:=iP hfr;subst e1;refine⟨⟨(s::bJ (fH 3 σ) rest).map aW,bD.sto [(s,none),(n,some (.row ty' t' (l' x)))],?_,?_⟩,trivial⟩
  rotate_left
  ·exact cR.flat (rd:=s::bJ (fH 3 σ) rest) (W:=[(s,none),(n,some (.row ty' t' (l' x)))]) fun q hq=>by
    rcases List.mem_cons.1 hq with rfl|hq
    ·rw[hs];exact⟨rfl,rfl⟩
    ·rw[List.mem_singleton.1 hq,hn2];exact⟨rfl,rfl⟩
  have:=Hb (σ:=σ.a) (n:=n) (k:=l.length) (s:=aW s) (rest:=avs rest) (A:=q) ho hc hfv (by rw[avl,hxs];rfl) (by rw[Sg.cE,hs];rfl) (Nat.ne_of_gt t'.mR) e2 k1 (by
   rw[k3];intro hm;obtain⟨y,hy,e⟩:=List.mem_map.1 hm;exact wF hmem (by rw[<-fW e];exact hy)) h2
  rw[k3]at this;show bM _ _ _ _ _ _ (aW s::_) [(aW s,none),(aW n,some _)];rw[hn1];show bM _ _ _ _ _ (.own (aW n) 0 _) _ _;rw[hn1];exact this
 ·rename_i z lt a m rest hxs;split at h
  case h_2=>cases h
  rename_i tyo ity t' L ov bs hs hbs hfr;split at h
  case h_2=>cases h
  rename_i ht hty hb;subst ht;split at h<;>cases h;rename_i x hx;have hb:=Nat.eq_of_beq_eq_true hb;subst hb;have e0:a<L.length:=hp _ List.mem_cons_self;have e1:m=(L.getD a []).length:=hp _ (List.mem_cons_of_mem _ List.mem_cons_self);have e2:0<m:=hp _ (List.mem_cons_of_mem _ (List.mem_cons_of_mem _ List.mem_cons_self));have hov:ov.lookup a=none:=kI fun p hq=>hp p (List.mem_cons_of_mem _ (List.mem_cons_of_mem _ (List.mem_cons_of_mem _ (List.mem_append_left _ hq))))
  obtain⟨A,h1,h2⟩:=hC _ bs x hx (fun p hq=>hp p (List.mem_cons_of_mem _ (List.mem_cons_of_mem _ (List.mem_cons_of_mem _ (List.mem_append_right _ hq)))))
  obtain⟨⟨q,k1,k2⟩,k3⟩:=mB (sU 3) hbs;have hqA:q=A:=by
   have:=congrArg cK (k2.symm.trans h1);rw[bT,bT]at this;cases this;rfl
  subst hqA;obtain⟨hn1,hn2⟩:=iP hfr;have hob:Sg.a σ (inn z (a+1))=some ⟨ity,t'.w,(t'.enc (L.getD a [])).map .p⟩:=by
   rw[Sg.fS,hs];show SOb.inner a (.fam tyo ity t' L ov)=_;unfold SOb.inner;dsimp only;rw[hov,List.getD_eq_getElem?_getD,List.getElem?_eq_getElem e0];rfl
  refine⟨⟨inn z (a+1)::bJ (fU 3 σ.a) (avs rest),_,?_,cR.take (n:=n) (ob:= .row ity t' (l' x)) hs hov e1 hn2 rfl ?_⟩,trivial⟩
  ·have:=Hb (σ:=σ.a) (n:=n) (k:=m) (s:=inn z (a+1)) (rest:=avs rest) (A:=q) ho hc hfv (by rw[avl,hxs];rfl) hob (Nat.ne_of_gt t'.mR) e2 k1 (by
    rw[k3];intro hm;obtain⟨y,hy,e⟩:=List.mem_map.1 hm;have:=(dC e).2;omega) (by rw[e1];exact h2)
   show bM _ _ _ _ _ (.own (aW n) 0 _) _ [(inn z (a+1),none),(aW n,some _)];rw[hn1];exact this
  ·intro t ht;rcases List.mem_cons.1 ht with rfl|ht
   ·rw[dI];exact List.mem_cons_self
   ·rw[k3]at ht;exact List.mem_cons_of_mem _ (zI _ t ht)
 ·cases h
def Yf(X:Cx)(σ:Sg)(fv:SV)(xs:List SV):SR:=match Uu fv with
 |none=>none
 |some f=>(match X.T f with
  |some ⟨_,dec,pre,.mutR t ty l'⟩=>(match(match yX t with|true=>xs|false=>[])with
   | .own s _ m::rest=>(match σ s,uK (jS 3 σ) rest,Uq (bJ (fH 3 σ) rest) s with
     |some (.row ty' t' l),some bs,false=>(match decEq t' t,Nat.beq ty' ty with
      | .isTrue h,true=>(match dec (.lst t (h▸l)::bs)with
        |some x=>some ((m=l.length)::(0<m)::pre x,.undef,s::bJ (fH 3 σ) rest,[(s,some (.row ty t (l' x)))])
        |none=>none)
      |_,_=>none)
     |_,_,_=>none)
   | .ownf z _ a m::rest=>(match σ z,uK (jS 3 σ) rest with
     |some (.fam tyo ity t' L ov),some bs=>(match decEq t' t,Nat.beq ity ty with
      | .isTrue h,true=>(match dec (.lst t ((h▸L:List (List t.ty)).getD a [])::bs)with
        |some x=>some ((a<L.length)::(m=(L.getD a []).length)::(0<m)::(zS ov a++pre x),.undef,z::bJ (fH 3 σ) rest,[(z,some (.fam tyo ity t ((h▸L:List (List t.ty)).set a (l' x)) ov))])
        |none=>none)
      |_,_=>none)
     |_,_=>none)
   |_=>none)
  |_=>none)
theorem aAu{X:Cx}(hX:X.Ok){n:Nat}{o:Oper}{E:SE}{σ:Sg}{c:Call}{f:Operand}(ho:o.op= .call c)(hc:c.callee= .value f):zV X.P n o E σ (Yf X σ (E f) (c.args.toList.map E)):=by
 intro ps r rd W h hp;unfold Yf at h;split at h
 ·cases h
 rename_i fid hf;split at h
 case h_2=>cases h
 rename_i Y dec pre t ty l' hT;have hfv:E.a f= .p (.fn (.func fid) [] []):=Aj hf;have avl:c.args.toList.map E.a=avs (c.args.toList.map E):=by rw[eP,List.map_map];rfl
 have hC:=hX.1 fid _ hT;have hfl:yX t=true/\(match yX t with|true=>c.args.toList.map E|false=>[])=c.args.toList.map E\/(match yX t with|true=>c.args.toList.map E|false=>[])=[] :=by
  cases yX t
  ·exact .inr rfl
  ·exact .inl ⟨rfl,rfl⟩
 generalize (match yX t with|true=>c.args.toList.map E|false=>[])=ys at h hfl
 rcases hfl with⟨hfl,rfl⟩|rfl
 rotate_left
 ·cases h
 split at h
 ·rename_i s lt m rest hxs;split at h
  case h_2=>cases h
  rename_i ty' t' l bs hs hbs hmem;split at h
  case h_2=>cases h
  rename_i ht hty hb;subst ht;split at h<;>cases h;rename_i x hx;have hb:=Nat.eq_of_beq_eq_true hb;subst hb;have e1:m=l.length:=hp _ List.mem_cons_self;have e2:0<m:=hp _ (List.mem_cons_of_mem _ List.mem_cons_self);obtain⟨A,h1,h2⟩:=hC l bs x hx (fun p hq=>hp p (List.mem_cons_of_mem _ (List.mem_cons_of_mem _ hq)))
  obtain⟨⟨q,k1,k2⟩,k3⟩:=mB (sU 3) hbs;have hqA:q=A:=by
   have:=congrArg cK (k2.symm.trans h1);rw[bT,bT]at this;cases this;rfl
  subst hqA;subst e1;refine⟨⟨(s::bJ (fH 3 σ) rest).map aW,bD.sto [(s,some (.row ty' t' (l' x)))],?_,?_⟩,trivial⟩
  rotate_left
  ·exact cR.flat (rd:=s::bJ (fH 3 σ) rest) (W:=[(s,some (.row ty' t' (l' x)))]) fun q hq=>by
    rw[List.mem_singleton.1 hq,hs];exact⟨rfl,rfl⟩
  have:=Gz (σ:=σ.a) (n:=n) (k:=l.length) (s:=aW s) (rest:=avs rest) (A:=q) ho hc hfv (by rw[avl,hxs];rfl) (by rw[Sg.cE,hs];rfl) (Nat.ne_of_gt t'.mR) e2 k1 (by
   rw[k3];intro hm;obtain⟨y,hy,e⟩:=List.mem_map.1 hm;exact wF hmem (by rw[<-fW e];exact hy)) (yK hfl _) h2
  rw[k3]at this;exact this
 ·rename_i z lt a m rest hxs;split at h
  case h_2=>cases h
  rename_i tyo ity t' L ov bs hs hbs;split at h
  case h_2=>cases h
  rename_i ht hty hb;subst ht;split at h<;>cases h;rename_i x hx;have hb:=Nat.eq_of_beq_eq_true hb;subst hb;have e0:a<L.length:=hp _ List.mem_cons_self;have e1:m=(L.getD a []).length:=hp _ (List.mem_cons_of_mem _ List.mem_cons_self);have e2:0<m:=hp _ (List.mem_cons_of_mem _ (List.mem_cons_of_mem _ List.mem_cons_self));have hov:ov.lookup a=none:=kI fun p hq=>hp p (List.mem_cons_of_mem _ (List.mem_cons_of_mem _ (List.mem_cons_of_mem _ (List.mem_append_left _ hq))))
  obtain⟨A,h1,h2⟩:=hC _ bs x hx (fun p hq=>hp p (List.mem_cons_of_mem _ (List.mem_cons_of_mem _ (List.mem_cons_of_mem _ (List.mem_append_right _ hq)))))
  obtain⟨⟨q,k1,k2⟩,k3⟩:=mB (sU 3) hbs;have hqA:q=A:=by
   have:=congrArg cK (k2.symm.trans h1);rw[bT,bT]at this;cases this;rfl
  subst hqA;have hob:Sg.a σ (inn z (a+1))=some ⟨ity,t'.w,(t'.enc (L.getD a [])).map .p⟩:=by
   rw[Sg.fS,hs];show SOb.inner a (.fam tyo ity t' L ov)=_;unfold SOb.inner;dsimp only;rw[hov,List.getD_eq_getElem?_getD,List.getElem?_eq_getElem e0];rfl
  have hlen:(l' x).length=(L.getD a []).length:=by
   have:=h2.2.1;rw[t'.wide.length,t'.wide.length]at this;exact Nat.eq_of_mul_eq_mul_right t'.mR this
  refine⟨⟨inn z (a+1)::bJ (fU 3 σ.a) (avs rest),_,?_,cR.rset (l':=l' x) hs hov e0 hlen ?_⟩,trivial⟩
  ·exact Gz (σ:=σ.a) (n:=n) (k:=m) (s:=inn z (a+1)) (rest:=avs rest) (A:=q) ho hc hfv (by rw[avl,hxs];rfl) hob (Nat.ne_of_gt t'.mR) e2 k1 (by
    rw[k3];intro hm;obtain⟨y,hy,e⟩:=List.mem_map.1 hm;have:=(dC e).2;omega) (yK hfl _) (by rw[e1];exact h2)
  ·intro t ht;rcases List.mem_cons.1 ht with rfl|ht
   ·rw[dI];exact List.mem_cons_self
   ·rw[k3]at ht;exact List.mem_cons_of_mem _ (zI _ t ht)
 ·cases h
def Sk:SV->Option (Nat×Nat)
 | .agg l=>LT.P.dec l
 |_=>none
def tV(k:Nat×Nat):List Int:=[(k.1:Int),(k.2:Int)]
theorem Ls{x:SV}{k:Nat×Nat}(h:Sk x=some k):x.av= .p (.agg (qN (tV k))):=by
 unfold Sk at h;split at h
 ·have:=LT.Bk h;show eN (avs _)=_;rw[this,iX];rfl
 ·cases h
def uL(ks:List (Nat×Nat))(k:Nat×Nat):List (Nat×Nat):=if k∈ks then ks else ks++[k]
theorem Ce{k l:Nat×Nat}(h:tV k=tV l):k=l:=by
 unfold tV at h;simp only[List.cons.injEq,and_true]at h;exact Prod.ext (Int.ofNat_inj.1 h.1) (Int.ofNat_inj.1 h.2)
theorem Ft(k:Nat×Nat):∀ks:List (Nat×Nat),tZ (lQ ks) (tV k) (.p (.bool false))= .p (.bool (decide (k∈ks)))
 |[] =>rfl
 |l::ks=>by
  show(if tV l=tV k then AV.p (.bool true)else tZ (lQ ks) (tV k) (.p (.bool false)))=_
  by_cases e:l=k
  ·subst e;rw[if_pos rfl];simp
  ·rw[if_neg (fun h=>e (Ce h)),Ft k ks]
   have:k≠l:=fun h=>e h.symm
   simp[this]
theorem Lg(k:Nat×Nat):∀ks:List (Nat×Nat),tT (lQ ks) (tV k) (.p (.bool true))=lQ (uL ks k)
 |[] =>rfl
 |l::ks=>by
  show(if tV l=tV k then(tV k,AV.p (.bool true))::lQ ks else(tV l,AV.p (.bool true))::tT (lQ ks) (tV k) (.p (.bool true)))=_
  by_cases e:l=k
  ·subst e;rw[if_pos rfl];unfold uL;rw[if_pos List.mem_cons_self];rfl
  ·rw[if_neg (fun h=>e (Ce h)),Lg k ks]
   have:k≠l:=fun h=>e h.symm
   unfold uL;by_cases h2:k∈ks
   ·rw[if_pos h2,if_pos (List.mem_cons_of_mem _ h2)];rfl
   ·rw[if_neg h2,if_neg (fun h=>(List.mem_cons.1 h).elim this h2)];rfl
theorem Fu{ks:List (Nat×Nat)}(h:ks.Nodup):Km (lQ ks):=by
 unfold Km lQ;rw[List.pairwise_map];exact h.imp fun hne e=>hne (Ce e)
theorem Lh{ks:List (Nat×Nat)}:∀q∈lQ ks,q.1.length=2:=by
 intro q hq;obtain⟨k,_,rfl⟩:=List.mem_map.1 hq;rfl
def smk(X:Cx)(n:Nat)(σ:Sg)(t:TypeId):SR:=match X.mt t,frs σ n with
 |true,true=>some ([],.mp n,[],[(n,some (.mp []))])
 |_,_=>none
theorem aE6{X:Cx}{n:Nat}{o:Oper}{E:SE}{σ:Sg}{t:TypeId}(ho:o.op= .makeMap t none):zV X.P n o E σ (smk X n σ t):=by
 intro ps r rd W h hp;unfold smk at h;split at h<;>cases h;rename_i h1 h2;obtain⟨hn1,hn2⟩:=iP h2;refine⟨⟨[],bD.sto [(n,some (.mp []))],?_,cR.flat (rd:=[]) (W:=[(n,some (.mp []))]) fun q hq=>by rw[List.mem_singleton.1 hq,hn2];exact⟨rfl,rfl⟩⟩,trivial⟩
 have:=Nt (P:=X.P) (E:=E.a) (σ:=σ.a) (n:=n) ho;show bM _ _ _ _ _ (.mp (aW n)) _ [(aW n,some ⟨1,0,[]⟩)];rw[hn1];exact this
def Yl(X:Cx)(σ:Sg)(t:TypeId)(x i:SV):SR:=match X.mt t,x,Sk i with
 |true,.mp s,some k=>(match σ s with
  |some (.mp ks)=>some ([ks.Nodup],.prop (k∈ks) inferInstance,[s],[])
  |_=>none)
 |_,_,_=>none
theorem aAB{X:Cx}(hX:X.Ok){n:Nat}{o:Oper}{E:SE}{σ:Sg}{t:TypeId}{x i:Operand}(ho:o.op= .lookup t x i false):zV X.P n o E σ (Yl X σ t (E x) (E i)):=by
 intro ps r rd W h hp;unfold Yl at h;split at h
 case h_2=>cases h
 rename_i s k hmt hx hi;split at h<;>cases h;rename_i ks hs;obtain⟨kt,et,g1,g2,g3⟩:=hX.2.2 t hmt;have hnd:ks.Nodup:=hp _ (List.mem_singleton.2 rfl);refine⟨⟨[s].map aW,[],?_,cR.read σ [s]⟩,trivial⟩;have:=Qt (E:=E.a) (σ:=σ.a) (n:=n) (m:=2) (s:=aW s) (ks:=lQ ks) (xs:=tV k) (z:= .p (.bool false)) (zv:= .bool false) ho g1 g2 g3 (fun ρ C=>by unfold aE aU;rfl) (by show(E x).av=_;rw[hx];rfl) (by show(E i).av=_;exact Ls hi) rfl (by rw[Sg.cE,hs];rfl) Lh (Fu hnd)
 rw[Ft]at this;exact this
def aEx(X:Cx)(σ:Sg)(t:TypeId)(x i y:SV):SR:=match X.mt t,x,Sk i,y with
 |true,.mp s,some k,.lit true=>(match σ s with
  |some (.mp ks)=>some ([ks.Nodup],.undef,[s],[(s,some (.mp (uL ks k)))])
  |_=>none)
 |_,_,_,_=>none
theorem aBV{X:Cx}(hX:X.Ok){n:Nat}{o:Oper}{E:SE}{σ:Sg}{t:TypeId}{x i y:Operand}(ho:o.op= .mapUpdate t x i y):zV X.P n o E σ (aEx X σ t (E x) (E i) (E y)):=by
 intro ps r rd W h hp;unfold aEx at h;split at h
 case h_2=>cases h
 rename_i s k hmt hx hi hy;split at h<;>cases h;rename_i ks hs;obtain⟨kt,et,g1,g2,g3⟩:=hX.2.2 t hmt;have hnd:ks.Nodup:=hp _ (List.mem_singleton.2 rfl);refine⟨⟨[s].map aW,bD.sto [(s,some (.mp (uL ks k)))],?_,cR.flat (rd:=[s]) (W:=[(s,some (.mp (uL ks k)))]) fun q hq=>by rw[List.mem_singleton.1 hq,hs];exact⟨rfl,rfl⟩⟩,trivial⟩
 have:=Ev (E:=E.a) (σ:=σ.a) (n:=n) (m:=2) (s:=aW s) (ks:=lQ ks) (xs:=tV k) ho g1 g2 (by show(E x).av=_;rw[hx];rfl) (by show(E i).av=_;exact Ls hi) rfl (by rw[Sg.cE,hs];rfl) Lh (Fu hnd)
 rw[show E.a y= .p (.bool true)from by show(E y).av=_;rw[hy];rfl,Lg]at this
 exact this
def orS(a b:SR):SR:=match a with
 |some x=>some x
 |none=>b
theorem Hr{P:Program}{n:Nat}{o:Oper}{E:SE}{σ:Sg}{a b:SR}(ha:zV P n o E σ a)(hb:zV P n o E σ b):zV P n o E σ (orS a b):=by
 intro ps r rd W h hp;cases a with
 |some x=>exact ha ps r rd W h hp
 |none=>exact hb ps r rd W h hp
def Yj(X:Cx)(n:Nat)(σ:Sg)(fv:SV)(xs:List SV):SR:=match Uu fv with
 |none=>none
 |some f=>(match X.T f with
  |some ⟨_,dec,pre,.own ty t l ys⟩=>(match qM (mT 3 σ) xs with
   |some (qs,bs)=>(match dec bs,frs σ n,yX t with
    |some x,true,true=>(match ys x with
     |[] =>some (qs++pre x,.own n t (l x).length,bJ (dT 3 σ) xs,[(n,some (.row ty t (l x)))])
     |_=>none)
    |_,_,_=>none)
   |none=>none)
  |_=>none)
theorem aAx{X:Cx}(hX:X.Ok){n:Nat}{o:Oper}{E:SE}{σ:Sg}{c:Call}{f:Operand}(ho:o.op= .call c)(hc:c.callee= .value f):zV X.P n o E σ (Yj X n σ (E f) (c.args.toList.map E)):=by
 intro ps r rd W h hp;unfold Yj at h;split at h
 ·cases h
 rename_i fid hf;split at h
 case h_2=>cases h
 rename_i Y dec pre ty t l ys hT;split at h
 case h_2=>cases h
 rename_i qs bs hbs;split at h
 case h_2=>cases h
 rename_i x hx hfr hfl;split at h<;>cases h;rename_i hys;have avl:c.args.toList.map E.a=avs (c.args.toList.map E):=by rw[eP,List.map_map];rfl
 obtain⟨A,Y2,h1,h2,h3⟩:=hX.1 fid _ hT bs x hx (fun p hq=>hp p (List.mem_append_right _ hq))
 obtain⟨q,k1,k2⟩:=vW (fun x ps y=>Bt) hbs (fun p hq=>hp p (List.mem_append_left _ hq))
 have hqA:q=A:=by
  have:=congrArg cK (k2.symm.trans h1);rw[bT,bT]at this;cases this;rfl
 subst hqA;have hY:Y2=[] :=by
  rw[hys]at h2;cases Y2 with
  |nil=>rfl
  |cons y Y2=>cases h2
 subst hY;obtain⟨hn1,hn2⟩:=iP hfr;have:=Xk (σ:=σ.a) (n:=n) ho hc (Aj hf) (by rw[avl];exact k1) (yK hfl _) h3
 rw[avl]at this;refine⟨⟨_,bD.sto [(n,some (.row ty t (l x)))],?_,⟨kV (Ti 3) _,(cR.flat (rd:=[]) (W:=[(n,some (.row ty t (l x)))]) fun q hq=>by rw[List.mem_singleton.1 hq,hn2];exact⟨rfl,rfl⟩).2⟩⟩,trivial⟩
 show bM _ _ _ _ _ (.own (aW n) 0 _) _ [(aW n,some _)];rw[hn1];exact this
def aEy(X:Cx)(n:Nat)(o:Op)(E:SE)(σ:Sg):SR:=match o with
 | .call {callee:= .value f,args, .. }=>orS (Fe (Yd X n σ (E f) (args.toList.map E))) (orS (Yg X n σ (E f) (args.toList.map E)) (orS (Yf X σ (E f) (args.toList.map E)) (Yj X n σ (E f) (args.toList.map E))))
 | .makeMap t none=>smk X n σ t
 | .lookup t x i false=>Yl X σ t (E x) (E i)
 | .mapUpdate t x i y=>aEx X σ t (E x) (E i) (E y)
 |_=>none
theorem aBX{X:Cx}(hX:X.Ok){n:Nat}{o:Oper}{E:SE}{σ:Sg}:zV X.P n o E σ (aEy X n o.op E σ):=by
 generalize ho:o.op=op;unfold aEy;split
 ·exact Hr (aAs hX ho rfl) (Hr (aAv hX ho rfl) (Hr (aAu hX ho rfl) (aAx hX ho rfl)))
 ·exact aE6 ho
 ·exact aAB hX ho
 ·exact aBV hX ho
 ·intro ps r rd W h hp;cases h
def aHq(X:Cx)(raw:Bool)(n:Nat)(o:Op)(E:SE)(σ:Sg):SR:=orS (sop X raw n o E σ) (aEy X n o E σ)
theorem aBW{X:Cx}(hX:X.Ok){raw:Bool}{n:Nat}{o:Oper}{E:SE}{σ:Sg}(hE:∀x,(E x).ok):zV X.P n o E σ (aHq X raw n o.op E σ):=by
 refine Hr ?_ (aBX hX);intro ps r rd W h hp;obtain⟨h1,h2⟩:=aE5 hX hE h hp;obtain⟨r',R',W',h3,rfl,h4⟩:=Xp h1;exact⟨⟨R',W',h3,h4⟩,h2⟩
end
end Go.Proofs.YtdaeofhdgabhjaaGreat
namespace Go.Proofs.YtdaeofhdgabhjaaGreat
open Go.RowKit
noncomputable section
theorem dR{P:Program}{N:Nat}{ds:List (Option Nat)}{K K':List AV->Sto->pI->Prop}(hK:∀F L log,K F L log->K' F L log):∀{l:List Oper} {i:Nat} {F:List AV} {L:Sto} {log:pI},iD P N ds l i F L log K->iD P N ds l i F L log K'
 |[],i,F,L,log,h=>by unfold iD at*;exact hK _ _ _ h
 |o::rest,i,F,L,log,h=>by
  unfold iD at*;split at h
  ·obtain⟨r,R,W,Rc,Wc,h1,i1,i2,h2⟩:=h;exact⟨r,R,W,Rc,Wc,h1,i1,i2,dR hK h2⟩
  ·split at h
   ·split at h
    ·rename_i e;rw[if_pos e];obtain⟨r,R,W,Rc,Wc,h1,i1,i2,h2⟩:=h;exact⟨r,R,W,Rc,Wc,h1,i1,i2,dR hK h2⟩
    ·rename_i e;rw[if_neg e];exact dR hK h
   ·exact dR hK h
   ·exact h
theorem Ox.mono{P:Program}{o:Oper}{F:List AV}{L:Sto}{N:Nat}{K K':List AV->Sto->Nat->Prop}(hK:∀F L N,K F L N->K' F L N)(h:Ox P o F L N K):Ox P o F L N K':=
 fun C0 B wI a w hS=>pV (h C0 B wI a w hS) fun _ _ ⟨F',L',N',h1,h2⟩=>⟨F',L',N',hK _ _ _ h1,h2⟩
theorem gU{P:Program}:∀(c:Code) {Q Q':uF} (_:∀e F L N,Q e F L N->Q' e F L N) {F:List AV} {L:Sto} {N:Nat},awp P c Q F L N->awp P c Q' F L N:=by
 intro c;induction c with
 |skip=>intro Q Q' hQ F L N h;exact hQ _ _ _ _ h
 |region id ops draw=>
  intro Q Q' hQ F L N h;rcases h with h|⟨hd,pre,o,h1,h2,h3⟩
  rotate_left
  ·exact .inr ⟨hd,pre,o,h1,h2,dR (fun F L log a=>a.mono fun F L N=>hQ _ _ _ _) h3⟩
  cases draw with
  |true=>obtain⟨anc,h1,h2,h3,h4⟩:=h;exact .inl ⟨anc,h1,h2,h3,dR (fun F L log ⟨a,b⟩=>⟨a,hQ _ _ _ _ b⟩) h4⟩
  |false=>obtain⟨h1,h2⟩:=h;exact .inl ⟨h1,dR (fun F L log a=>hQ _ _ _ _ a) h2⟩
 |seq a b iha ihb=>
  intro Q Q' hQ F L N h;obtain⟨M,h1,h2⟩:=h;refine⟨M,iha ?_ h1,fun F L N hm=> ?_⟩
  ·intro e F L N h;cases e<;>first|exact h|exact hQ _ _ _ _ h
  ·obtain⟨F',L',N',h3,h4⟩:=h2 F L N hm;exact⟨F',L',N',h3,ihb hQ h4⟩
 |cond c t e iht ihe=>
  intro Q Q' hQ F L N h;obtain⟨b,hb,h1,h2⟩:=h;exact⟨b,hb,fun e=>iht hQ (h1 e),fun e=>ihe hQ (h2 e)⟩
 |block id c ih=>
  intro Q Q' hQ F L N h;refine ih ?_ h;intro e F L N h;cases e<;>first|exact hQ _ _ _ _ h|skip
  dsimp only at h|-;split at h
  ·rename_i e;rw[if_pos e];exact hQ _ _ _ _ h
  ·rename_i e;rw[if_neg e];exact hQ _ _ _ _ h
 |loop c ih=>
  intro Q Q' hQ F L N h;obtain⟨Inv,μ,h1,h2⟩:=h;refine⟨Inv,μ,h1,fun F L N hi=>ih ?_ (h2 F L N hi)⟩
  intro e F L N h;cases e<;>first|exact h|exact hQ _ _ _ _ h
 |exit id=>intro Q Q' hQ F L N h;exact hQ _ _ _ _ h
 |ret=>intro Q Q' hQ F L N h;exact hQ _ _ _ _ h
 |rangeFunc f params x y _ _=>intro Q Q' hQ F L N h;exact h.elim
 |scope c ih=>
  intro Q Q' hQ F L N h;refine ih ?_ h;intro e F L N h;cases e<;>first|exact hQ _ _ _ _ h|exact h
 |label l=>intro Q Q' hQ F L N h;exact hQ _ _ _ _ h
 |goto l=>intro Q Q' hQ F L N h;exact h.elim
 |refuse s=>intro Q Q' hQ F L N h;exact h.elim
def Frm.ok(F:Frm):Prop:=∀t,(F.at t).ok
theorem aE1(v:Value):(svC v).ok:=by
 unfold svC;split
 ·split<;>trivial
 ·split<;>trivial
 ·unfold svK;split<;>trivial
theorem aBe{n:Nat}{F:Frm}(h:F.ok)(x:Operand):(Ay n F x).ok:=by
 cases x with
 |tmp t=>
  show(match Nat.blt t n with|true=>F.at t|false=>SV.any).ok
  split
  ·exact h t
  ·trivial
 |const v=>exact aE1 v
 |func f=>trivial
 |global g=>trivial
theorem Frm.Ts{F:Frm}(h:F.ok){d:Nat}{v:SV}(hv:v.ok):Frm.ok ((d,v)::F):=by
 intro t;rw[Frm.iA];split
 ·exact hv
 ·exact h t
def Ec(n:Nat)(F:Frm)(d:Option Nat)(r:SV):Frm:=match d with
 |none=>F
 |some d=>(match Nat.blt d n with|true=>(d,r)::F|false=>F)
theorem fB(a b:Nat):Nat.blt a b=true↔a<b:=by
 unfold Nat.blt;constructor
 ·intro h;exact Nat.le_of_ble_eq_true h
 ·intro h;exact Nat.ble_eq_true_of_le h
theorem Xm{a b:Nat}(h:Nat.blt a b=false):¬a<b:=fun hh=>by rw[(fB a b).2 hh]at h;cases h
theorem Iq{n:Nat}{F:Frm}{d:Option Nat}{r:SV}:hU (F.av n) d r.av=(Ec n F d r).av n:=by
 cases d with
 |none=>rfl
 |some d=>
  unfold Ec;dsimp only;split
  ·rename_i h;exact Frm.aFy ((fB _ _).1 h)
  ·rename_i h;unfold hU;dsimp only;rw[List.set_eq_of_length_le (by rw[Frm.dQ];exact Nat.le_of_not_lt (Xm h))]
def Pre(S:Nat->Prop)(F F':Frm):Prop:=∃pre:Frm,F'=pre++F/\∀q∈pre,S q.1
def lS(L L':bD):Prop:=∃pre:bD,L'=pre++L
theorem Pre.rfl{S:Nat->Prop}{F:Frm}:Pre S F F:=⟨[],by simp,fun q h=>by cases h⟩
theorem Pre.trans{S:Nat->Prop}{F G H:Frm}(h1:Pre S F G)(h2:Pre S G H):Pre S F H:=by
 obtain⟨p,rfl,hp⟩:=h1;obtain⟨q,rfl,hq⟩:=h2;exact⟨q++p,by simp,fun r hr=>by rcases List.mem_append.1 hr with h|h;exact hq r h;exact hp r h⟩
theorem Pre.mono{S T:Nat->Prop}{F G:Frm}(h1:Pre S F G)(h:∀d,S d->T d):Pre T F G:=by
 obtain⟨p,e,hp⟩:=h1;exact⟨p,e,fun q hq=>h _ (hp q hq)⟩
theorem lS.rfl{L:bD}:lS L L:=⟨[],by simp⟩
theorem lS.trans{L M O:bD}(h1:lS L M)(h2:lS M O):lS L O:=by
 obtain⟨p,rfl⟩:=h1;obtain⟨q,rfl⟩:=h2;exact⟨q++p,by simp⟩
theorem By{n:Nat}{F:Frm}{d:Option Nat}{r:SV}{S:Nat->Prop}(h:∀t,d=some t->S t):Pre S F (Ec n F d r):=by
 cases d with
 |none=>exact Pre.rfl
 |some d=>
  unfold Ec;dsimp only;split
  ·exact⟨[(d,r)],by simp,fun q hq=>by simp at hq;subst hq;exact h d (by simp)⟩
  ·exact Pre.rfl
theorem Ip{n:Nat}{F:Frm}{d:Option Nat}{r:SV}(h:F.ok)(hr:r.ok):(Ec n F d r).ok:=by
 cases d with
 |none=>exact h
 |some d=>
  unfold Ec;dsimp only;split
  ·exact Frm.Ts h hr
  ·exact h
def Eh(X:Cx)(n:Nat)(raw:Bool)(N i:Nat)(o:Oper)(F:Frm)(L:bD)(log:pI)(k:Frm->bD->pI->Fm):Fm:=match aHq X raw (N+i) o.op (Ay n F) L.at with
 |some (ps,r,R,W)=>yU ps (k (Ec n F o.dst r) (W++L) (log++[(R.map ncl,W.map fun(q:Nat×Option SOb)=>ncl q.1)]))
 |none=> .stuck i
def An(n:Nat)(o:Oper)(F:Frm)(L:bD)(log:pI)(k:Frm->bD->pI->Fm):Fm:=k (Ec n F o.dst .undef) L (log++[([],[])])
def lK(X:Cx)(n:Nat)(raw:Nat->Bool)(N:Nat)(ds:List (Option Nat)):List Oper->Nat->Frm->bD->pI->(Frm->bD->pI->Fm)->Fm
 |[],_,F,L,log,K=>K F L log
 |o::rest,i,F,L,log,K=>match o.guard with
  |none=>Eh X n (raw i) N i o F L log fun F L log=>lK X n raw N ds rest (i+1) F L log K
  |some (j,want)=>(match(ds[j]?).join with
   |some d=>(match Nat.blt d n,F.at d with
    |true,.lit b=>(match b,want with
     |true,false=>An n o F L log fun F L log=>lK X n raw N ds rest (i+1) F L log K
     |false,true=>An n o F L log fun F L log=>lK X n raw N ds rest (i+1) F L log K
     |_,_=>Eh X n (raw i) N i o F L log fun F L log=>lK X n raw N ds rest (i+1) F L log K)
    |true,.undef=>An n o F L log fun F L log=>lK X n raw N ds rest (i+1) F L log K
    |true,.prop p _=> .both
     (.imp p (match want with
       |true=>Eh X n (raw i) N i o ((d,.lit true)::F) L log fun F L log=>lK X n raw N ds rest (i+1) F L log K
       |false=>An n o ((d,.lit true)::F) L log fun F L log=>lK X n raw N ds rest (i+1) F L log K))
     (.imp (¬p) (match want with
       |false=>Eh X n (raw i) N i o ((d,.lit false)::F) L log fun F L log=>lK X n raw N ds rest (i+1) F L log K
       |true=>An n o ((d,.lit false)::F) L log fun F L log=>lK X n raw N ds rest (i+1) F L log K))
    |true,.bool c=> .both
     (.imp (c=true) (match want with
       |true=>Eh X n (raw i) N i o ((d,.lit true)::F) L log fun F L log=>lK X n raw N ds rest (i+1) F L log K
       |false=>An n o ((d,.lit true)::F) L log fun F L log=>lK X n raw N ds rest (i+1) F L log K))
     (.imp (c=false) (match want with
       |false=>Eh X n (raw i) N i o ((d,.lit false)::F) L log fun F L log=>lK X n raw N ds rest (i+1) F L log K
       |true=>An n o ((d,.lit false)::F) L log fun F L log=>lK X n raw N ds rest (i+1) F L log K))
    |_,_=> .stuck i)
   |none=> .stuck i)
theorem Frm.aCL{n:Nat}{F:Frm}{d:Nat}{v:SV}(h:v.av=(F.at d).av):Frm.av n ((d,v)::F)=F.av n:=by
 unfold Frm.av;apply List.map_congr_left;intro t _;rw[Frm.iA];split
 ·rename_i e;rw[e];exact h
 ·rfl
def bD.fn(L:bD):Sto:=Sg.a L.at
def mQ(n:Nat)(S:Nat->Prop)(F:Frm)(L:bD)(FA:List AV)(LA:Sto)(G:Frm->bD->Prop):Prop:=∃F' L',FA=F'.av n/\LA=L'.fn/\F'.ok/\Pre S F F'/\lS L L'/\G F' L'
theorem mQ.step{n:Nat}{S:Nat->Prop}{F F1:Frm}{L L1:bD}{FA:List AV}{LA:Sto}{G:Frm->bD->Prop}(h1:Pre S F F1)(h2:lS L L1)(h:mQ n S F1 L1 FA LA G):mQ n S F L FA LA G:=by
 obtain⟨F',L',a,b,c,d,e,f⟩:=h;exact⟨F',L',a,b,c,h1.trans d,h2.trans e,f⟩
theorem vS{X:Cx}(hX:X.Ok){n:Nat}{raw:Nat->Bool}{N:Nat}{ds:List (Option Nat)}{K:Frm->bD->pI->Fm}:
  ∀(l:List Oper) (i:Nat) (F:Frm) (L:bD) (log:pI),(∀o∈l,o.dst∈ds)->F.ok->(lK X n raw N ds l i F L log K).holds->
   iD X.P N ds l i (F.av n) L.fn log fun FA LA log'=>mQ n (fun d=>some d∈ds) F L FA LA fun F' L'=>(K F' L' log').holds
 |[],i,F,L,log,_,hF,h=>by
  unfold lK at h;unfold iD;exact⟨F,L,rfl,rfl,hF,Pre.rfl,lS.rfl,h⟩
 |o::rest,i,F,L,log,hd,hF,h=>by
  have hd':∀o∈rest,o.dst∈ds:=fun o ho=>hd o (List.mem_cons_of_mem _ ho)
  have hod:∀t,o.dst=some t->some t∈ds:=fun t ht=>by rw[<-ht];exact hd o List.mem_cons_self
  have run:∀F:Frm,F.ok->(Eh X n (raw i) N i o F L log fun F L log=>lK X n raw N ds rest (i+1) F L log K).holds->
    ∃r R W Rc Wc,bM X.P o (kF (F.av n)) L.fn (N+i) r R W/\inC R Rc/\inC (W.map (·.1)) Wc/\iD X.P N ds rest (i+1) (hU (F.av n) o.dst r) (cB L.fn W) (log++[(Rc,Wc)]) fun FA LA log'=>mQ n (fun d=>some d∈ds) F L FA LA fun F' L'=>(K F' L' log').holds:=by
   intro F hF h;unfold Eh at h;split at h
   ·rename_i ps r R W hs;obtain⟨h1,h2⟩:=gY h;obtain⟨⟨R',W',h5,f1,f2,f3⟩,h4⟩:=aBW hX (aBe hF) _ _ _ _ hs h1;have e1:SE.a (Ay n F)=kF (F.av n):=funext fun x=>Ci x
    rw[e1]at h5;refine⟨r.av,R',W',_,_,h5,f1,f2,?_⟩;have e3:cB L.fn W'=bD.fn (W++L):=by unfold bD.fn;rw[f3,bD.Rz]
    rw[Iq,e3];exact dR (fun _ _ _=>mQ.step (By hod) ⟨W,rfl⟩) (vS hX rest (i+1) _ _ _ hd' (Ip hF h4) h2)
   ·exact h.elim
  have skip:∀F:Frm,F.ok->(An n o F L log fun F L log=>lK X n raw N ds rest (i+1) F L log K).holds->
    iD X.P N ds rest (i+1) (hU (F.av n) o.dst .undef) L.fn (log++[([],[])]) fun FA LA log'=>mQ n (fun d=>some d∈ds) F L FA LA fun F' L'=>(K F' L' log').holds:=by
   intro F hF h;unfold An at h;have:=vS hX rest (i+1) _ _ _ hd' (Ip (n:=n) (d:=o.dst) hF (show SV.ok .undef from trivial)) h
   rw[<-Iq]at this;exact dR (fun _ _ _=>mQ.step (By hod) lS.rfl) this
  unfold lK at h;unfold iD;split at h
  ·rename_i hg;rw[hg];exact run F hF h
  ·rename_i j want hg;rw[hg];dsimp only;split at h
   case h_2=>exact h.elim
   rename_i d hdj;have hds:some d∈ds:=by
    cases hx:ds[j]? with
    |none=>rw[hx]at hdj;cases hdj
    |some y=>rw[hx]at hdj;have:y=some d:=hdj;subst this;exact List.mem_of_getElem? hx
   have gd:∀F:Frm,d<n->gdA ds (F.av n) j=(match(F.at d).av with| .p (.bool b)=>some (some b)| .undef=>some none|_=>none):=by
    intro F hlt;unfold gdA;rw[hdj];dsimp only;rw[Frm.iR hlt];rfl
   have split1:∀(b:Bool),d<n->(F.at d).av= .p (.bool b)->(match want with
      |true=>(match b with
       |true=>Eh X n (raw i) N i o ((d,.lit true)::F) L log fun F L log=>lK X n raw N ds rest (i+1) F L log K
       |false=>An n o ((d,.lit false)::F) L log fun F L log=>lK X n raw N ds rest (i+1) F L log K)
      |false=>(match b with
       |true=>An n o ((d,.lit true)::F) L log fun F L log=>lK X n raw N ds rest (i+1) F L log K
       |false=>Eh X n (raw i) N i o ((d,.lit false)::F) L log fun F L log=>lK X n raw N ds rest (i+1) F L log K)).holds->
     (match(gdA ds (F.av n) j:Option (Option Bool))with
       |some (some b)=>if b=want then∃r R W Rc Wc,bM X.P o (kF (F.av n)) L.fn (N+i) r R W/\inC R Rc/\inC (W.map (·.1)) Wc/\iD X.P N ds rest (i+1) (hU (F.av n) o.dst r) (cB L.fn W) (log++[(Rc,Wc)]) (fun FA LA log'=>mQ n (fun d=>some d∈ds) F L FA LA fun F' L'=>(K F' L' log').holds)
        else iD X.P N ds rest (i+1) (hU (F.av n) o.dst .undef) L.fn (log++[([],[])]) (fun FA LA log'=>mQ n (fun d=>some d∈ds) F L FA LA fun F' L'=>(K F' L' log').holds)
       |some none=>iD X.P N ds rest (i+1) (hU (F.av n) o.dst .undef) L.fn (log++[([],[])]) (fun FA LA log'=>mQ n (fun d=>some d∈ds) F L FA LA fun F' L'=>(K F' L' log').holds)
       |none=>False):=by
    intro b hlt hb h;rw[gd F hlt,hb];dsimp only;have e0:∀c,c=b->Frm.av n ((d,.lit c)::F)=F.av n:=fun c hc=>Frm.aCL (by rw[hb,hc];rfl)
    have hpre:∀c,Pre (fun d=>some d∈ds) F ((d,SV.lit c)::F):=fun c=>⟨[(d,.lit c)],rfl,fun q hq=>by simp at hq;subst hq;exact hds⟩
    have up:∀c FA LA (G:Frm->bD->Prop),mQ n (fun d=>some d∈ds) ((d,SV.lit c)::F) L FA LA G->mQ n (fun d=>some d∈ds) F L FA LA G:=fun c FA LA G=>mQ.step (hpre c) lS.rfl
    have hok:∀c,Frm.ok ((d,SV.lit c)::F):=fun c=>Frm.Ts hF (show SV.ok (.lit c)from trivial)
    cases want<;>cases b<;>dsimp only at h
    ·rw[if_pos rfl];have:=run _ (hok false) h;rw[e0 false rfl]at this;obtain⟨r,R,W,Rc,Wc,h1,i1,i2,h2⟩:=this;exact⟨r,R,W,Rc,Wc,h1,i1,i2,dR (fun _ _ _=>up false _ _ _) h2⟩
    ·rw[if_neg (by decide)]
     have:=skip _ (hok true) h;rw[e0 true rfl]at this;exact dR (fun _ _ _=>up true _ _ _) this
    ·rw[if_neg (by decide)]
     have:=skip _ (hok false) h;rw[e0 false rfl]at this;exact dR (fun _ _ _=>up false _ _ _) this
    ·rw[if_pos rfl];have:=run _ (hok true) h;rw[e0 true rfl]at this;obtain⟨r,R,W,Rc,Wc,h1,i1,i2,h2⟩:=this;exact⟨r,R,W,Rc,Wc,h1,i1,i2,dR (fun _ _ _=>up true _ _ _) h2⟩
   split at h
   ·rename_i b hlt hb;have hlt:=(fB _ _).1 hlt;rw[gd F hlt,hb];show(if b=want then _ else _)
    cases b<;>cases want<;>dsimp only at h
    ·rw[if_pos rfl];exact run F hF h
    ·rw[if_neg (by decide)];exact skip F hF h
    ·rw[if_neg (by decide)];exact skip F hF h
    ·rw[if_pos rfl];exact run F hF h
   ·rename_i hlt hb;have hlt:=(fB _ _).1 hlt;rw[gd F hlt,hb];exact skip F hF h
   ·rename_i p dec hlt hb;obtain⟨h1,h2⟩:=Fm.kL h;have hlt:=(fB _ _).1 hlt;have hav:(F.at d).av= .p (.bool (@decide p dec)):=by rw[hb];rfl
    by_cases hp:p
    ·refine split1 true hlt (by rw[hav];simp[hp]) ?_
     have h1:=(h1:p->_) hp;cases want<;>exact h1
    ·refine split1 false hlt (by rw[hav];simp[hp]) ?_
     have h2:=(h2:¬p->_) hp;cases want<;>exact h2
   ·rename_i c hlt hb;obtain⟨h1,h2⟩:=Fm.kL h;have hlt:=(fB _ _).1 hlt;have hav:(F.at d).av= .p (.bool c):=by rw[hb];rfl
    cases c with
    |true=>
     refine split1 true hlt hav ?_;have h1:=(h1:(true=true)->_) rfl;cases want<;>exact h1
    |false=>
     refine split1 false hlt hav ?_;have h2:=(h2:(false=false)->_) rfl;cases want<;>exact h2
   ·exact h.elim
end
end Go.Proofs.YtdaeofhdgabhjaaGreat
namespace Go.Proofs.YtdaeofhdgabhjaaGreat
open Go.RowKit
noncomputable section
abbrev Rm:=List (Nat×Option Nat)
def qG:Rm->Nat->Option (Option Nat)
 |[],_=>none
 |(k,x)::m,s=>match Nat.beq s k with|true=>some x|false=>qG m s
def Eg(f:SV->SV->Option (List Prop×Rm)):List SV->List SV->Option (List Prop×Rm)
 |[],[] =>some ([],[])
 |x::l,y::r=>(match f x y,Eg f l r with
  |some (p,m),some (q,k)=>some (p++q,m++k)
  |_,_=>none)
 |_,_=>none
def aEM:SV->SV->Option (List Prop×Rm)
 | .any,_=>some ([],[])
 | .undef,.undef=>some ([],[])
 | .nil,.nil=>some ([],[])
 | .int k a,.int k' b=>(match decEq k k' with| .isTrue _=>some ([b=a],[])| .isFalse _=>none)
 | .bool a,.bool b=>some ([b=a],[])
 | .bool a,.lit b=>some ([b=a],[])
 | .bool a,.prop p d=>some ([@decide p d=a],[])
 | .lit a,.lit b=>some ([b=a],[])
 | .lit a,.bool b=>some ([b=a],[])
 | .lit a,.prop p d=>some ([@decide p d=a],[])
 | .prop p _,.prop q _=>some ([q↔p],[])
 | .prop p d,.bool b=>some ([b= @decide p d],[])
 | .prop p d,.lit b=>some ([b= @decide p d],[])
 | .str a,.str b=>some ([b=a],[])
 | .lst t l,.lst t' l'=>(match decEq t' t with| .isTrue h=>some ([(h▸l':List t.ty)=l],[])| .isFalse _=>none)
 | .lst _ l,.sl 0 [] =>some ([l=[]],[])
 | .lst t l,.sl n cs=>(match t.decs n cs with|some l'=>some ([l'=l],[])|none=>none)
 | .ptr s off,.ptr s' off'=>(match Nat.beq off off' with|true=>some ([],[(s,some s')])|false=>none)
 | .own s t n,.own s' t' n'=>(match decEq t' t with| .isTrue _=>some ([n'=n],[(s,some s')])| .isFalse _=>none)
 | .own s _ n,.ownx s' n'=>some ([n'=n],[(s,some s')])
 | .own s _ n,.nil=>some ([n=0],[(s,none)])
 | .ownx s n,.ownx s' n'=>(match Nat.beq n n' with|true=>some ([],[(s,some s')])|false=>none)
 | .owF s n,.owF s' n'=>some ([n'=n],[(s,some s')])
 | .mp s,.mp s'=>some ([],[(s,some s')])
 | .junk,.junk=>some ([],[])
 |_,_=>none
def eqv:Nat->SV->SV->Option (List Prop×Rm)
 |d+1,.agg l,.agg r=>Eg (eqv d) l r
 |d+1,.tup l,.tup r=>Eg (eqv d) l r
 |d+1,.fn f a b,.fn f' a' b'=>(match Nat.beq f f',Eg (eqv d) a a',Eg (eqv d) b b' with
  |true,some (p,m),some (q,k)=>some (p++q,m++k)
  |_,_,_=>none)
 |_,x,y=>aEM x y
def iF(m:Rf)(r:Rm):Prop:=∀q∈r,m (aW q.1)=some (q.2.map aW)
theorem iF.left{m:Rf}{r k:Rm}(h:iF m (r++k)):iF m r:=fun q hq=>h q (List.mem_append_left _ hq)
theorem iF.right{m:Rf}{r k:Rm}(h:iF m (r++k)):iF m k:=fun q hq=>h q (List.mem_append_right _ hq)
theorem kW{f:SV->SV->Option (List Prop×Rm)}{m:Rf}(hf:∀x y ps r,f x y=some (ps,r)->(∀p∈ps,p)->iF m r->cS m x.av y.av):
  ∀{l k:List SV} {ps:List Prop} {r:Rm},Eg f l k=some (ps,r)->(∀p∈ps,p)->iF m r->dD m (avs l) (avs k)
 |[],[],ps,r,_,_,_=>by simp only[avs];unfold dD;rfl
 |[],_::_,ps,r,h,_,_=>by cases h
 |_::_,[],ps,r,h,_,_=>by cases h
 |x::l,y::k,ps,r,h,hp,hm=>by
  unfold Eg at h;split at h<;>cases h;rename_i p m1 q m2 h1 h2;rw[avs,avs];unfold dD;exact⟨_,_,rfl,hf x y p m1 h1 (fun a ha=>hp a (List.mem_append_left _ ha)) hm.left,kW hf h2 (fun a ha=>hp a (List.mem_append_right _ ha)) hm.right⟩
theorem Mq{m:Rf}{x y:SV}{ps:List Prop}{r:Rm}(h:aEM x y=some (ps,r))(hp:∀p∈ps,p)(hm:iF m r):cS m x.av y.av:=by
 unfold aEM at h;split at h
 ·simp only[SV.av];unfold cS;trivial
 ·simp only[SV.av];unfold cS;rfl
 ·simp only[SV.av];unfold cS;rfl
 ·split at h<;>cases h;rename_i e _;subst e;refine cX ?_;rw[<-hp _ (List.mem_singleton.2 rfl)];rfl
 ·cases h;refine cX ?_;rw[<-hp _ (List.mem_singleton.2 rfl)];rfl
 ·cases h;refine cX ?_;rw[<-hp _ (List.mem_singleton.2 rfl)];rfl
 ·cases h;refine cX ?_;rw[<-hp _ (List.mem_singleton.2 rfl)];rfl
 ·cases h;refine cX ?_;rw[<-hp _ (List.mem_singleton.2 rfl)];rfl
 ·cases h;refine cX ?_;rw[<-hp _ (List.mem_singleton.2 rfl)];rfl
 ·cases h;refine cX ?_;rw[<-hp _ (List.mem_singleton.2 rfl)];rfl
 ·rename_i p d q e;cases h;refine cX ?_;have hh:q↔p:=hp _ (List.mem_singleton.2 rfl);show AV.p (.bool (decide q))=AV.p (.bool (decide p))
  congr 2
  exact decide_eq_decide.2 hh
 ·cases h;refine cX ?_;rw[<-hp _ (List.mem_singleton.2 rfl)];rfl
 ·cases h;refine cX ?_;rw[<-hp _ (List.mem_singleton.2 rfl)];rfl
 ·cases h;refine cX ?_;rw[<-hp _ (List.mem_singleton.2 rfl)];rfl
 ·rename_i t l t' l';split at h<;>cases h;rename_i e _;subst e;have:l'=l:=hp _ (List.mem_singleton.2 rfl);subst this;exact cX rfl
 ·cases h;rename_i t l;have:l=[] :=hp _ (List.mem_singleton.2 rfl);subst this;exact cX rfl
 ·rename_i t l n cs _;split at h<;>cases h;rename_i l' hl;have:l'=l:=hp _ (List.mem_singleton.2 rfl);subst this;obtain⟨e1,e2⟩:=LT.sP hl;refine cX ?_;show(match cK (avs cs)with|some q=>AV.p (.sl n q)|none=> .any)=_
  rw[e2,bT,e1]
 ·rename_i s off s' off';split at h<;>cases h;rename_i e;simp only[SV.av];unfold cS;exact⟨aW s',hm _ (List.mem_singleton.2 rfl),by rw[Nat.eq_of_beq_eq_true e]⟩
 ·rename_i s t n s' t' n';split at h<;>cases h;have:n'=n:=hp _ (List.mem_singleton.2 rfl);simp only[SV.av];unfold cS;exact .inl ⟨aW s',hm _ (List.mem_singleton.2 rfl),by rw[this]⟩
 ·cases h;rename_i s t n s' n';have:n'=n:=hp _ (List.mem_singleton.2 rfl);simp only[SV.av];unfold cS;exact .inl ⟨aW s',hm _ (List.mem_singleton.2 rfl),by rw[this]⟩
 ·cases h;rename_i s t n;have:n=0:=hp _ (List.mem_singleton.2 rfl);simp only[SV.av];unfold cS;exact .inr ⟨hm _ (List.mem_singleton.2 rfl),rfl,rfl,this⟩
 ·rename_i s n s' n';split at h<;>cases h;rename_i e;simp only[SV.av];unfold cS;exact .inl ⟨aW s',hm _ (List.mem_singleton.2 rfl),by rw[Nat.eq_of_beq_eq_true e]⟩
 ·cases h;rename_i s n s' n';have:n'=n:=hp _ (List.mem_singleton.2 rfl);simp only[SV.av];unfold cS;exact .inl ⟨aW s',hm _ (List.mem_singleton.2 rfl),by rw[this]⟩
 ·cases h;rename_i s s';simp only[SV.av];unfold cS;exact⟨aW s',hm _ (List.mem_singleton.2 rfl),rfl⟩
 ·cases h;exact cX rfl
 ·cases h
theorem sO{m:Rf}:∀(d:Nat) (x y:SV) (ps:List Prop) (r:Rm),eqv d x y=some (ps,r)->(∀p∈ps,p)->iF m r->cS m x.av y.av:=by
 intro d;induction d with
 |zero=>
  intro x y ps r h hp hm;refine Mq (ps:=ps) (r:=r) ?_ hp hm;exact h
 |succ d ih=>
  intro x y ps r h hp hm;unfold eqv at h;split at h
  ·rename_i d' l k e;cases e;exact tB (kW ih h hp hm)
  ·rename_i d' l k e;cases e;exact xV (kW ih h hp hm)
  ·rename_i d' f a b f' a' b' e;cases e;split at h<;>cases h;rename_i p m1 q m2 e h1 h2;show cS m (.fn (.func f) (avs a) (avs b)) (.fn (.func f') (avs a') (avs b'));unfold cS;exact⟨_,_,by rw[Nat.eq_of_beq_eq_true e],kW ih h1 (fun a ha=>hp a (List.mem_append_left _ ha)) hm.left,kW ih h2 (fun a ha=>hp a (List.mem_append_right _ ha)) hm.right⟩
  ·exact Mq h hp hm
mutual
def SV.sites:SV->List Nat
 | .agg l=>oH l
 | .tup l=>oH l
 | .fn _ a b=>oH a++oH b
 | .ptr s _=>[s]
 | .pte s _ _ _=>[s]
 | .own s _ _=>[s]
 | .owns s _ _ _=>[s]
 | .ownx s _=>[s]
 | .ownf s _ _ _=>[s]
 | .ptef s _ _ _ _=>[s]
 | .ptf s _=>[s]
 | .owF s _=>[s]
 | .mp s=>[s]
 |_=>[]
def oH:List SV->List Nat
 |[] =>[]
 |x::l=>x.sites++oH l
end
def Ux(m:Rf)(s:Nat):Prop:=∀a,m (inn s a)=some (some (inn s a))
mutual
theorem sV{m:Rf}:∀(v:SV),(∀s∈v.sites,Ux m s)->cS m v.av v.av
 | .any,_=>by simp only[SV.av];unfold cS;trivial
 | .undef,_=>by simp only[SV.av];unfold cS;rfl
 | .nil,_=>by simp only[SV.av];unfold cS;rfl
 | .int _ _,_=>cX rfl
 | .bool _,_=>cX rfl
 | .lit _,_=>cX rfl
 | .prop _ _,_=>cX rfl
 | .str _,_=>cX rfl
 | .lst _ _,_=>cX rfl
 | .pe _ _ _ _,_=>cX rfl
 | .clo1 _ _ _ _,_=>cX rfl
 | .clo2 _ _ _ _,_=>cX rfl
 | .ptb _ _ _,_=>cX rfl
 | .junk,_=>cX rfl
 | .mp s,h=>by simp only[SV.av];unfold cS;exact⟨aW s,h s (by simp[SV.sites]) 0,rfl⟩
 | .sl n cs,_=>by
   simp only[SV.av];split
   ·exact cX rfl
   ·unfold cS;trivial
 | .pro cs off,_=>by
   simp only[SV.av];split
   ·exact cX rfl
   ·unfold cS;trivial
 | .fnp f a b,_=>by
   simp only[SV.av];split
   ·exact cX rfl
   ·unfold cS;trivial
 | .agg l,h=>by simp only[SV.av];exact tB (iW l h)
 | .tup l,h=>by simp only[SV.av];exact xV (iW l h)
 | .fn f a b,h=>by
   simp only[SV.av];unfold cS;exact⟨_,_,rfl,iW a (fun s hs=>h s (by simp only[SV.sites];exact List.mem_append_left _ hs)),iW b (fun s hs=>h s (by simp only[SV.sites];exact List.mem_append_right _ hs))⟩
 | .ptr s off,h=>by simp only[SV.av];unfold cS;exact⟨aW s,h s (by simp[SV.sites]) 0,rfl⟩
 | .pte s t i off,h=>by simp only[SV.av];unfold cS;exact⟨aW s,h s (by simp[SV.sites]) 0,rfl⟩
 | .own s t n,h=>by simp only[SV.av];unfold cS;exact .inl ⟨aW s,h s (by simp[SV.sites]) 0,rfl⟩
 | .owns s t o n,h=>by simp only[SV.av];unfold cS;exact .inl ⟨aW s,h s (by simp[SV.sites]) 0,rfl⟩
 | .ownx s n,h=>by simp only[SV.av];unfold cS;exact .inl ⟨aW s,h s (by simp[SV.sites]) 0,rfl⟩
 | .owF s n,h=>by simp only[SV.av];unfold cS;exact .inl ⟨aW s,h s (by simp[SV.sites]) 0,rfl⟩
 | .ownf s t a n,h=>by simp only[SV.av];unfold cS;exact .inl ⟨inn s (a+1),h s (by simp[SV.sites]) (a+1),rfl⟩
 | .ptf s a,h=>by simp only[SV.av];unfold cS;exact⟨aW s,h s (by simp[SV.sites]) 0,rfl⟩
 | .ptef s t a i off,h=>by simp only[SV.av];unfold cS;exact⟨inn s (a+1),h s (by simp[SV.sites]) (a+1),rfl⟩
theorem iW{m:Rf}:∀(l:List SV),(∀s∈oH l,Ux m s)->dD m (avs l) (avs l)
 |[],_=>by simp only[avs];unfold dD;rfl
 |x::l,h=>by
  simp only[avs];unfold dD;exact⟨_,_,rfl,sV x (fun s hs=>h s (by simp only[oH];exact List.mem_append_left _ hs)),iW l (fun s hs=>h s (by simp only[oH];exact List.mem_append_right _ hs))⟩
end
def SOb.sites:SOb->List Nat
 | .box _ cs=>oH cs
 | .arr _ _ cs=>oH cs
 | .row .. =>[]
 | .fam _ _ _ _ ov=>ov.flatMap fun q=>q.2.sites
 | .mp _=>[]
theorem xX{ov:List (Nat×SV)}{i:Nat}{v:SV}(h:ov.lookup i=some v):(i,v)∈ov:=by
 induction ov with
 |nil=>cases h
 |cons q ov ih=>
  rw[List.lookup_cons]at h;split at h
  ·rename_i e;cases h;rw[beq_iff_eq.1 e];exact List.mem_cons_self
  ·exact List.mem_cons_of_mem _ (ih h)
theorem zG{m:Rf}(o:SOb)(x:Nat)(hx:Ux m x)(h:∀s∈o.sites,Ux m s):vN m (o.ob x) (o.ob x):=by
 cases o with
 |box ty cs=>exact⟨rfl,rfl,iW cs h⟩
 |arr ty ez cs=>exact⟨rfl,rfl,iW cs h⟩
 |row ty t l=>exact⟨rfl,rfl,eE m _⟩
 |mp ks=>refine⟨rfl,rfl,?_⟩;show dD m (kD (lQ ks)) (kD (lQ ks));rw[kJ];exact eE m _
 |fam ty ity t L ov=>
  refine⟨rfl,rfl,oU _ _ _ fun i _=> ?_⟩
  unfold oO;split
  ·rename_i v hv;exact sV v fun s hs=>h s (List.mem_flatMap.2 ⟨(i,v),xX hv,hs⟩)
  ·unfold cS;exact .inl ⟨_,hx (i+1),rfl⟩
def Fh:SOb->SOb->Option (List Prop×Rm)
 | .box ty cs,.box ty' cs'=>(match Nat.beq ty ty' with|true=>Eg (eqv 3) cs cs'|false=>none)
 | .arr ty ez cs,.arr ty' ez' cs'=>(match Nat.beq ty ty',Nat.beq ez ez' with|true,true=>Eg (eqv 3) cs cs'|_,_=>none)
 | .row ty t l,.row ty' t' l'=>(match Nat.beq ty ty',decEq t' t with|true,.isTrue h=>some ([(h▸l':List t.ty)=l],[])|_,_=>none)
 | .mp ks,.mp ks'=>some ([ks'=ks],[])
 | .row ty t l,.arr ty' ez cs=>(match Nat.beq ty ty',Nat.beq ez t.w,t.decs (cs.length/t.w) cs with|true,true,some l'=>some ([l'=l],[])|_,_,_=>none)
 |_,_=>none
theorem Gu{m:Rf}{x y:SOb}{ps:List Prop}{r:Rm}(h:Fh x y=some (ps,r))(hp:∀p∈ps,p)(hm:iF m r)(k k':Nat):vN m (x.ob k) (y.ob k'):=by
 unfold Fh at h;split at h
 ·split at h
  ·rename_i e;exact⟨Nat.eq_of_beq_eq_true e,rfl,kW (sO 3) h hp hm⟩
  ·cases h
 ·split at h
  ·rename_i e1 e2;exact⟨Nat.eq_of_beq_eq_true e1,Nat.eq_of_beq_eq_true e2,kW (sO 3) h hp hm⟩
  ·cases h
 ·split at h<;>cases h;rename_i e2 e1 _;subst e2;have:=hp _ (List.mem_singleton.2 rfl);dsimp only at this;subst this;exact⟨Nat.eq_of_beq_eq_true e1,rfl,eE m _⟩
 ·cases h;have:=hp _ (List.mem_singleton.2 rfl);subst this;refine⟨rfl,rfl,?_⟩;show dD m (kD (lQ _)) (kD (lQ _));rw[kJ];exact eE m _
 ·split at h<;>cases h;rename_i l' e1 e2 e3;have:=hp _ (List.mem_singleton.2 rfl);subst this;obtain⟨_,e4⟩:=LT.sP e3;refine⟨Nat.eq_of_beq_eq_true e1,(Nat.eq_of_beq_eq_true e2).symm,?_⟩;show dD m ((LT.enc _ l').map .p) (avs _);rw[e4];exact eE m _
 ·cases h
end
end Go.Proofs.YtdaeofhdgabhjaaGreat
namespace Go.Proofs.YtdaeofhdgabhjaaGreat
open Go.RowKit
noncomputable section
def mem(l:List Nat)(s:Nat):Bool:=match l with
 |[] =>false
 |x::l=>(match Nat.beq s x with|true=>true|false=>mem l s)
theorem mem_iff(s:Nat):∀l:List Nat,mem l s=true↔s∈l
 |[] =>by simp[mem]
 |x::l=>by
  unfold mem;cases h:Nat.beq s x with
  |true=>simp[Nat.eq_of_beq_eq_true h]
  |false=>simp[Nat.ne_of_beq_eq_false h,mem_iff s l]
def iG{α:Type}(p:α->Bool):List α->Bool
 |[] =>true
 |x::l=>(match p x with|true=>iG p l|false=>false)
theorem dK{α:Type}{p:α->Bool}:∀{l:List α},iG p l=true->∀x∈l,p x=true
 |[],_,x,hx=>by cases hx
 |y::l,h,x,hx=>by
  unfold iG at h;cases hy:p y with
  |false=>rw[hy]at h;cases h
  |true=>
   rw[hy]at h;rcases List.mem_cons.1 hx with rfl|hx
   ·exact hy
   ·exact dK h x hx
def gL(rk:List Nat)(N0:Nat)(s:Nat):Bool:=match Nat.blt (ncl s) N0,mem rk s with
 |true,false=>true
 |_,_=>false
def qP(F:Frm)(rk:List Nat)(N0:Nat):Frm->List Nat
 |[] =>[]
 |(d,v)::r=>(match iG (gL rk N0) v.sites with
  |true=>qP F rk N0 r
  |false=>(match iG (gL rk N0) (F.at d).sites with
   |true=>qP F rk N0 r
   |false=>d::qP F rk N0 r))
def nL(F:Frm)(upd:Frm)(hav:List Nat):Frm:=upd++(hav.map fun d=>(d,SV.any))++F
def jN(L:bD)(obs:List (Nat×SOb)):bD:=(obs.map fun q=>(q.1,some q.2))++L
def Kq(obs:List (Nat×SOb)):List Nat:=obs.map fun q=>q.1
def aJi(L:bD)(keys rk:List Nat)(N0:Nat):Bool:=iG (fun(q:Nat×Option SOb)=>match mem keys q.1 with
 |true=>true
 |false=>(match L.at q.1 with
  |none=>true
  |some ob=>(match gL rk N0 q.1 with|true=>iG (gL rk N0) ob.sites|false=>false))) L
def Ut(n:Nat)(F':Frm):Frm->Option (List Prop×Rm)
 |[] =>some ([],[])
 |(d,v)::r=>(match Nat.blt d n,v.ape,eqv 3 v (F'.at d),Ut n F' r with
  |true,false,some (p,m),some (q,k)=>some (p++q,m++k)
  |_,_,_,_=>none)
def Kt(rk:List Nat)(s o:Nat):SOb->SOb->Option (List Prop)
 | .fam ty ity t M [],.fam ty' ity' t' M' [] =>(match Nat.beq s o,mem rk s,Nat.beq ty ty',Nat.beq ity ity',decEq t' t with
   |true,false,true,true,.isTrue h=>some [(h▸M':List (List t.ty))=M]
   |_,_,_,_,_=>none)
 |_,_=>none
theorem Mn{rk:List Nat}{s o:Nat}{x y:SOb}{ps:List Prop}(h:Kt rk s o x y=some ps)(hp:∀p∈ps,p):s=o/\mem rk s=false/\x=y/\x.sites=[] :=by
 unfold Kt at h;split at h
 ·split at h<;>cases h;rename_i e h1 h2 h3 h4 _;subst e;have:=hp _ (List.mem_singleton.2 rfl);dsimp only at this;subst this;rw[Nat.eq_of_beq_eq_true h3,Nat.eq_of_beq_eq_true h4];exact⟨Nat.eq_of_beq_eq_true h1,h2,rfl,rfl⟩
 ·cases h
def Ou(L':bD)(rk:List Nat):List (Nat×SOb)->Rm->Option (List Prop×Rm)
 |[],mm=>some ([],mm)
 |(s,ob)::r,mm=>(match(match mem rk s with|true=>qG mm s|false=>some (some s))with
  |none=>none
  |some none=>(match ob with
   | .row _ _ l=>(match Ou L' rk r (mm++[(s,none)])with|some (q,k)=>some ((l=[])::q,k)|none=>none)
   |_=>none)
  |some (some o)=>(match L'.at o with
   |none=>none
   |some ob'=>(match Fh ob ob' with
    |none=>(match Kt rk s o ob ob' with
     |none=>none
     |some p=>(match Ou L' rk r (mm++[(s,some o)])with|some (q,k)=>some (p++q,k)|none=>none))
    |some (p,m2)=>(match Ou L' rk r (mm++(s,some o)::m2)with|some (q,k)=>some (p++q,k)|none=>none))))
def eqO:Option Nat->Option Nat->Bool
 |none,none=>true
 |some a,some b=>Nat.beq a b
 |_,_=>false
theorem Pq{a b:Option Nat}(h:eqO a b=true):a=b:=by
 cases a<;>cases b<;>first|rfl|(cases h;done)|(rw[Nat.eq_of_beq_eq_true h])
def isO:Option (Option Nat)->Option Nat->Bool
 |some a,b=>eqO a b
 |none,_=>false
def okM(rk:List Nat)(N0 N1:Nat)(mm:Rm):Bool:=iG (fun(q:Nat×Option Nat)=>match isO (qG mm q.1) q.2,mem rk q.1 with
 |true,true=>(match Nat.blt (ncl q.1) N1,q.2 with
  |true,none=>true
  |true,some o=>(match(match Nat.blt (ncl o) N0 with|false=>true|true=>mem rk o)with
   |true=>iG (fun(q2:Nat×Option Nat)=>match eqO q2.2 (some o)with|true=>Nat.beq q2.1 q.1|false=>true) mm
   |false=>false)
  |_,_=>false)
 |true,false=>(match gL rk N0 q.1 with|true=>eqO q.2 (some q.1)|false=>false)
 |_,_=>false) mm
def aJg(N0:Nat)(keys:List Nat)(pre:bD):Bool:=iG (fun(q:Nat×Option SOb)=>match mem keys q.1 with
 |true=>true
 |false=>(match Nat.blt (ncl q.1) N0 with|true=>false|false=>true)) pre
def aJ5(rk:List Nat)(N0:Nat)(mm:Rm):Nat->Option (Option Nat):=fun s=>match qG mm s with
 |some x=>some x
 |none=>(match gL rk N0 s with|true=>some (some s)|false=>none)
open Classical in
def oQ(mn:Nat->Option (Option Nat))(st:Nat->Bool):Rf:=fun s=>if inn (nm s) (sub s)=s then(match sub s with
 |0=>(mn (nm s)).map (Option.map aW)
 |_+1=>(match st (nm s)with|true=>some (some s)|false=>none))else none
theorem uY(mn:Nat->Option (Option Nat))(st:Nat->Bool)(x:Nat):oQ mn st (aW x)=(mn x).map (Option.map aW):=by
 unfold oQ aW;rw[pS,uN,if_pos rfl]
theorem Gj(mn:Nat->Option (Option Nat))(st:Nat->Bool)(x a:Nat):oQ mn st (inn x (a+1))=(match st x with|true=>some (some (inn x (a+1)))|false=>none):=by
 unfold oQ;rw[pS,uN,if_pos rfl]
theorem aA2(mn:Nat->Option (Option Nat))(st:Nat->Bool){s:Nat}(h:∀x a,s≠inn x a):oQ mn st s=none:=by
 unfold oQ;exact if_neg fun e=>h _ _ e.symm
def Sm(n:Nat)(L:bD)(N0 N1:Nat)(rk:List Nat)(upd:Frm)(obs:List (Nat×SOb))(F':Frm)(L':bD):Option (List Prop):=
 match Ut n F' upd with
 |none=>none
 |some (p,m1)=>(match Ou L' rk obs m1 with
  |none=>none
  |some (q,m2)=>(match okM rk N0 N1 m2,aJg N0 (Kq obs) (L'.take (L'.length-L.length)),aJi L (Kq obs) rk N0,Nat.ble N0 N1 with
   |true,true,true,true=>some (p++q)
   |_,_,_,_=>none))
theorem Gf{m:Rm}{s:Nat}{x:Option Nat}(h:qG m s=some x):(s,x)∈m:=by
 induction m with
 |nil=>cases h
 |cons q m ih=>
  obtain⟨a,b⟩:=q;unfold qG at h;split at h
  ·rename_i e;cases h;rw[Nat.eq_of_beq_eq_true e];exact List.mem_cons_self
  ·exact List.mem_cons_of_mem _ (ih h)
theorem Mp{n:Nat}{F':Frm}{m:Rf}:∀{upd:Frm} {ps:List Prop} {r:Rm},Ut n F' upd=some (ps,r)->(∀p∈ps,p)->iF m r->∀q∈upd,cS m q.2.av (F'.at q.1).av/\q.2.ok
 |[],ps,r,_,_,_,q,hq=>by cases hq
 |(d,v)::upd,ps,r,h,hp,hm,q,hq=>by
  unfold Ut at h;split at h<;>cases h;rename_i p1 m1 p2 m2 h1 h2 h3 h4;rcases List.mem_cons.1 hq with rfl|hq
  ·exact⟨sO 3 _ _ _ _ h3 (fun a ha=>hp a (List.mem_append_left _ ha)) hm.left,SV.qX h2⟩
  ·exact Mp h4 (fun a ha=>hp a (List.mem_append_right _ ha)) hm.right q hq
theorem Dm{x y:SOb}{q:List Prop×Rm}(h:Fh x y=some q):x.flat=true:=by
 unfold Fh at h;cases x<;>first|rfl|(cases y<;>cases h)
theorem wH{L':bD}{rk:List Nat}{m:Rf}:∀{obs:List (Nat×SOb)} {mm:Rm} {ps:List Prop} {r:Rm},Ou L' rk obs mm=some (ps,r)->(∀p∈ps,p)->iF m r->
  (∃k,r=mm++k)/\∀q∈obs,(q.2.flat=true/\((∃y ob,m (aW q.1)=some (some (aW y))/\L'.at y=some ob/\vN m (q.2.ob q.1) (ob.ob y))\/(m (aW q.1)=some none/\(q.2.ob q.1).esz≠0/\(q.2.ob q.1).cells=[])))\/((q.1,some q.1)∈r/\mem rk q.1=false/\L'.at q.1=some q.2/\q.2.sites=[])
 |[],mm,ps,r,h,_,_=>by unfold Ou at h;cases h;exact⟨⟨[],by simp⟩,fun q hq=>by cases hq⟩
 |(s,ob)::obs,mm,ps,r,h,hp,hm=>by
  unfold Ou at h;split at h
  ·cases h
  ·rename_i hi;split at h
   ·rename_i ty t l;split at h<;>cases h;rename_i q k hk;obtain⟨⟨k',e⟩,h2⟩:=wH hk (fun a ha=>hp a (List.mem_cons_of_mem _ ha)) hm
    refine⟨⟨(s,none)::k',by rw[e];simp⟩,fun q hq=> ?_⟩
    rcases List.mem_cons.1 hq with rfl|hq
    ·have:m (aW s)=some none:=hm (s,none) (by rw[e];simp)
     have hl:l=[] :=hp _ List.mem_cons_self;subst hl;exact .inl ⟨rfl,.inr ⟨this,Nat.ne_of_gt t.mR,rfl⟩⟩
    ·exact h2 q hq
   ·cases h
  ·rename_i o hi;split at h
   ·cases h
   ·rename_i ob' hob;split at h
    ·split at h
     ·cases h
     ·rename_i p hfe;split at h<;>cases h;rename_i q k hk;obtain⟨⟨k',e⟩,h2⟩:=wH hk (fun a ha=>hp a (List.mem_append_right _ ha)) hm
      refine⟨⟨(s,some o)::k',by rw[e];simp⟩,fun q hq=> ?_⟩
      rcases List.mem_cons.1 hq with rfl|hq
      ·obtain⟨f1,f2,f3,f4⟩:=Mn hfe fun a ha=>hp a (List.mem_append_left _ ha)
       subst f1;subst f3;exact .inr ⟨by rw[e];simp,f2,hob,f4⟩
      ·exact h2 q hq
    ·rename_i p m2 he;split at h<;>cases h;rename_i q k hk;obtain⟨⟨k',e⟩,h2⟩:=wH hk (fun a ha=>hp a (List.mem_append_right _ ha)) hm
     refine⟨⟨(s,some o)::m2++k',by rw[e];simp⟩,fun q hq=> ?_⟩
     rcases List.mem_cons.1 hq with rfl|hq
     ·have:m (aW s)=some (some (aW o)):=hm (s,some o) (by rw[e];simp)
      refine .inl ⟨Dm he,.inl ⟨o,ob',this,hob,Gu he (fun a ha=>hp a (List.mem_append_left _ ha)) ?_ _ _⟩⟩
      intro q hq;exact hm q (by rw[e];simp[hq])
     ·exact h2 q hq
theorem wN{F:Frm}{rk:List Nat}{N0:Nat}{d:Nat}:∀{G:Frm},(∃v,(d,v)∈G/\iG (gL rk N0) v.sites=false)->d∉qP F rk N0 G->iG (gL rk N0) (F.at d).sites=true
 |[],⟨v,h,_⟩,_=>by cases h
 |(e,u)::G,⟨v,h,hv⟩,hn=>by
  unfold qP at hn;rcases List.mem_cons.1 h with h|h
  ·cases h;rw[hv]at hn;dsimp only at hn;split at hn
   ·rename_i he;exact he
   ·exact absurd List.mem_cons_self hn
  ·split at hn
   ·exact wN ⟨v,h,hv⟩ hn
   ·split at hn
    ·exact wN ⟨v,h,hv⟩ hn
    ·exact wN ⟨v,h,hv⟩ (fun hh=>hn (List.mem_cons_of_mem _ hh))
theorem aFz(F:Frm)(d:Nat):(F.at d)= .undef\/(d,F.at d)∈F:=by
 induction F with
 |nil=>exact .inl rfl
 |cons q F ih=>
  obtain⟨e,v⟩:=q;rw[Frm.iA];split
  ·rename_i h;subst h;exact .inr List.mem_cons_self
  ·rcases ih with h|h
   ·exact .inl h
   ·exact .inr (List.mem_cons_of_mem _ h)
theorem aCt{F:Frm}{rk:List Nat}{N0 d:Nat}(h:d∉qP F rk N0 F):iG (gL rk N0) (F.at d).sites=true:=by
 rcases aFz F d with e|e
 ·rw[e];rfl
 ·cases hb:iG (gL rk N0) (F.at d).sites with
  |true=>rfl
  |false=>rw[<-hb];exact wN ⟨_,e,hb⟩ h
theorem Frm.iB(A B:Frm)(d:Nat):(Frm.at (A++B) d)=if d∈A.map (·.1)then A.at d else B.at d:=by
 induction A with
 |nil=>simp
 |cons q A ih=>
  obtain⟨e,v⟩:=q;rw[List.cons_append,Frm.iA,Frm.iA,ih];by_cases h:d=e
  ·subst h;simp
  ·rw[if_neg h,if_neg h];by_cases h2:d∈A.map (·.1)
   ·rw[if_pos h2,if_pos];rw[List.map_cons];exact List.mem_cons_of_mem _ h2
   ·rw[if_neg h2,if_neg];rw[List.map_cons,List.mem_cons];rintro(h3|h3)
    ·exact h h3
    ·exact h2 h3
theorem aAj(l:List Nat)(d:Nat):(Frm.at (l.map fun d=>(d,SV.any)) d)=if d∈l then .any else .undef:=by
 induction l with
 |nil=>rfl
 |cons e l ih=>
  rw[List.map_cons,Frm.iA,ih];by_cases h:d=e
  ·subst h;simp
  ·simp[h]
theorem Fk{F:Frm}{d:Nat}(h:d∈F.map (·.1)):(d,F.at d)∈F:=by
 induction F with
 |nil=>cases h
 |cons q F ih=>
  obtain⟨e,v⟩:=q;rw[Frm.iA];split
  ·rename_i he;subst he;exact List.mem_cons_self
  ·rename_i he;rw[List.map_cons]at h;rcases List.mem_cons.1 h with h|h
   ·exact absurd h he
   ·exact List.mem_cons_of_mem _ (ih h)
theorem bD.iB(A B:bD)(s:Nat):(bD.at (A++B) s)=if s∈A.map (·.1)then A.at s else B.at s:=by
 induction A with
 |nil=>simp
 |cons q A ih=>
  obtain⟨e,v⟩:=q;rw[List.cons_append];show(match Nat.beq s e with|true=>v|false=>bD.at (A++B) s)=if _ then(match Nat.beq s e with|true=>v|false=>bD.at A s)else _
  cases h:Nat.beq s e with
  |true=>have:=Nat.eq_of_beq_eq_true h;subst this;simp
  |false=>
   have:=Nat.ne_of_beq_eq_false h;dsimp only;rw[ih];by_cases h2:s∈A.map (·.1)
   ·rw[if_pos h2,if_pos];rw[List.map_cons];exact List.mem_cons_of_mem _ h2
   ·rw[if_neg h2,if_neg];rw[List.map_cons,List.mem_cons];rintro(h3|h3)
    ·exact this h3
    ·exact h2 h3
theorem bD.Fk{L:bD}{s:Nat}{ob:SOb}(h:L.at s=some ob):(s,some ob)∈L:=by
 induction L with
 |nil=>cases h
 |cons q L ih=>
  obtain⟨e,v⟩:=q;change (match Nat.beq s e with|true=>v|false=>bD.at L s)=some ob at h
  cases hb:Nat.beq s e with
  |true=>rw[hb]at h;have:=Nat.eq_of_beq_eq_true hb;subst this;cases h;exact List.mem_cons_self
  |false=>rw[hb]at h;exact List.mem_cons_of_mem _ (ih h)
theorem Sx{x:Nat}:∀{obs:List (Nat×SOb)},x∈obs.map (·.1)->∃q∈obs,q.1=x/\bD.at (obs.map fun q=>(q.1,some q.2)) x=some q.2
 |[],h=>(List.not_mem_nil h).elim
 |q::obs,h=>by
  show∃q'∈q::obs,q'.1=x/\(match Nat.beq x q.1 with|true=>some q.2|false=>bD.at (obs.map fun q=>(q.1,some q.2)) x)=some q'.2
  cases hb:Nat.beq x q.1 with
  |true=>exact⟨q,List.mem_cons_self,(Nat.eq_of_beq_eq_true hb).symm,rfl⟩
  |false=>
   rcases List.mem_cons.1 h with h|h
   ·exact absurd h (Nat.ne_of_beq_eq_false hb)
   ·obtain⟨q',h1,h2,h3⟩:=Sx h;exact⟨q',List.mem_cons_of_mem _ h1,h2,h3⟩
theorem Dh{m:Rf}{o':SOb}{a:Nat}{ob':Ob}(hs:o'.inner a=some ob'):vN m ob' ob':=by
 cases o' with
 |fam ty ity t LL ov=>
  change (match ov.lookup a with|some _=>none|none=>(LL[a]?).map fun l=>(⟨ity,t.w,(t.enc l).map .p⟩:Ob))=some ob' at hs
  split at hs
  ·cases hs
  ·cases hL2:LL[a]? with
   |none=>rw[hL2]at hs;cases hs
   |some l=>rw[hL2]at hs;cases hs;exact⟨rfl,rfl,eE _ _⟩
 |_=>cases hs
theorem Gd{n:Nat}{F F' upd:Frm}{L L':bD}{N0 N1 N':Nat}{obs:List (Nat×SOb)}{hav:List Nat}{ps:List Prop}{rk:List Nat}(h:Sm n L N0 N1 rk upd obs F' L'=some ps)(hp:∀p∈ps,p)
  (hF:Pre (fun d=>d∈hav) F F') (hbad:∀d∈qP F rk N0 F,d∈hav) (hL:lS L L'):
  kE (F'.av n) L'.fn N' ((nL F upd hav).av n) (jN L obs).fn N1:=by
 unfold Sm at h;split at h
 ·cases h
 rename_i p1 m1 h1;split at h
 ·cases h
 rename_i p2 mm h2;split at h<;>cases h;rename_i h3 h4 h5 h6
 let mn:Nat->Option (Option Nat):=aJ5 rk N0 mm
 let m:Rf:=oQ mn (gL rk N0)
 have hokM:∀s x,(s,x)∈mm->qG mm s=some x/\((mem rk s=true/\ncl s<N1/\∀o,x=some o->(ncl o<N0->mem rk o=true)/\∀s',(s',some o)∈mm->s'=s)\/(mem rk s=false/\ncl s<N0/\x=some s)):=by
  intro s x hs;have:=dK h3 (s,x) hs;dsimp only at this;split at this
  ·rename_i e1 e2;refine⟨?_,.inl ⟨e2,?_⟩⟩
   ·unfold isO at e1;split at e1
    ·rename_i heq;rw[heq,Pq e1]
    ·cases e1
   ·split at this
    ·rename_i e3;exact⟨(fB _ _).1 e3,fun o ho=>by cases ho⟩
    ·rename_i o e3;refine⟨(fB _ _).1 e3,fun o' ho=> ?_⟩
     cases ho;split at this
     ·rename_i e4;refine⟨fun hlt=> ?_,fun s' hs'=> ?_⟩
      ·rw[(fB _ _).2 hlt]at e4;exact e4
      ·have:=dK this (s',some o) hs';dsimp only at this;rw[show eqO (some o) (some o)=true from Nat.beq_refl o]at this
       exact Nat.eq_of_beq_eq_true this
     ·cases this
    ·cases this
  ·rename_i e1 e2;split at this
   ·rename_i e3;refine⟨?_,.inr ⟨e2,?_,Pq this⟩⟩
    ·unfold isO at e1;split at e1
     ·rename_i heq;rw[heq,Pq e1]
     ·cases e1
    ·unfold gL at e3;split at e3
     ·rename_i e4 _;exact(fB _ _).1 e4
     ·cases e3
   ·cases this
  ·cases this
 have hstay:∀s,gL rk N0 s=true->mn s=some (some s)/\ncl s<N0/\mem rk s=false:=by
  intro s hs;have:ncl s<N0/\mem rk s=false:=by
   unfold gL at hs;split at hs
   ·rename_i e1 e2;exact⟨(fB _ _).1 e1,e2⟩
   ·cases hs
  refine⟨?_,this⟩;show(match qG mm s with|some x=>some x|none=>_)=_
  cases hl:qG mm s with
  |some x=>
   rcases(hokM s x (Gf hl)).2 with⟨e,_⟩|⟨_,_,e⟩
   ·rw[this.2]at e;cases e
   ·rw[e]
  |none=>dsimp only;rw[hs]
 have hm:∀s x,mn s=some x->(s,x)∈mm\/(gL rk N0 s=true/\x=some s):=by
  intro s x hs;change (match qG mm s with|some x=>some x|none=>(match gL rk N0 s with|true=>some (some s)|false=>none))=some x at hs
  cases hl:qG mm s with
  |some y=>rw[hl]at hs;cases hs;exact .inl (Gf hl)
  |none=>
   rw[hl]at hs;dsimp only at hs;split at hs
   ·rename_i e;cases hs;exact .inr ⟨e,rfl⟩
   ·cases hs
 have hag:iF m mm:=by
  intro q hq;have:=(hokM q.1 q.2 hq).1;have e:mn q.1=some q.2:=by
   show(match qG mm q.1 with|some x=>some x|none=>_)=_
   rw[this]
  show oQ mn (gL rk N0) (aW q.1)=_;rw[uY,e];rfl
 have hst:∀s,gL rk N0 s=true->Ux m s:=by
  intro s hs a;cases a with
  |zero=>show oQ mn _ (aW s)=_;rw[uY,(hstay s hs).1];rfl
  |succ a=>show oQ mn _ (inn s (a+1))=_;rw[Gj,hs]
 have hcase:∀s x,m s=some x->(∃y z,s=aW y/\mn y=some z/\x=z.map aW)\/(∃y a,s=inn y (a+1)/\gL rk N0 y=true/\x=some s):=by
  intro s x hs;rcases dV s with⟨y,rfl⟩|⟨y,a,rfl⟩|hno
  ·change oQ mn _ (aW y)=some x at hs;rw[uY]at hs;cases hy:mn y with
   |none=>rw[hy]at hs;cases hs
   |some z=>rw[hy]at hs;cases hs;exact .inl ⟨y,z,rfl,hy,rfl⟩
  ·change oQ mn _ (inn y (a+1))=some x at hs;rw[Gj]at hs;split at hs
   ·rename_i h;cases hs;exact .inr ⟨y,a,rfl,h,rfl⟩
   ·cases hs
  ·change oQ mn _ s=some x at hs;rw[aA2 _ _ hno]at hs;cases hs
 have hlt:∀s x,mn s=some x->ncl s<N1:=by
  intro s x hs;rcases hm s x hs with h|⟨h,_⟩
  ·rcases(hokM s x h).2 with⟨_,e,_⟩|⟨_,e,_⟩
   ·exact e
   ·have:=Nat.le_of_ble_eq_true h6;omega
  ·have:=(hstay s h).2.1;have:=Nat.le_of_ble_eq_true h6;omega
 obtain⟨⟨k,hk⟩,hobs⟩:=wH h2 (fun a ha=>hp a (List.mem_append_right _ ha)) hag
 have hfst:∀y,(y,some y)∈mm->mem rk y=false->gL rk N0 y=true:=by
  intro y hy hr;rcases(hokM y _ hy).2 with⟨e,_⟩|⟨_,e,_⟩
  ·rw[hr]at e;cases e
  ·unfold gL;rw[(fB _ _).2 e,hr]
 have hag1:iF m m1:=fun q hq=>hag q (by rw[hk];exact List.mem_append_left _ hq)
 have hupd:=Mp h1 (fun a ha=>hp a (List.mem_append_left _ ha)) hag1
 have h6':=Nat.le_of_ble_eq_true h6;refine Sv m ?_ ?_ (by rw[Frm.dQ,Frm.dQ]) ?_ ?_
 ·intro s x hs;rcases hcase s x hs with⟨y,z,rfl,h,_⟩|⟨y,a,rfl,h,_⟩
  ·rw[show cls (aW y)=ncl y from dI y 0];exact hlt y z h
  ·rw[dI];have:=(hstay y h).2.1;omega
 ·intro s s' o hs hs';have inj:∀s s' o,mn s=some (some o)->mn s'=some (some o)->s=s':=by
   intro s s' o hs hs';rcases hm s (some o) hs with h|⟨h,e⟩
   ·rcases(hokM s _ h).2 with⟨e1,e2,e3⟩|⟨e1,e2,e3⟩
    ·obtain⟨e4,e5⟩:=e3 o rfl;rcases hm s' (some o) hs' with h'|⟨h',e'⟩
     ·exact(e5 s' h').symm
     ·have e':=Option.some.inj e';obtain⟨_,e6,e7⟩:=hstay s' h';rw[<-e',e4 (by rw[e'];exact e6)]at e7;cases e7
    ·have e3:=Option.some.inj e3;rcases hm s' (some o) hs' with h'|⟨h',e'⟩
     ·rcases(hokM s' _ h').2 with⟨g1,g2,g3⟩|⟨g1,g2,g3⟩
      ·exact(g3 o rfl).2 s h
      ·have:=Option.some.inj g3;omega
     ·have:=Option.some.inj e';omega
   ·have e:=Option.some.inj e;rcases hm s' (some o) hs' with h'|⟨h',e'⟩
    ·rcases(hokM s' _ h').2 with⟨g1,g2,g3⟩|⟨g1,g2,g3⟩
     ·obtain⟨_,e6,e7⟩:=hstay s h;rw[<-e,(g3 o rfl).1 (by rw[e];exact e6)]at e7;cases e7
     ·have:=Option.some.inj g3;omega
    ·have:=Option.some.inj e';omega
  rcases hcase s _ hs with⟨y,z,rfl,h,e⟩|⟨y,a,rfl,h,e⟩
  ·rcases hcase s' _ hs' with⟨y',z',rfl,h',e'⟩|⟨y',a',rfl,h',e'⟩
   ·cases z with
    |none=>cases e
    |some z=>
     cases z' with
     |none=>cases e'
     |some z'=>
      have e:=Option.some.inj e;have e':=Option.some.inj e';have:z=z':=fW (e.symm.trans e');subst this;rw[inj y y' z h h']
   ·cases z with
    |none=>cases e
    |some z=>
     have e:=Option.some.inj e;have e':=Option.some.inj e';have:=(dC (e.symm.trans e')).2;omega
  ·rcases hcase s' _ hs' with⟨y',z',rfl,h',e'⟩|⟨y',a',rfl,h',e'⟩
   ·cases z' with
    |none=>cases e'
    |some z'=>
     have e:=Option.some.inj e;have e':=Option.some.inj e';have:=(dC (e'.symm.trans e)).2;omega
   ·exact(Option.some.inj e).symm.trans (Option.some.inj e')
 ·intro t ht;rw[Frm.dQ]at ht;rw[Frm.iR ht,Frm.iR ht];unfold nL;rw[Frm.iB,Frm.iB];split
  ·rename_i hin;split
   ·rename_i hu;exact(hupd _ (Fk hu)).1
   ·rw[aAj];split
    ·simp only[SV.av];unfold cS;trivial
    ·rename_i hu hh;rw[List.map_append]at hin;rcases List.mem_append.1 hin with h|h
     ·exact absurd h hu
     ·simp only[List.map_map,List.mem_map,Function.comp_apply]at h;obtain⟨a,ha,e⟩:=h;exact absurd (e▸ha) hh
  ·rename_i hin;have hh:t∉hav:=fun hh=>hin (by
    rw[List.map_append];refine List.mem_append_right _ ?_;simp only[List.map_map,List.mem_map,Function.comp_apply];exact⟨t,hh,rfl⟩)
   have hgood:=aCt (fun hb=>hh (hbad t hb))
   obtain⟨pre,e,hpre⟩:=hF;have:Frm.at F' t=Frm.at F t:=by
    rw[e,Frm.iB,if_neg];intro h;simp only[List.mem_map]at h;obtain⟨q,hq,e⟩:=h;exact hh (e▸hpre q hq)
   rw[this];exact sV _ fun s hs=>hst s (dK hgood s hs)
 ·intro s ob' hs;have kept:∀x o',x∉(obs.map fun q=>(q.1,some q.2)).map (·.1)->(jN L obs).at x=some o'->gL rk N0 x=true/\iG (gL rk N0) o'.sites=true/\L'.at x=some o':=by
   intro x o' hnk ho;unfold jN at ho;rw[bD.iB,if_neg hnk]at ho;have hnk':mem (Kq obs) x=false:=by
    cases hb:mem (Kq obs) x with
    |false=>rfl
    |true=>
     exfalso;apply hnk;have:=(mem_iff _ _).1 hb;unfold Kq at this;simpa[List.map_map]using this
   have:=dK h5 _ (bD.Fk ho);dsimp only at this;rw[hnk',ho]at this;dsimp only at this;split at this
   ·rename_i hst;refine⟨hst,this,?_⟩;obtain⟨pre,e⟩:=hL;rw[e,bD.iB,if_neg,ho];intro hin;have h4':=h4;rw[e]at h4';rw[show(pre++L).length-L.length=pre.length by simp,List.take_left]at h4'
    simp only[List.mem_map]at hin;obtain⟨q,hq,e2⟩:=hin;have:=dK h4' q hq;rw[e2,hnk']at this;rw[(fB _ _).2 (hstay x hst).2.1]at this;cases this
   ·cases this
  have told:∀x,x∈(obs.map fun q=>(q.1,some q.2)).map (·.1)->∃q∈obs,q.1=x/\(jN L obs).at x=some q.2:=by
   intro x hk;have e:(jN L obs).at x=bD.at (obs.map fun q=>(q.1,some q.2)) x:=by unfold jN;rw[bD.iB,if_pos hk]
   rw[e];exact Sx (by simpa[List.map_map]using hk)
  rcases dV s with⟨x,rfl⟩|⟨x,a,rfl⟩|hno
  ·change Sg.a (jN L obs).at (aW x)=some ob' at hs;rw[Sg.cE]at hs;by_cases hk:x∈(obs.map fun q=>(q.1,some q.2)).map (·.1)
   ·obtain⟨q,hq,rfl,ho⟩:=told x hk;rw[ho]at hs;cases hs;rcases hobs q hq with⟨_,⟨y,ob,g1,g2,g3⟩|⟨g1,g2,g3⟩⟩|⟨g1,g2,g3,g4⟩
    ·rw[g1];exact⟨ob.ob y,by show Sg.a L'.at (aW y)=_;rw[Sg.cE,g2];rfl,g3⟩
    ·rw[g1];exact⟨g2,g3⟩
    ·have hq':=hfst q.1 g1 g2;rw[show m (aW q.1)=some (some (aW q.1))from hst q.1 hq' 0]
     exact⟨q.2.ob q.1,by show Sg.a L'.at (aW q.1)=_;rw[Sg.cE,g3];rfl,zG _ q.1 (hst q.1 hq') fun s hs=>by rw[g4]at hs;cases hs⟩
   ·cases ho:(jN L obs).at x with
    |none=>rw[ho]at hs;cases hs
    |some o'=>
     rw[ho]at hs;cases hs;obtain⟨k1,k2,k3⟩:=kept x o' hk ho;rw[show m (aW x)=some (some (aW x))from hst x k1 0]
     exact⟨o'.ob x,by show Sg.a L'.at (aW x)=_;rw[Sg.cE,k3];rfl,zG _ x (hst x k1) fun s hs=>hst s (dK k2 s hs)⟩
  ·change Sg.a (jN L obs).at (inn x (a+1))=some ob' at hs;rw[Sg.fS]at hs;by_cases hk:x∈(obs.map fun q=>(q.1,some q.2)).map (·.1)
   ·obtain⟨q,hq,rfl,ho⟩:=told x hk;rw[ho]at hs;rcases hobs q hq with⟨hfl,_⟩|⟨g1,g2,g3,g4⟩
    ·have:=SOb.pZ hfl a;change q.2.inner a=some ob' at hs;rw[this]at hs;cases hs
    ·have hq':=hfst q.1 g1 g2;rw[show m (inn q.1 (a+1))=some (some (inn q.1 (a+1)))from hst q.1 hq' (a+1)]
     exact⟨ob',by show Sg.a L'.at (inn q.1 (a+1))=_;rw[Sg.fS,g3];exact hs,Dh hs⟩
   ·cases ho:(jN L obs).at x with
    |none=>rw[ho]at hs;cases hs
    |some o'=>
     rw[ho]at hs;obtain⟨k1,k2,k3⟩:=kept x o' hk ho;rw[show m (inn x (a+1))=some (some (inn x (a+1)))from hst x k1 (a+1)]
     exact⟨ob',by show Sg.a L'.at (inn x (a+1))=_;rw[Sg.fS,k3];exact hs,Dh hs⟩
  ·change Sg.a (jN L obs).at s=some ob' at hs;rw[Sg.qQ _ hno]at hs;cases hs
end
end Go.Proofs.YtdaeofhdgabhjaaGreat
namespace Go.Proofs.YtdaeofhdgabhjaaGreat
open Go.RowKit
noncomputable section
def Kr(N x s z:Nat):Bool:=match Nat.blt (ncl z) N,Nat.beq z s,Nat.beq z x with
 |true,false,false=>true
 |_,_,_=>false
def Bh(N x s:Nat)(v:SV):Bool:=match v with
 | .owF y _=>(match Nat.blt (ncl y) N,Nat.beq y s with|true,false=>true|_,_=>false)
 |v=>iG (Kr N x s) v.sites
def qH(N x s:Nat)(v:SV):Bool:=match v with
 | .agg l=>iG (Bh N x s) l
 |v=>Bh N x s v
def Hu(N x s y:Nat)(ob:SOb):Bool:=match Kr N x s y with
 |true=>(match ob with
  | .box _ cs=>iG (qH N x s) cs
  | .arr _ _ cs=>iG (qH N x s) cs
  | .row .. =>true
  | .mp _=>true
  | .fam _ _ _ _ ov=>iG (fun q:Nat×SV=>qH N x s q.2) ov)
 |false=>false
open Classical in
def mS(N x a s:Nat):Rf:=fun t=>if cls t<N then(if t=inn x (a+1)then some (some (aW s))else if t=aW s then none else some (some t))else none
theorem tK{N x s z:Nat}(h:Kr N x s z=true):ncl z<N/\z≠s/\z≠x:=by
 unfold Kr at h;split at h
 ·rename_i h1 h2 h3;exact⟨(fB _ _).1 h1,Nat.ne_of_beq_eq_false h2,Nat.ne_of_beq_eq_false h3⟩
 ·cases h
theorem Lb{N x a s t:Nat}(h1:cls t<N)(h2:t≠inn x (a+1))(h3:t≠aW s):mS N x a s t=some (some t):=by
 unfold mS;rw[if_pos h1,if_neg h2,if_neg h3]
theorem pU{N x a s z:Nat}(h1:ncl z<N)(h2:z≠s):mS N x a s (aW z)=some (some (aW z)):=
 Lb (by rw[show cls (aW z)=ncl z from dI z 0];exact h1) (fun e=>by have:=(dC e).2;omega) (fun e=>h2 (fW e))
theorem pB{N x a s z b:Nat}(h1:ncl z<N)(h2:z=x->b≠a):mS N x a s (inn z (b+1))=some (some (inn z (b+1))):=
 Lb (by rw[dI];exact h1) (fun e=>h2 (dC e).1 (by have:=(dC e).2;omega)) (fun e=>by have:=(dC e).2;omega)
theorem Qu{N x a s z:Nat}(h:Kr N x s z=true):Ux (mS N x a s) z:=by
 obtain⟨h1,h2,h3⟩:=tK h;intro b;cases b with
 |zero=>exact pU h1 h2
 |succ b=>exact pB h1 fun e=>absurd e h3
theorem Dg{N x a s:Nat}{v:SV}(h:Bh N x s v=true):cS (mS N x a s) v.av v.av:=by
 unfold Bh at h;split at h
 ·rename_i y n;split at h
  ·rename_i h1 h2;show cS _ (.own (aW y) 0 n) (.own (aW y) 0 n);unfold cS;exact .inl ⟨_,pU ((fB _ _).1 h1) (Nat.ne_of_beq_eq_false h2),rfl⟩
  ·cases h
 ·exact sV v fun z hz=>Qu (dK h z hz)
theorem zL{N x a s:Nat}:∀{cs:List SV},(∀v∈cs,Bh N x s v=true)->dD (mS N x a s) (avs cs) (avs cs)
 |[],_=>by unfold dD;rfl
 |v::cs,h=>by
  rw[avs];unfold dD;exact⟨_,_,rfl,Dg (h v List.mem_cons_self),zL fun u hu=>h u (List.mem_cons_of_mem _ hu)⟩
theorem tL{N x a s:Nat}{v:SV}(h:qH N x s v=true):cS (mS N x a s) v.av v.av:=by
 unfold qH at h;split at h
 ·rename_i l;exact tB (zL (dK h))
 ·exact Dg h
theorem vC{N x a s:Nat}:∀{cs:List SV},(∀v∈cs,qH N x s v=true)->dD (mS N x a s) (avs cs) (avs cs)
 |[],_=>by unfold dD;rfl
 |v::cs,h=>by
  rw[avs];unfold dD;exact⟨_,_,rfl,tL (h v List.mem_cons_self),vC fun u hu=>h u (List.mem_cons_of_mem _ hu)⟩
theorem Uo(F:Frm)(t:Nat):∀hav:List Nat,Frm.at ((hav.map fun d=>(d,SV.any))++F) t=SV.any\/(t∉hav/\Frm.at ((hav.map fun d=>(d,SV.any))++F) t=F.at t)
 |[] => .inr ⟨List.not_mem_nil,rfl⟩
 |d::hav=>by
  rw[List.map_cons,List.cons_append,Frm.iA];by_cases h:t=d
  ·rw[if_pos h];exact .inl rfl
  ·rw[if_neg h];rcases Uo F t hav with h1|⟨h1,h2⟩
   ·exact .inl h1
   ·exact .inr ⟨fun hm=>(List.mem_cons.1 hm).elim h h1,h2⟩
theorem kO{a i:Nat}(h:i≠a):∀ov:List (Nat×SV),(ov.filter fun q=> !(Nat.beq q.1 a)).lookup i=ov.lookup i
 |[] =>rfl
 |q::ov=>by
  rw[List.filter_cons,List.lookup_cons];cases hq:Nat.beq q.1 a with
  |true=>
   have:=Nat.eq_of_beq_eq_true hq;rw[if_neg (by simp),kO h ov,beq_eq_false_iff_ne.2 (by rw[this];exact h)]
  |false=>
   rw[if_pos (by simp),List.lookup_cons,kO h ov]
theorem gD{a:Nat}:∀ov:List (Nat×SV),(ov.filter fun q=> !(Nat.beq q.1 a)).lookup a=none
 |[] =>rfl
 |q::ov=>by
  rw[List.filter_cons];cases hq:Nat.beq q.1 a with
  |true=>rw[if_neg (by simp)];exact gD ov
  |false=>rw[if_pos (by simp),List.lookup_cons,beq_eq_false_iff_ne.2 (fun e=>Nat.ne_of_beq_eq_false hq e.symm)];exact gD ov
theorem Vb{n N0 N x a s k:Nat}{F:Frm}{L:bD}{ty ity:TypeId}{lt:LT}{M:List (List lt.ty)}{l:List lt.ty}{ov:List (Nat×SV)}{hav:List Nat}
  (hx:L.at x=some (.fam ty ity lt M ((a,.own s lt k)::ov))) (hs:L.at s=some (.row ity lt l)) (ha:a<M.length) (hk:k=l.length) (hxN:ncl x<N)
  (hov:∀q∈ov,q.1≠a->qH N x s q.2=true) (hF:∀t,t<n->t∈hav\/qH N x s (F.at t)=true) (hL:∀y ob,L.at y=some ob->y=x\/y=s\/Hu N x s y ob=true):
  kE (F.av n) L.fn N0 (Frm.av n ((hav.map fun d=>(d,SV.any))++F)) (bD.fn ((x,some (.fam ty ity lt (M.set a l) (ov.filter fun q=> !(Nat.beq q.1 a))))::(s,none)::L)) N:=by
 have hxs:x≠s:=fun e=>by rw[e,hs]at hx;cases hx
 refine Sv (mS N x a s) ?_ ?_ (by rw[Frm.dQ,Frm.dQ]) ?_ ?_
 ·intro t y ht;unfold mS at ht;by_cases h:cls t<N
  ·exact h
  ·rw[if_neg h]at ht;cases ht
 ·intro t t' o ht ht';unfold mS at ht ht';split at ht
  case isFalse=>cases ht
  split at ht'
  case isFalse=>cases ht'
  split at ht
  ·rename_i e;split at ht'
   ·rename_i e';rw[e,e']
   ·split at ht'
    ·cases ht'
    ·rename_i e';have e1:=Option.some.inj (Option.some.inj ht);have e2:=Option.some.inj (Option.some.inj ht');exact absurd (e2.trans e1.symm) e'
  ·split at ht
   ·cases ht
   ·rename_i e;split at ht'
    ·have e1:=Option.some.inj (Option.some.inj ht);have e2:=Option.some.inj (Option.some.inj ht');exact absurd (e1.trans e2.symm) e
    ·split at ht'
     ·cases ht'
     ·exact(Option.some.inj (Option.some.inj ht)).trans (Option.some.inj (Option.some.inj ht')).symm
 ·intro t ht;rw[Frm.dQ]at ht;rw[Frm.iR ht,Frm.iR ht];rcases Uo F t hav with h|⟨h1,h2⟩
  ·rw[h];show cS _ .any _;unfold cS;trivial
  ·rw[h2];exact tL ((hF t ht).resolve_left h1)
 ·intro t ob' ht;have hat:∀y,bD.at ((x,some (.fam ty ity lt (M.set a l) (ov.filter fun q=> !(Nat.beq q.1 a))))::(s,none)::L) y=if y=x then some (.fam ty ity lt (M.set a l) (ov.filter fun q=> !(Nat.beq q.1 a)))else if y=s then none else L.at y:=by
   intro y;show(match Nat.beq y x with|true=>_|false=>(match Nat.beq y s with|true=>_|false=>_))=_
   cases h1:Nat.beq y x with
   |true=>rw[if_pos (Nat.eq_of_beq_eq_true h1)]
   |false=>
    rw[if_neg (Nat.ne_of_beq_eq_false h1)];cases h2:Nat.beq y s with
    |true=>rw[if_pos (Nat.eq_of_beq_eq_true h2)]
    |false=>rw[if_neg (Nat.ne_of_beq_eq_false h2)]
  have hset:∀i,i≠a->(M.set a l).getD i [] =M.getD i [] :=fun i hi=>by
   rw[List.getD_eq_getElem?_getD,List.getD_eq_getElem?_getD,List.getElem?_set_ne (Ne.symm hi)]
  have hseta:(M.set a l).getD a [] =l:=by
   rw[List.getD_eq_getElem?_getD,List.getElem?_set_self ha];rfl
  have hcons:∀i,i≠a->List.lookup i ((a,SV.own s lt k)::ov)=ov.lookup i:=fun i hi=>by
   rw[List.lookup_cons,beq_eq_false_iff_ne.2 hi]
  rcases dV t with⟨y,rfl⟩|⟨y,b,rfl⟩|hno
  ·change Sg.a _ (aW y)=some ob' at ht;rw[Sg.cE,hat y]at ht;by_cases hyx:y=x
   ·subst hyx;rw[if_pos rfl]at ht;have ht:=Option.some.inj ht;rw[pU hxN hxs];refine⟨_,by show Sg.a L.at (aW y)=_;rw[Sg.cE,hx];rfl,?_⟩
    rw[<-ht];refine⟨rfl,rfl,?_⟩;show dD _ ((List.range (M.set a l).length).map (oO y (M.set a l) (ov.filter fun q=> !(Nat.beq q.1 a)))) ((List.range M.length).map (oO y M ((a,.own s lt k)::ov)))
    rw[List.length_set];refine oU _ _ _ fun i _=> ?_
    unfold oO;by_cases hi:i=a
    ·subst hi;rw[gD,List.lookup_cons,beq_iff_eq.2 rfl,hseta];show cS _ (.own (inn y (i+1)) 0 l.length) (.own (aW s) 0 k);unfold cS;refine .inl ⟨aW s,?_,by rw[hk]⟩
     unfold mS;rw[if_pos (by rw[dI];exact hxN),if_pos rfl]
    ·rw[kO hi,hcons i hi,hset i hi];cases ho:ov.lookup i with
     |some v=>exact tL (hov (i,v) (xX ho) hi)
     |none=>
      show cS _ (.own (inn y (i+1)) 0 _) _;unfold cS;exact .inl ⟨_,pB hxN fun _=>hi,rfl⟩
   ·rw[if_neg hyx]at ht;by_cases hys:y=s
    ·rw[if_pos hys]at ht;cases ht
    ·rw[if_neg hys]at ht;cases ho:L.at y with
     |none=>rw[ho]at ht;cases ht
     |some ob=>
      rw[ho]at ht;have ht:=Option.some.inj ht;have hk':=((hL y ob ho).resolve_left hyx).resolve_left hys;unfold Hu at hk';split at hk'
      case h_2=>cases hk'
      rename_i hz;rw[pU (tK hz).1 hys];refine⟨_,by show Sg.a L.at (aW y)=_;rw[Sg.cE,ho];rfl,?_⟩
      rw[<-ht];split at hk'
      ·exact⟨rfl,rfl,vC (dK hk')⟩
      ·exact⟨rfl,rfl,vC (dK hk')⟩
      ·exact⟨rfl,rfl,eE _ _⟩
      ·refine⟨rfl,rfl,?_⟩;show dD _ (kD (lQ _)) (kD (lQ _));rw[kJ];exact eE _ _
      ·rename_i ov';refine⟨rfl,rfl,oU _ _ _ fun i _=> ?_⟩
       unfold oO;split
       ·rename_i v hv;exact tL (dK hk' (i,v) (xX hv))
       ·unfold cS;exact .inl ⟨_,pB (tK hz).1 fun e=>absurd e hyx,rfl⟩
  ·change Sg.a _ (inn y (b+1))=some ob' at ht;rw[Sg.fS,hat y]at ht;by_cases hyx:y=x
   ·subst hyx;rw[if_pos rfl]at ht;change (match List.lookup b (ov.filter fun q=> !(Nat.beq q.1 a))with|some _=>none|none=>((M.set a l)[b]?).map fun l=>(⟨ity,lt.w,(lt.enc l).map .p⟩:Ob))=some ob' at ht
    by_cases hb:b=a
    ·subst hb;rw[gD,List.getElem?_set_self ha]at ht;have ht:=Option.some.inj ht;have hm:mS N y b s (inn y (b+1))=some (some (aW s)):=by
      unfold mS;rw[if_pos (by rw[dI];exact hxN),if_pos rfl]
     rw[hm];refine⟨_,by show Sg.a L.at (aW s)=_;rw[Sg.cE,hs];rfl,?_⟩
     rw[<-ht];exact⟨rfl,rfl,eE _ _⟩
    ·rw[kO hb,List.getElem?_set_ne (Ne.symm hb)]at ht;rw[pB hxN fun _=>hb]
     refine⟨ob',?_,?_⟩
     ·show Sg.a L.at (inn y (b+1))=_;rw[Sg.fS,hx];show(match List.lookup b ((a,SV.own s lt k)::ov)with|some _=>none|none=>(M[b]?).map fun l=>(⟨ity,lt.w,(lt.enc l).map .p⟩:Ob))=_
      rw[hcons b hb];exact ht
     ·split at ht
      ·cases ht
      ·cases hM:M[b]? with
       |none=>rw[hM]at ht;cases ht
       |some l'=>
        rw[hM]at ht;rw[<-Option.some.inj ht];exact⟨rfl,rfl,eE _ _⟩
   ·rw[if_neg hyx]at ht;by_cases hys:y=s
    ·rw[if_pos hys]at ht;cases ht
    ·rw[if_neg hys]at ht;cases ho:L.at y with
     |none=>rw[ho]at ht;cases ht
     |some ob=>
      have hk':=((hL y ob ho).resolve_left hyx).resolve_left hys;unfold Hu at hk';split at hk'
      case h_2=>cases hk'
      rename_i hz;rw[pB (tK hz).1 fun e=>absurd e hyx]
      rw[ho]at ht;refine⟨ob',by show Sg.a L.at (inn y (b+1))=_;rw[Sg.fS,ho];exact ht,?_⟩
      change SOb.inner b ob=some ob' at ht;unfold SOb.inner at ht;split at ht
      ·split at ht
       ·cases ht
       ·rename_i M' _ _ _;cases hM:M'[b]? with
        |none=>rw[hM]at ht;cases ht
        |some l'=>
         rw[hM]at ht;rw[<-Option.some.inj ht];exact⟨rfl,rfl,eE _ _⟩
      ·cases ht
  ·change Sg.a _ t=some ob' at ht;rw[Sg.qQ _ hno]at ht;cases ht
theorem zO{a:Nat}:∀{ov:List (Nat×SV)},(∀p∈zS ov a,p)->(ov.filter fun q=> !(Nat.beq q.1 a))=ov
 |[],_=>rfl
 |q::ov,h=>by
  have h1:a≠q.1:=h _ List.mem_cons_self;have h2:Nat.beq q.1 a=false:=by
   cases hb:Nat.beq q.1 a with
   |true=>exact absurd (Nat.eq_of_beq_eq_true hb).symm h1
   |false=>rfl
  rw[List.filter_cons,if_pos (by rw[h2];rfl),zO fun p hp=>h p (List.mem_cons_of_mem _ hp)]
def Uw(N x s:Nat)(F:Frm):Frm->List Nat
 |[] =>[]
 |(d,_)::r=>match qH N x s (F.at d)with
  |true=>Uw N x s F r
  |false=>d::Uw N x s F r
theorem Cj{N x s t:Nat}{F:Frm}:∀{G:Frm},t∈G.map (·.1)->t∈Uw N x s F G\/qH N x s (F.at t)=true
 |[],h=>(List.not_mem_nil h).elim
 |(d,v)::G,h=>by
  unfold Uw;cases hk:qH N x s (F.at d)with
  |true=>
   rcases List.mem_cons.1 h with h|h
   ·right;rw[h];exact hk
   ·exact Cj h
  |false=>
   rcases List.mem_cons.1 h with h|h
   ·left;rw[h];exact List.mem_cons_self
   ·rcases Cj (G:=G) h with h|h
    ·exact .inl (List.mem_cons_of_mem _ h)
    ·exact .inr h
theorem aAf{t:Nat}:∀{G:Frm},t∉G.map (·.1)->G.at t=Frm.at [] t
 |[],_=>rfl
 |(d,v)::G,h=>by
  rw[Frm.iA,if_neg fun e=>h (by rw[e];exact List.mem_cons_self),aAf fun hm=>h (List.mem_cons_of_mem _ hm)]
def vR(N x:Nat)(F:Frm)(L:bD):Option (List Prop×Frm×bD):=match L.at x with
 |some (.fam ty ity lt M ((a,.own s lt' k)::ov))=>(match L.at s with
  |some (.row ity' lt2 l)=>(match decEq lt' lt,decEq lt2 lt,Nat.beq ity' ity,Nat.blt (ncl x) N,iG (fun q:Nat×SV=>qH N x s q.2) ov,iG (fun q:Nat×Option SOb=>match Nat.beq q.1 x,Nat.beq q.1 s,L.at q.1 with|false,false,some ob=>Hu N x s q.1 ob|_,_,_=>true) L with
   | .isTrue _,.isTrue h,true,true,true,true=>some ((a<M.length)::(k=l.length)::zS ov a,((Uw N x s F F).map fun d=>(d,SV.any))++F,(x,some (.fam ty ity lt (M.set a (h▸l:List lt.ty)) ov))::(s,none)::L)
   |_,_,_,_,_,_=>none)
  |_=>none)
 |_=>none
theorem aAg{y:Nat}{ob:SOb}:∀{L:bD},L.at y=some ob->∃q∈L,q.1=y
 |[],h=>by cases h
 |(k,o)::L,h=>by
  cases hb:Nat.beq y k with
  |true=>exact⟨_,List.mem_cons_self,(Nat.eq_of_beq_eq_true hb).symm⟩
  |false=>
   have:bD.at L y=some ob:=by
    change (match Nat.beq y k with|true=>o|false=>bD.at L y)=some ob at h
    rw[hb]at h;exact h
   obtain⟨q,h1,h2⟩:=aAg this;exact⟨q,List.mem_cons_of_mem _ h1,h2⟩
theorem Jn{n N0 N x:Nat}{F F':Frm}{L L':bD}{ps:List Prop}(h:vR N x F L=some (ps,F',L'))(hp:∀p∈ps,p):kE (F.av n) L.fn N0 (F'.av n) L'.fn N:=by
 unfold vR at h;split at h
 case h_2=>cases h
 rename_i ty ity lt M a s lt' k ov hx;split at h
 case h_2=>cases h
 rename_i ity' lt2 l hs;split at h
 case h_2=>cases h
 rename_i e1 e2 _ _ hi hN hov hL;subst e1;subst e2;cases h;have hi:=Nat.eq_of_beq_eq_true hi;subst hi;have hne:∀p∈zS ov a,p:=fun p hq=>hp p (List.mem_cons_of_mem _ (List.mem_cons_of_mem _ hq))
 have:=Vb (n:=n) (N0:=N0) (N:=N) (F:=F) (hav:=Uw N x s F F) hx hs (hp _ List.mem_cons_self) (hp _ (List.mem_cons_of_mem _ List.mem_cons_self)) ((fB _ _).1 hN) (fun q hq _=>dK hov q hq) (fun t _=> ?_) (fun y ob ho=> ?_)
 ·rw[zO hne]at this;exact this
 ·by_cases hm:t∈F.map (·.1)
  ·exact Cj hm
  ·right;rw[aAf hm];rfl
 ·obtain⟨q,hq,rfl⟩:=aAg ho;have:=dK hL q hq;split at this
  ·rename_i ob' _ _ h3;rw[ho]at h3;cases h3;exact .inr (.inr this)
  ·rename_i h3;by_cases hx':q.1=x
   ·exact .inl hx'
   ·by_cases hs':q.1=s
    ·exact .inr (.inl hs')
    ·exfalso;have b1:Nat.beq q.1 x=false:=by
      cases hb:Nat.beq q.1 x with
      |true=>exact absurd (Nat.eq_of_beq_eq_true hb) hx'
      |false=>rfl
     have b2:Nat.beq q.1 s=false:=by
      cases hb:Nat.beq q.1 s with
      |true=>exact absurd (Nat.eq_of_beq_eq_true hb) hs'
      |false=>rfl
     exact h3 ob b1 b2 ho
def As(N:Nat):Nat->List Nat->Frm->bD->List Prop×Frm×bD
 |0,_,F,L=>([],F,L)
 |_+1,[],F,L=>([],F,L)
 |f+1,x::xs,F,L=>match vR N x F L with
  |some (ps,F',L')=>(match As N f (x::xs) F' L' with|(qs,r)=>(ps++qs,r))
  |none=>As N f xs F L
theorem uT{n N:Nat}:∀{f:Nat} {xs:List Nat} {F F':Frm} {L L':bD} {ps:List Prop},As N f xs F L=(ps,F',L')->(∀p∈ps,p)->∀N0,(ps=[]/\F'=F/\L'=L)\/kE (F.av n) L.fn N0 (F'.av n) L'.fn N
 |0,xs,F,F',L,L',ps,h,_,_=>by cases h;exact .inl ⟨rfl,rfl,rfl⟩
 |f+1,[],F,F',L,L',ps,h,_,_=>by cases h;exact .inl ⟨rfl,rfl,rfl⟩
 |f+1,x::xs,F,F',L,L',ps,h,hp,N0=>by
  unfold As at h;split at h
  ·rename_i p1 F1 L1 h1;split at h;rename_i qs r h2;cases h;have w1:=Jn (n:=n) (N0:=N0) h1 fun p hq=>hp p (List.mem_append_left _ hq)
   rcases uT (n:=n) h2 (fun p hq=>hp p (List.mem_append_right _ hq)) N with⟨_,rfl,rfl⟩|w2
   ·exact .inr w1
   ·exact .inr fun C0 B wI a w hst=>w2 C0 B wI a w (w1 C0 B wI a w hst)
  ·exact uT h hp N0
theorem Ni{N x:Nat}{F F':Frm}{L L':bD}{ps:List Prop}(h:vR N x F L=some (ps,F',L')):(∃p,F'=p++F)/\∃q,L'=q++L:=by
 unfold vR at h;split at h
 case h_2=>cases h
 split at h
 case h_2=>cases h
 split at h
 case h_2=>cases h
 cases h;exact⟨⟨_,rfl⟩,⟨[(_,_),(_,_)],rfl⟩⟩
theorem xQ{N:Nat}:∀{f:Nat} {xs:List Nat} {F F':Frm} {L L':bD} {ps:List Prop},As N f xs F L=(ps,F',L')->(∃p,F'=p++F)/\∃q,L'=q++L
 |0,xs,F,F',L,L',ps,h=>by cases h;exact⟨⟨[],rfl⟩,⟨[],rfl⟩⟩
 |f+1,[],F,F',L,L',ps,h=>by cases h;exact⟨⟨[],rfl⟩,⟨[],rfl⟩⟩
 |f+1,x::xs,F,F',L,L',ps,h=>by
  unfold As at h;split at h
  ·rename_i p1 F1 L1 h1;split at h;rename_i qs r h2;cases h;obtain⟨⟨p,e1⟩,⟨q,e2⟩⟩:=Ni h1;obtain⟨⟨p',e3⟩,⟨q',e4⟩⟩:=xQ h2;exact⟨⟨p'++p,by rw[e3,e1,List.append_assoc]⟩,⟨q'++q,by rw[e4,e2,List.append_assoc]⟩⟩
  ·exact xQ h
def Po:bD->List Nat
 |[] =>[]
 |(k,some (.fam ..))::L=>k::Po L
 |_::L=>Po L
end
end Go.Proofs.YtdaeofhdgabhjaaGreat
namespace Go.Proofs.YtdaeofhdgabhjaaGreat
open Go.RowKit
def frS(s:Nat)(cells:List PV)(x' y:AV):Prop:=x'= .any\/x'=y\/∃n,y= .own s 0 n/\x'= .p (.sl n cells)
def frO(s:Nat)(cells:List PV)(o:Option Ob)(ob:Ob):Prop:=o=some ob\/∃ob0,o=some ob0/\ob.ty=ob0.ty/\ob.esz=ob0.esz/\¬(ob.esz=0/\(ob.ty=0\/ob.ty=1))/\ob.cells.length=ob0.cells.length/\
 ∀(i:Nat) x,ob.cells[i]? =some x->∃y,ob0.cells[i]? =some y/\frS s cells x y
theorem frO.get{s:Nat}{cells:List PV}{o:Option Ob}{ob:Ob}(h:frO s cells o ob):∃ob0,o=some ob0/\ob.ty=ob0.ty/\ob.esz=ob0.esz:=by
 rcases h with h|⟨ob0,h1,h2,h3,_⟩
 ·exact⟨ob,h,rfl,rfl⟩
 ·exact⟨ob0,h1,h2,h3⟩
theorem rK{F F':List AV}{L L':Sto}{N:Nat}{ty esz:Nat}(s:Nat)(cells:List PV)(hs:L s=some ⟨ty,esz,cells.map .p⟩)(hz:esz≠0)(hl:F'.length=F.length)
  (hF:∀t,t<F.length->frS s cells (F'.getD t .any) (F.getD t .any)) (hL:∀k ob,L' k=some ob->k≠s/\frO s cells (L k) ob):kE F L N F' L' N:=by
 intro C0 B wI a w ⟨⟨ρ,s1,s2,s3⟩,s4,s5,s6,s7⟩;have hdead:∀k,L k=none->L' k=none:=by
  intro k hk;cases h:L' k with
  |none=>rfl
  |some ob=>obtain⟨ob0,h0,_⟩:=(hL k ob h).2.get;rw[hk]at h0;cases h0
 have hmono:∀b o v,aJ C0 B w ρ L b o v->aJ C0 B w ρ L' b o v:=fun b o v ⟨e1,e2,e3⟩=>⟨e1,fun k c h=>hdead k (e2 k c h),e3⟩
 have hone:∀x' y v,frS s cells x' y->aE ρ (aJ C0 B w ρ L) y v->aE ρ (aJ C0 B w ρ L') x' v:=by
  rintro x' y v (rfl|rfl|⟨n,rfl,rfl⟩) hv
  ·unfold aE;trivial
  ·exact aE.mono (fun _ _ h=>h) hmono _ v hv
  ·unfold aE at hv|-;obtain⟨q,c,hρ,hcase⟩:=hv;obtain⟨q2,c2,hρ2,hob⟩:=s1.ob s _ hs;rw[hρ]at hρ2;cases hρ2;unfold aU;rcases hcase with⟨h1,h4,h5,_⟩|⟨b,o',c',h1,h4,h5,h6,h7⟩
   ·subst h5;rcases hob with⟨_,⟨_,h8,_⟩|⟨h8,_⟩⟩|⟨b,arr,h8,_⟩
    ·exact⟨none,0,h4,Nat.le_refl _,fun _=>⟨rfl,by simpa using h8⟩,fun ad e=>by cases e⟩
    ·exact absurd h8 hz
    ·rw[h1]at h8;cases h8
   ·obtain⟨rfl,rfl⟩:=h7 rfl;rcases hob with⟨h8,_⟩|⟨b2,arr,h8,h9,h10⟩
    ·rw[h1]at h8;cases h8
    ·rw[h1]at h8;cases h8;refine⟨_,c',h4,h5,(fun e=>by cases e),fun ad e=> ?_⟩
     cases e;refine⟨fun _=>rfl,dS.of _ _ _ fun i x hi=> ?_⟩
     obtain⟨u,k1,k2,k3⟩:=h10.cells i (.p x) (by show(cells.map AV.p)[i]? =_;rw[List.getElem?_map,hi];rfl)
     unfold aE at k3;refine⟨u,⟨by rw[Nat.zero_add,h10.cell];exact k1,fun k c2 hk=> ?_,.inl h9⟩,k2,aU.mono hmono x u k3⟩
     cases h:L' k with
     |none=>rfl
     |some ob=>
      obtain⟨hne,h2⟩:=hL k ob h;obtain⟨ob0,h2,_⟩:=h2.get;exact absurd (s1.inj k s ob0 _ b c2 c' h2 hs hk (by rw[hρ,h1])) hne
 refine⟨⟨ρ,⟨?_,?_,?_⟩,s2,?_⟩,s4,s5,by rw[s6,hl],s7⟩
 ·intro k ob hk;obtain⟨hne,h2|⟨ob0,h2,g1,g2,g3,g4,g5⟩⟩:=hL k ob hk
  ·obtain⟨q,c,hρ,hcase⟩:=s1.ob k ob h2;refine⟨q,c,hρ,?_⟩;rcases hcase with⟨g1,g2⟩|⟨b,arr,g1,g2,g3⟩
   ·refine .inl ⟨g1,?_⟩;rcases g2 with g2|⟨g2,g3⟩
    ·exact .inl g2
    ·exact .inr ⟨g2,g3.mono (fun _ _ h=>h) hmono fun _ _ _ _=>rfl⟩
   ·refine .inr ⟨b,arr,g1,g2,⟨g3.blk,g3.box,g3.row,fun i x hi=> ?_⟩⟩
    obtain⟨v,m1,m2,m3⟩:=g3.cells i x hi;exact⟨v,m1,m2,aE.mono (fun _ _ h=>h) hmono _ v m3⟩
  ·obtain⟨q,c,hρ,hcase⟩:=s1.ob k ob0 h2;refine⟨q,c,hρ,?_⟩;rcases hcase with⟨k1,⟨k2,k3,k4⟩|⟨k2,k3⟩⟩|⟨b,arr,k1,k2,k3⟩
   ·refine .inl ⟨k1,.inl ⟨by rw[g2];exact k2,?_,k4⟩⟩
    rw[k3]at g4;exact List.length_eq_zero_iff.1 g4
   ·exfalso;refine g3 ⟨by rw[g2];exact k2,?_⟩
    rw[g1];rcases k3 with⟨k3,_⟩|⟨k3,_⟩
    ·exact .inl k3
    ·exact .inr k3
   ·refine .inr ⟨b,arr,k1,k2,⟨by rw[g1];exact k3.blk,fun h=>by rw[g4];exact k3.box (by rw[<-g2];exact h),fun h=>by rw[g4,g2];exact k3.row (by rw[<-g2];exact h),fun i x hi=> ?_⟩⟩
    obtain⟨y,y1,y2⟩:=g5 i x hi;obtain⟨v,m1,m2,m3⟩:=k3.cells i y y1;exact⟨v,m1,m2,hone x y v y2 m3⟩
 ·intro k k' o o' b c c' h1 h2 h3 h4;obtain⟨o1,e1,_⟩:=(hL k o h1).2.get;obtain⟨o2,e2,_⟩:=(hL k' o' h2).2.get;exact s1.inj k k' o1 o2 b c c' e1 e2 h3 h4
 ·intro k k' o o' c c' h1 h2 h3 h4 h5 h6 h7;obtain⟨o1,e1,a1,a2⟩:=(hL k o h1).2.get;obtain⟨o2,e2,b1,b2⟩:=(hL k' o' h2).2.get;refine s1.mpi k k' o1 o2 c c' e1 e2 (by rw[<-a2];exact h3) (by rw[<-b2];exact h4) h5 h6 ?_
  unfold Kl at h7|-;rw[<-a1,<-b1];exact h7
 ·intro t;rcases Nat.lt_or_ge t F.length with h|h
  ·exact hone _ _ _ (hF t h) (s3 t)
  ·rw[List.getD_eq_getElem?_getD,List.getElem?_eq_none (by omega)]
   show aE _ _ .any _;unfold aE;trivial
end Go.Proofs.YtdaeofhdgabhjaaGreat
namespace Go.Proofs.YtdaeofhdgabhjaaGreat
open Go.RowKit
noncomputable section
def Bi(d:Nat)(F:Frm)(L:bD):Option (List Prop×Frm×bD):=match F.at d with
 | .ownx s n=>(match L.at s with
   |some (.arr _ ez cs)=>(match cK (avs cs),Nat.beq ez 0 with
    |some _,false=>some ([],(d,.sl n cs)::F,(s,none)::L)
    |_,_=>none)
   |_=>none)
 | .own s _ n=>(match L.at s with
   |some (.row _ lt l)=>some ([n=l.length],(d,.lst lt l)::F,(s,none)::L)
   |_=>none)
 |_=>none
theorem Ai{L:bD}{s:Nat}{ob:SOb}(hs:L.at s=some ob)(hf:ob.flat=true){k:Nat}{o:Ob}(h:bD.fn ((s,none)::L) k=some o):k≠aW s/\L.fn k=some o:=by
 have h1:=(cR.flat (σ:=L.at) (rd:=[]) (W:=[(s,none)]) fun q hq=>by rw[List.mem_singleton.1 hq,hs];exact⟨hf,rfl⟩).2.2
 rw[bD.Rz]at h1;have h2:bD.fn ((s,none)::L)=cB L.fn [(aW s,none)] :=h1.symm;rw[h2]at h;unfold cB at h;rw[List.lookup_cons]at h;by_cases e:k=aW s
 ·rw[beq_iff_eq.2 e]at h;cases h
 ·rw[beq_eq_false_iff_ne.2 e]at h;exact⟨e,h⟩
theorem Tk{n d t:Nat}{v:SV}{F:Frm}(ht:t<n):(Frm.av n ((d,v)::F)).getD t .any=if t=d then v.av else(F.av n).getD t .any:=by
 rw[Frm.iR ht,Frm.iR ht,Frm.iA];split<;>rfl
theorem Nz{n N d:Nat}{F F':Frm}{L L':bD}{ps:List Prop}(h:Bi d F L=some (ps,F',L'))(hp:∀p∈ps,p):kE (F.av n) L.fn N (F'.av n) L'.fn N:=by
 unfold Bi at h;split at h
 ·rename_i s m hd;split at h
  case h_2=>cases h
  rename_i ty ez cs hs;split at h<;>cases h;rename_i q hq hz;refine rK (aW s) q (ty:=ty) (esz:=ez) ?_ (Nat.ne_of_beq_eq_false hz) (by rw[Frm.dQ,Frm.dQ]) ?_ fun k ob hk=>⟨(Ai hs rfl hk).1,.inl (Ai hs rfl hk).2⟩
  ·show Sg.a L.at (aW s)=_;rw[Sg.cE,hs,<-eD hq];rfl
  ·intro t ht;rw[Frm.dQ]at ht;rw[Tk ht];by_cases e:t=d
   ·subst e;rw[if_pos rfl,Frm.iR ht,hd];exact .inr (.inr ⟨m,rfl,by show(match cK (avs cs)with|some q=>AV.p (.sl m q)|none=> .any)=_;rw[hq]⟩)
   ·rw[if_neg e];exact .inr (.inl rfl)
 ·rename_i s t0 m hd;split at h<;>cases h;rename_i ty lt l hs;have hm:m=l.length:=hp _ (List.mem_singleton.2 rfl);refine rK (aW s) (lt.enc l) (ty:=ty) (esz:=lt.w) ?_ (Nat.ne_of_gt lt.mR) (by rw[Frm.dQ,Frm.dQ]) ?_ fun k ob hk=>⟨(Ai hs rfl hk).1,.inl (Ai hs rfl hk).2⟩
  ·show Sg.a L.at (aW s)=_;rw[Sg.cE,hs];rfl
  ·intro t ht;rw[Frm.dQ]at ht;rw[Tk ht];by_cases e:t=d
   ·subst e;rw[if_pos rfl,Frm.iR ht,hd];exact .inr (.inr ⟨m,rfl,by rw[hm];rfl⟩)
   ·rw[if_neg e];exact .inr (.inl rfl)
 ·cases h
def aEJ(L:bD):SV->Option (List Prop×SV×Nat)
 | .ownx s n=>(match L.at s with
   |some (.arr _ ez cs)=>(match cK (avs cs),Nat.beq ez 0 with
    |some _,false=>some ([],.sl n cs,s)
    |_,_=>none)
   |_=>none)
 | .own s _ n=>(match L.at s with
   |some (.row _ lt l)=>some ([n=l.length],.lst lt l,s)
   |_=>none)
 |_=>none
theorem Wr{L:bD}{v w:SV}{s:Nat}{ps:List Prop}(h:aEJ L v=some (ps,w,s))(hp:∀p∈ps,p):∃ob,L.at s=some ob/\ob.flat=true/\∃ty esz cells n,ob.ob s=⟨ty,esz,cells.map .p⟩/\esz≠0/\v.av= .own (aW s) 0 n/\w.av= .p (.sl n cells)/\(∀ty cs,ob≠ .box ty cs):=by
 unfold aEJ at h;split at h
 ·rename_i s m;split at h
  case h_2=>cases h
  rename_i ty ez cs hs;split at h<;>cases h;rename_i q hq hz;exact⟨_,hs,rfl,ty,ez,q,m,by rw[<-eD hq];rfl,Nat.ne_of_beq_eq_false hz,rfl,by show(match cK (avs cs)with|some q=>AV.p (.sl m q)|none=> .any)=_;rw[hq],fun _ _=>nofun⟩
 ·rename_i s t0 m;split at h<;>cases h;rename_i ty lt l hs;have hm:m=l.length:=hp _ (List.mem_singleton.2 rfl);exact⟨_,hs,rfl,ty,lt.w,lt.enc l,m,rfl,Nat.ne_of_gt lt.mR,rfl,by rw[hm];rfl,fun _ _=>nofun⟩
 ·cases h
def Bj(k i:Nat)(L:bD):Option (List Prop×bD):=match L.at k with
 |some (.box ty cs)=>(match cs[i]?,Nat.ble ty 1 with
  |some v,false=>(match aEJ L v with
   |some (ps,w,s)=>some (ps,(k,some (.box ty (cs.set i w)))::(s,none)::L)
   |none=>none)
  |_,_=>none)
 |_=>none
theorem Oa{n N k i:Nat}{F:Frm}{L L':bD}{ps:List Prop}(h:Bj k i L=some (ps,L'))(hp:∀p∈ps,p):kE (F.av n) L.fn N (F.av n) L'.fn N:=by
 unfold Bj at h;split at h
 case h_2=>cases h
 rename_i ty cs hk;split at h
 case h_2=>cases h
 rename_i v hv hty;split at h<;>cases h;rename_i w s hf;obtain⟨ob,e1,e2,tys,esz,cells,m,e3,e4,e5,e6,e7⟩:=Wr hf hp;have hks:k≠s:=fun e=>by rw[e,e1]at hk;cases hk;exact e7 _ _ rfl
 have hty:¬ty<=1:=fun hh=>by rw[Nat.ble_eq_true_of_le hh]at hty;cases hty
 have up:bD.fn ((k,some (.box ty (cs.set i w)))::(s,none)::L)=cB L.fn [(aW k,some ((SOb.box ty (cs.set i w)).ob k)),(aW s,none)] :=by
  have h1:=(cR.flat (σ:=L.at) (rd:=[]) (W:=[(k,some (.box ty (cs.set i w))),(s,none)]) fun q hq=>by
   rcases List.mem_cons.1 hq with rfl|hq
   ·rw[hk];exact⟨rfl,rfl⟩
   ·rw[List.mem_singleton.1 hq,e1];exact⟨e2,rfl⟩).2.2
  rw[bD.Rz]at h1;exact h1.symm
 refine rK (aW s) cells (ty:=tys) (esz:=esz) ?_ e4 rfl (fun t ht=> .inr (.inl rfl)) fun j ob' hj=> ?_
 ·show Sg.a L.at (aW s)=_;rw[Sg.cE,e1,Option.map_some,e3]
 ·rw[up]at hj;unfold cB at hj;rw[List.lookup_cons,List.lookup_cons]at hj;by_cases h1:j=aW k
  ·subst h1;rw[beq_iff_eq.2 rfl]at hj;cases hj;refine⟨fun e=>hks (fW e),.inr ⟨(SOb.box ty cs).ob k,by show Sg.a L.at (aW k)=_;rw[Sg.cE,hk];rfl,rfl,rfl,?_,?_,?_⟩⟩
   ·rintro⟨_,hh|hh⟩
    ·have hh:ty=0:=hh;exact hty (by rw[hh];exact Nat.zero_le 1)
    ·have hh:ty=1:=hh;exact hty (by rw[hh];exact Nat.le_refl 1)
   ·show(avs (cs.set i w)).length=(avs cs).length;rw[dG,dG,List.length_set]
   ·intro a x hx;have hx:(avs (cs.set i w))[a]? =some x:=hx;rw[Un,List.getElem?_set]at hx;by_cases ha:i=a
    ·subst ha;have hlt:i<cs.length:=by
      rcases Nat.lt_or_ge i cs.length with h|h
      ·exact h
      ·rw[List.getElem?_eq_none h]at hv;cases hv
     rw[if_pos rfl,if_pos (by rw[dG];exact hlt)]at hx
     cases hx;exact⟨v.av,by show(avs cs)[i]? =_;rw[vZ,hv];rfl,.inr (.inr ⟨m,e5,e6⟩)⟩
    ·rw[if_neg ha]at hx;exact⟨x,hx,.inr (.inl rfl)⟩
  ·rw[beq_eq_false_iff_ne.2 h1]at hj;by_cases h2:j=aW s
   ·rw[beq_iff_eq.2 h2]at hj;cases hj
   ·rw[beq_eq_false_iff_ne.2 h2]at hj;exact⟨h2,.inl hj⟩
theorem Rh{k i:Nat}{L L':bD}{ps:List Prop}(h:Bj k i L=some (ps,L')):∃q,L'=q++L:=by
 unfold Bj at h;split at h
 case h_2=>cases h
 split at h
 case h_2=>cases h
 split at h<;>cases h;exact⟨[(_,_),(_,_)],rfl⟩
def Yu(k:Nat):Nat->List SV->List (Nat×Nat)
 |_,[] =>[]
 |i,.lst _ _::r=>(k,i)::Yu k (i+1) r
 |i,_::r=>Yu k (i+1) r
def aEL:List (Nat×SOb)->List (Nat×Nat)
 |[] =>[]
 |(k,.box _ cs)::r=>Yu k 0 cs++aEL r
 |_::r=>aEL r
def Ax:List (Nat×Nat)->bD->List Prop×bD
 |[],L=>([],L)
 |d::ds,L=>match Bj d.1 d.2 L with
  |some (ps,L')=>(match Ax ds L' with|(qs,r)=>(ps++qs,r))
  |none=>Ax ds L
theorem vG{n N:Nat}{F:Frm}:∀{ds:List (Nat×Nat)} {L L':bD} {ps:List Prop},Ax ds L=(ps,L')->(∀p∈ps,p)->kE (F.av n) L.fn N (F.av n) L'.fn N
 |[],L,L',ps,h,_=>by cases h;exact kE.rfl
 |d::ds,L,L',ps,h,hp=>by
  unfold Ax at h;split at h
  ·rename_i p1 L1 h1;split at h;rename_i qs r h2;cases h;have w1:=Oa (n:=n) (N:=N) (F:=F) h1 fun p hq=>hp p (List.mem_append_left _ hq)
   have w2:=vG (n:=n) (N:=N) (F:=F) h2 fun p hq=>hp p (List.mem_append_right _ hq)
   exact fun C0 B wI a w hst=>w2 C0 B wI a w (w1 C0 B wI a w hst)
  ·exact vG h hp
theorem yH:∀{ds:List (Nat×Nat)} {L L':bD} {ps:List Prop},Ax ds L=(ps,L')->∃q,L'=q++L
 |[],L,L',ps,h=>by cases h;exact⟨[],rfl⟩
 |d::ds,L,L',ps,h=>by
  unfold Ax at h;split at h
  ·rename_i p1 L1 h1;split at h;rename_i qs r h2;cases h;obtain⟨q,e2⟩:=Rh h1;obtain⟨q',e4⟩:=yH h2;exact⟨q'++q,by rw[e4,e2,List.append_assoc]⟩
  ·exact yH h
def aEK:Frm->List Nat
 |[] =>[]
 |(d,.lst _ _)::r=>d::aEK r
 |_::r=>aEK r
def Oq:List Nat->Frm->bD->List Prop×Frm×bD
 |[],F,L=>([],F,L)
 |d::ds,F,L=>match Bi d F L with
  |some (ps,F',L')=>(match Oq ds F' L' with|(qs,r)=>(ps++qs,r))
  |none=>Oq ds F L
theorem yG{n N:Nat}:∀{ds:List Nat} {F F':Frm} {L L':bD} {ps:List Prop},Oq ds F L=(ps,F',L')->(∀p∈ps,p)->kE (F.av n) L.fn N (F'.av n) L'.fn N
 |[],F,F',L,L',ps,h,_=>by cases h;exact kE.rfl
 |d::ds,F,F',L,L',ps,h,hp=>by
  unfold Oq at h;split at h
  ·rename_i p1 F1 L1 h1;split at h;rename_i qs r h2;cases h;have w1:=Nz (n:=n) (N:=N) h1 fun p hq=>hp p (List.mem_append_left _ hq)
   have w2:=yG (n:=n) (N:=N) h2 fun p hq=>hp p (List.mem_append_right _ hq)
   exact fun C0 B wI a w hst=>w2 C0 B wI a w (w1 C0 B wI a w hst)
  ·exact yG h hp
theorem Rg{d:Nat}{F F':Frm}{L L':bD}{ps:List Prop}(h:Bi d F L=some (ps,F',L')):(∃p,F'=p++F)/\∃q,L'=q++L:=by
 unfold Bi at h;split at h
 ·split at h
  case h_2=>cases h
  split at h<;>cases h;exact⟨⟨[_],rfl⟩,⟨[_],rfl⟩⟩
 ·split at h<;>cases h;exact⟨⟨[_],rfl⟩,⟨[_],rfl⟩⟩
 ·cases h
theorem Cg:∀{ds:List Nat} {F F':Frm} {L L':bD} {ps:List Prop},Oq ds F L=(ps,F',L')->(∃p,F'=p++F)/\∃q,L'=q++L
 |[],F,F',L,L',ps,h=>by cases h;exact⟨⟨[],rfl⟩,⟨[],rfl⟩⟩
 |d::ds,F,F',L,L',ps,h=>by
  unfold Oq at h;split at h
  ·rename_i p1 F1 L1 h1;split at h;rename_i qs r h2;cases h;obtain⟨⟨p,e1⟩,⟨q,e2⟩⟩:=Rg h1;obtain⟨⟨p',e3⟩,⟨q',e4⟩⟩:=Cg h2;exact⟨⟨p'++p,by rw[e3,e1,List.append_assoc]⟩,⟨q'++q,by rw[e4,e2,List.append_assoc]⟩⟩
  ·exact Cg h
end
end Go.Proofs.YtdaeofhdgabhjaaGreat
namespace Go.Proofs.YtdaeofhdgabhjaaGreat
open Go.RowKit
noncomputable section
inductive Ann:Type 1
 |mk (Y:Type) (wit:Frm->bD->Option Y) (rk:List Nat) (inv:Y->List Prop) (upd:Y->Frm) (obs:Y->List (Nat×SOb)) (mu:Y->Nat) (inner:Y->List (Nat×Ann))
def aEb:List (Nat×Ann)->Nat->Option Ann
 |[],_=>none
 |(k,a)::l,x=>match Nat.beq x k with|true=>some a|false=>aEb l x
def asg:Code->List Nat
 | .region _ ops _=>ops.toList.filterMap (·.dst)
 | .seq a b=>asg a++asg b
 | .cond _ t e=>asg t++asg e
 | .block _ c=>asg c
 | .loop c=>asg c
 | .scope c=>asg c
 |_=>[]
def yW:Code->Option Nat
 | .region id _ _=>some id
 | .seq a b=>(match yW a with|some k=>some k|none=>yW b)
 | .cond _ t e=>(match yW t with|some k=>some k|none=>yW e)
 | .block _ c=>yW c
 | .loop c=>yW c
 | .scope c=>yW c
 |_=>none
def Ze(A:List (Nat×Ann))(c:Code)(j:Nat):Option Ann:=match yW c with
 |some k=>aEb A (k+j)
 |none=>none
def Kh(N:Nat):List Nat->Nat
 |[] =>N
 |s::l=>(match Nat.blt (ncl s) (Kh N l)with|true=>Kh N l|false=>ncl s+1)
abbrev uD:=Exit->Frm->bD->Nat->Fm
def aEq(X:Cx)(n:Nat)(raw:Nat->Nat->Bool)(id:Nat)(ops:List Oper)(draw:Bool)(F:Frm)(L:bD)(N:Nat)(K:Frm->bD->Fm):Fm:=match draw with
 |true=>(match X.P.follows .mixedOrders,Sl ops (Pu ops),dOk ops n with
  |true,true,true=>lK X n (raw id) N (ops.map (·.dst)) ops 0 F L [] fun F L log=>(match Be (Pu ops) log with|true=>K F L|false=> .stuck (id+100000))
  |_,_,_=> .stuck (id+200000))
 |false=>(match gOk ops with
  |true=>lK X n (raw id) N (ops.map (·.dst)) ops 0 F L [] fun F L _=>K F L
  |false=> .stuck (id+300000))
def Xt(n:Nat)(F:Frm)(L:bD)(N:Nat)(rk:List Nat)(upd:Frm)(obs:List (Nat×SOb))(qs:List Prop)(F':Frm)(L':bD):Fm:=match Oq (aEK upd) F' L' with
 |(pz,F0,La)=>match Ax (aEL obs) La with
  |(pb,L0)=>match As NM 100 (Po L0) F0 L0 with
   |(p0,F1,L1)=>(match iG (fun q:Nat×SV=>mem ((F'.take (F'.length-F.length)).map (·.1)) q.1) (F1.take (F1.length-F'.length)),Sm n L N (Kh N rk) rk upd obs F1 L1 with
    |true,some ps=>yU (pz++(pb++(p0++(ps++qs)))) .tt
    |_,_=> .stuck 400000)
def exq{Y:Type}(w:Option Y)(f:Y->Fm):Fm:=match w with
 |some y=>f y
 |none=> .ex Y f
theorem yN{Y:Type}{w:Option Y}{f:Y->Fm}(h:(exq w f).holds):∃y,(f y).holds:=by
 cases w with
 |some y=>exact⟨y,h⟩
 |none=>exact h
def Zz(A:List (Nat×Ann))(c:Code):Nat->Option Nat
 |0=>none
 |k+1=>(match Ze A c (30001+k)with|some _=>some (k+1)|none=>Zz A c k)
def unr(body:uD->Frm->bD->Nat->Fm)(Q:uD):Nat->Frm->bD->Nat->Fm
 |0,_,_,_=> .stuck 810000
 |k+1,F,L,N=>body (fun e F' L' N'=>match e with| .normal=>unr body Q k F' L' N'|e=>Q e F' L' N') F L N
abbrev Inl:=Nat->List SV->Frm->Nat->bD->Nat->(SV->bD->Nat->Fm)->Fm
def Ys:Inl:=fun _ _ _ _ _ _ _=> .stuck 990000
def Bg:List Oper->Option (List Oper×Oper)
 |[] =>none
 |o::l=>(match Bg l with|some (p,q)=>some (o::p,q)|none=>some ([],o))
theorem Gl:∀{l pre:List Oper} {o:Oper},Bg l=some (pre,o)->l=pre++[o]
 |[],pre,o,h=>by cases h
 |x::l,pre,o,h=>by
  unfold Bg at h;split at h
  ·rename_i p q hp;cases h;rw[Gl hp];rfl
  ·rename_i hp;cases h;cases l with
   |nil=>rfl
   |cons y l=>
    unfold Bg at hp;split at hp<;>cases hp
def Yw(X:Cx)(ops:List Oper):Option (List Oper×Oper×Nat×List Operand):=match Bg ops with
 |some (pre,o)=>(match o.guard,o.op with
  |none,.call {callee:= .value (.func f),args, .. }=>(match X.inl f with|true=>some (pre,o,f,args.toList)|false=>none)
  |_,_=>none)
 |none=>none
theorem Qv{X:Cx}{ops pre:List Oper}{o:Oper}{f:Nat}{args:List Operand}(h:Yw X ops=some (pre,o,f,args)):ops=pre++[o]/\o.guard=none/\∃c:Call,o.op= .call c/\c.callee= .value (.func f)/\c.args.toList=args:=by
 unfold Yw at h;split at h
 case h_2=>cases h
 rename_i p q hl;split at h
 case h_2=>cases h
 rename_i hg ho;split at h<;>cases h;exact⟨Gl hl,hg,_,ho,rfl,rfl⟩
def Zf(X:Cx)(I:Inl):Prop:=∀(f:Nat) (xs:List SV) (F:Frm) (n:Nat) (L:bD) (N:Nat) (K:SV->bD->Nat->Fm) (o:Oper) (c:Call),o.op= .call c->c.callee= .value (.func f)->c.args.toList.map (kF (F.av n))=avs xs->(I f xs F n L N K).holds->
 Ox X.P o (F.av n) L.fn N fun FA LA N'=>∃r L',r.ok/\FA=hU (F.av n) o.dst r.av/\LA=L'.fn/\lS L L'/\(K r L' N').holds
theorem Lw(X:Cx):Zf X Ys:=fun _ _ _ _ _ _ _ _ _ _ _ _ h=>h.elim
def vc(X:Cx)(I:Inl)(n:Nat)(raw:Nat->Nat->Bool):Code->(Nat->Bool)->List (Nat×Ann)->uD->Frm->bD->Nat->Fm
 | .skip,_,_,Q,F,L,N=>Q .normal F L N
 | .region id ops draw,_,_,Q,F,L,N=>(match draw,Yw X ops.toList with
   |false,some (pre,o,f,args)=>lK X n (raw id) N (ops.toList.map (·.dst)) pre 0 F L [] fun F L _=>I f (args.map (Ay n F)) F n L (N+pre.length) fun r L' N'=>Q .normal (Ec n F o.dst r) L' N'
   |_,_=>aEq X n raw id ops.toList draw F L N fun F L=>Q .normal F L (N+ops.size))
 | .seq a b,al,A,Q,F,L,N=>(match Ze A b 10000 with
   |none=>vc X I n raw a al A (fun e F L N=>match e with| .normal=>vc X I n raw b al A Q F L N|e=>Q e F L N) F L N
   |some (.mk Y wit rk inv upd obs _ inner)=>(match iG al (qP F rk N F)with
    |true=> .both
     (vc X I n raw a (mem (asg a)) A (fun e F1 L1 N1=>match e with| .normal=>exq (wit F1 L1) fun y=>Xt n F L N rk (upd y) (obs y) (inv y) F1 L1|e=>Q e F1 L1 N1) F L N)
     (.all Y fun y=>aEH (inv y) (match iG (fun q=>mem (asg a++qP F rk N F) q.1) (upd y)with
       |true=>vc X I n raw b al (inner y++A) Q (nL F (upd y) (asg a++qP F rk N F)) (jN L (obs y)) (Kh N rk)
       |false=> .stuck 500000))
    |false=> .stuck 600000))
 | .cond c t e,al,A,Q,F,L,N=>(match Ay n F c with
   | .lit true=>vc X I n raw t al A Q F L N
   | .lit false=>vc X I n raw e al A Q F L N
   | .prop p _=> .both (.imp p (vc X I n raw t al A Q F L N)) (.imp (¬p) (vc X I n raw e al A Q F L N))
   | .bool b=> .both (.imp (b=true) (vc X I n raw t al A Q F L N)) (.imp (b=false) (vc X I n raw e al A Q F L N))
   |_=> .stuck 700000)
 | .block id c,al,A,Q,F,L,N=>vc X I n raw c al A (fun e F L N=>match e with| .exit id'=>(match Nat.beq id' id with|true=>Q .normal F L N|false=>Q (.exit id') F L N)|e=>Q e F L N) F L N
 | .loop c,al,A,Q,F,L,N=>(match Ze A c 0 with
   |none=>(match Zz A c 6 with
    |some k=>unr (fun Q F L N=>vc X I n raw c al A Q F L N) Q k F L N
    |none=> .stuck 800000)
   |some (.mk Y wit rk inv upd obs mu inner)=>(match iG al (qP F rk N F)with
    |true=> .both
     (exq (wit F L) fun y=>Xt n F L N rk (upd y) (obs y) (inv y) F L)
     (.all Y fun x=>aEH (inv x) (match iG (fun q=>mem (asg c++qP F rk N F) q.1) (upd x)with
       |true=>vc X I n raw c (mem (asg c)) (inner x++A) (fun e F1 L1 N1=>match e with| .normal=>exq (wit F1 L1) fun y=>Xt n F L N rk (upd y) (obs y) (inv y++[mu y<mu x]) F1 L1|e=>Q e F1 L1 N1) (nL F (upd x) (asg c++qP F rk N F)) (jN L (obs x)) (Kh N rk)
       |false=> .stuck 500000))
    |false=> .stuck 600000))
 | .exit id,_,_,Q,F,L,N=>Q (.exit id) F L N
 | .ret,_,_,Q,F,L,N=>Q .ret F L N
 | .scope c,al,A,Q,F,L,N=>vc X I n raw c al A (fun e F L N=>match e with| .goto _=> .stuck 910001|e=>Q e F L N) F L N
 | .label _,_,_,Q,F,L,N=>Q .normal F L N
 |_,_,_,_,_,_,_=> .stuck 900000
theorem mQ.mono{n:Nat}{S T:Nat->Prop}{F:Frm}{L:bD}{FA:List AV}{LA:Sto}{G H:Frm->bD->Prop}(hS:∀d,S d->T d)(hG:∀F L,F.ok->G F L->H F L)(h:mQ n S F L FA LA G):mQ n T F L FA LA H:=by
 obtain⟨F',L',a,b,c,d,e,f⟩:=h;exact⟨F',L',a,b,c,d.mono hS,e,hG F' L' c f⟩
theorem aD8{p:Nat->Prop}(h:∃k,p k):∃k,p k/\∀j,p j->k<=j:=by
 obtain⟨k,hk⟩:=h;induction k using Nat.strongRecOn with
 |ind k ih=>
  by_cases hh:∃j,j<k/\p j
  ·obtain⟨j,hj,hpj⟩:=hh;exact ih j hj hpj
  ·exact⟨k,hk,fun j hj=>Nat.le_of_not_lt fun hlt=>hh ⟨j,hlt,hj⟩⟩
theorem Gq{F upd:Frm}{hav:List Nat}:Pre (fun d=>d∈upd.map (·.1)\/d∈hav) F (nL F upd hav):=by
 refine⟨upd++(hav.map fun d=>(d,SV.any)),by unfold nL;simp,fun q hq=> ?_⟩
 rcases List.mem_append.1 hq with h|h
 ·exact .inl (List.mem_map.2 ⟨q,h,rfl⟩)
 ·obtain⟨d,hd,rfl⟩:=List.mem_map.1 h;exact .inr hd
theorem yF{L:bD}{obs:List (Nat×SOb)}:lS L (jN L obs):=⟨_,rfl⟩
theorem Mh{F upd:Frm}{hav:List Nat}(hF:F.ok)(hu:∀q∈upd,q.2.ok):(nL F upd hav).ok:=by
 intro t;unfold nL;rw[Frm.iB,Frm.iB];split
 ·split
  ·rename_i h;exact hu _ (Fk h)
  ·rw[aAj];split<;>trivial
 ·exact hF t
theorem Ue{n:Nat}{F':Frm}:∀{upd:Frm} {ps:List Prop} {r:Rm},Ut n F' upd=some (ps,r)->∀q∈upd,q.2.ok
 |[],ps,r,_,q,hq=>by cases hq
 |(d,v)::upd,ps,r,h,q,hq=>by
  unfold Ut at h;split at h<;>cases h;rename_i p1 m1 p2 m2 h1 h2 h3 h4;rcases List.mem_cons.1 hq with rfl|hq
  ·exact SV.qX h2
  ·exact Ue h4 q hq
theorem Iz{n:Nat}{F F' upd:Frm}{L L':bD}{N N':Nat}{rk:List Nat}{obs:List (Nat×SOb)}{hav:List Nat}{qs:List Prop}(h:(Xt n F L N rk upd obs qs F' L').holds)
  (hF:Pre (fun d=>d∈hav) F F') (hbad:∀d∈qP F rk N F,d∈hav) (hL:lS L L'):
  kE (F'.av n) L'.fn N' ((nL F upd hav).av n) (jN L obs).fn (Kh N rk)/\(∀p∈qs,p)/\∀q∈upd,q.2.ok:=by
 unfold Xt at h;split at h;rename_i pz F0 La hz;split at h;rename_i pb L0 hb;split at h;rename_i p0 F1 L1 h0;split at h
 ·rename_i ps hc hm;have hp:=(gY h).1;obtain⟨⟨pa,ea1⟩,⟨qa,ea2⟩⟩:=xQ h0;obtain⟨⟨pb',eb1⟩,⟨qb,eb2⟩⟩:=Cg hz;obtain⟨qc,ec2⟩:=yH hb;obtain⟨p,e1⟩:∃p,F1=p++F':=⟨pa++pb',by rw[ea1,eb1,List.append_assoc]⟩
  obtain⟨q,e2⟩:∃q,L1=q++L':=⟨qa++(qc++qb),by rw[ea2,ec2,eb2,List.append_assoc,List.append_assoc]⟩
  have wz1:=yG (n:=n) (N:=N') hz fun p hpp=>hp p (List.mem_append_left _ hpp)
  have wz2:=vG (n:=n) (N:=N') (F:=F0) hb fun p hpp=>hp p (List.mem_append_right _ (List.mem_append_left _ hpp))
  have wz:kE (F'.av n) L'.fn N' (F0.av n) L0.fn N':=fun C0 B wI a w hst=>wz2 C0 B wI a w (wz1 C0 B wI a w hst)
  have hp:∀p∈p0++(ps++qs),p:=fun p hpp=>hp p (List.mem_append_right _ (List.mem_append_right _ hpp))
  have hF1:Pre (fun d=>d∈hav) F F1:=by
   obtain⟨pre,e3,hpre⟩:=hF;refine⟨p++pre,by rw[e1,e3,List.append_assoc],fun r hr=> ?_⟩
   rcases List.mem_append.1 hr with hr|hr
   ·have:=dK hc r (by rw[e1,show(p++F').length-F'.length=p.length by simp,List.take_left];exact hr)
    rw[e3,show(pre++F).length-F.length=pre.length by simp,List.take_left]at this
    obtain⟨r',h1,h2⟩:=List.mem_map.1 ((mem_iff _ _).1 this);rw[<-h2];exact hpre r' h1
   ·exact hpre r hr
  have hL1:lS L L1:=by
   obtain⟨pre,e3⟩:=hL;exact⟨q++pre,by rw[e2,e3,List.append_assoc]⟩
  have hps:∀p∈ps,p:=fun p hpp=>hp p (List.mem_append_right _ (List.mem_append_left _ hpp))
  refine⟨?_,fun p hpp=>hp p (List.mem_append_right _ (List.mem_append_right _ hpp)),?_⟩
  ·rcases uT (n:=n) h0 (fun p hpp=>hp p (List.mem_append_left _ hpp)) N' with⟨_,f1,f2⟩|w
   ·have:=Gd (N':=N') hm hps hF1 hbad hL1;rw[f1,f2]at this;exact fun C0 B wI a w' hst=>this C0 B wI a w' (wz C0 B wI a w' hst)
   ·have:=Gd (N':=NM) hm hps hF1 hbad hL1;exact fun C0 B wI a w' hst=>this C0 B wI a w' (w C0 B wI a w' (wz C0 B wI a w' hst))
  unfold Sm at hm;split at hm
  ·cases hm
  ·rename_i h1;exact Ue h1
 ·exact h.elim
theorem Sw{X:Cx}(hX:X.Ok){n:Nat}{raw:Nat->Nat->Bool}{id:Nat}{ops:Array Oper}{draw:Bool}{F:Frm}{L:bD}{N:Nat}{K:Frm->bD->Fm}(hF:F.ok)(h:(aEq X n raw id ops.toList draw F L N K).holds):
  aIJ X.P draw ops.toList (F.av n) L.fn N fun FA LA=>mQ n (fun d=>d∈asg (.region id ops draw)) F L FA LA fun F' L'=>(K F' L').holds:=by
 have hd:∀o∈ops.toList,o.dst∈ops.toList.map (·.dst):=fun o ho=>List.mem_map.2 ⟨o,ho,rfl⟩
 have hS:∀d,some d∈ops.toList.map (·.dst)->d∈asg (.region id ops draw):=by
  intro d hd;obtain⟨o,ho,e⟩:=List.mem_map.1 hd;exact List.mem_filterMap.2 ⟨o,ho,e⟩
 unfold aEq at h;split at h
 ·split at h
  ·rename_i h1 h2 h3;refine⟨_,h1,h2,by rw[Frm.dQ];exact h3,?_⟩
   refine dR ?_ (vS hX ops.toList 0 F L [] hd hF h);intro FA LA log ht;have hf:Be (Pu ops.toList) log=true:=by
    obtain⟨_,_,_,_,_,_,_,hh⟩:=ht;split at hh
    ·assumption
    ·exact hh.elim
   refine⟨hf,ht.mono hS fun F L _ hh=> ?_⟩
   rw[hf]at hh;exact hh
  ·exact h.elim
 ·split at h
  ·rename_i h1;exact⟨h1,dR (fun _ _ _ ht=>ht.mono hS fun _ _ _ h=>h) (vS hX ops.toList 0 F L [] hd hF h)⟩
  ·exact h.elim
theorem Bq{X:Cx}(hX:X.Ok){I:Inl}(hI:Zf X I){n:Nat}{raw:Nat->Nat->Bool}:∀(c:Code) (al:Nat->Bool) (A:List (Nat×Ann)) (Q:uD) (F:Frm) (L:bD) (N:Nat),(∀d∈asg c,al d=true)->F.ok->(vc X I n raw c al A Q F L N).holds->
  awp X.P c (fun e FA LA N'=>mQ n (fun d=>al d=true) F L FA LA fun F' L'=>(Q e F' L' N').holds) (F.av n) L.fn N:=by
 intro c;induction c with
 |skip=>intro al A Q F L N hal hF h;exact⟨F,L,rfl,rfl,hF,Pre.rfl,lS.rfl,h⟩
 |region id ops draw=>
  intro al A Q F L N hal hF h;unfold vc at h;cases draw with
  |true=>
   have:=Sw (draw:=true) hX hF h;left;obtain⟨anc,h1,h2,h3,h4⟩:=this;exact⟨anc,h1,h2,h3,dR (fun F L log ⟨a,b⟩=>⟨a,b.mono hal fun _ _ _ h=>h⟩) h4⟩
  |false=>
  split at h
  ·rename_i pre o f args _ hin;obtain⟨e1,e2,c,e3,e4,e5⟩:=Qv hin;have hd:∀o'∈pre,o'.dst∈ops.toList.map (·.dst):=fun o' ho=>List.mem_map.2 ⟨o',by rw[e1];exact List.mem_append_left _ ho,rfl⟩
   have hS:∀d,some d∈ops.toList.map (·.dst)->al d=true:=by
    intro d hd;obtain⟨o',ho,e⟩:=List.mem_map.1 hd;exact hal d (List.mem_filterMap.2 ⟨o',ho,e⟩)
   refine .inr ⟨rfl,pre,o,e1,e2,dR ?_ (vS hX pre 0 F L [] hd hF h)⟩;rintro FA LA log ⟨F',L',rfl,rfl,hF',hpre,hpreL,hh⟩;refine(hI f _ F' n L' _ _ o c e3 e4 ?_ hh).mono ?_
   ·rw[e5,eP,List.map_map];exact List.map_congr_left fun x _=>(Ci x).symm
   ·rintro FA LA N' ⟨r,L2,hr,rfl,rfl,hpl,hq⟩;refine⟨Ec n F' o.dst r,L2,by rw[Iq],rfl,Ip hF' hr,((hpre.mono hS).trans (By fun t ht=>hS t ?_)),hpreL.trans hpl,hq⟩
    rw[e1,List.map_append];exact List.mem_append_right _ (by rw[<-ht];exact List.mem_singleton.2 rfl)
  ·have:=Sw (draw:=false) hX hF h;left;obtain⟨h1,h2⟩:=this;exact⟨h1,dR (fun F L log b=>b.mono hal fun _ _ _ h=>h) h2⟩
 |seq a b iha ihb=>
  intro al A Q F L N hal hF h;have hala:∀d∈asg a,al d=true:=fun d hd=>hal d (List.mem_append_left _ hd)
  have halb:∀d∈asg b,al d=true:=fun d hd=>hal d (List.mem_append_right _ hd)
  unfold vc at h;split at h
  ·have h1:=iha al A _ F L N hala hF h;refine⟨fun FA LA N'=>mQ n (fun d=>al d=true) F L FA LA fun F' L'=>(vc X I n raw b al A Q F' L' N').holds,gU a ?_ h1,?_⟩
   ·intro e FA LA N' h;cases e<;>exact h
   ·rintro FA LA N' ⟨F',L',rfl,rfl,hF',hpre,hpreL,hh⟩;refine⟨_,_,_,kE.rfl,gU b ?_ (ihb al A Q F' L' N' halb hF' hh)⟩;intro e FA LA N' ht;exact ht.step hpre hpreL
  ·rename_i Y wit rk inv upd obs mu inner hA;split at h
   case h_2=>exact h.elim
   rename_i hbad;have hbad:=dK hbad;obtain⟨h1,h2⟩:=Fm.kL h;have hmem:∀d,mem (asg a) d=true->d∈asg a:=fun d=>(mem_iff d _).1
   have h1:=iha (mem (asg a)) A _ F L N (fun d hd=>(mem_iff _ _).2 hd) hF h1
   refine Kc (fun FA LA N'=>∃y,(∀p∈inv y,p)/\(∀q∈upd y,q.2.ok)/\FA=(nL F (upd y) (asg a++qP F rk N F)).av n/\LA=(jN L (obs y)).fn/\N'=Kh N rk) (gU a ?_ h1) ?_
   ·intro e FA LA N' ht;cases e
    case normal=>
     obtain⟨F',L',rfl,rfl,hF',hpre,hpreL,hh⟩:=ht;obtain⟨y,hh⟩:=yN hh;obtain⟨k1,k2,k3⟩:=Iz (N':=N') (hav:=asg a++qP F rk N F) hh (hpre.mono fun d hd=>List.mem_append_left _ (hmem d hd)) (fun d hd=>List.mem_append_right _ hd) hpreL
     exact⟨_,_,_,k1,y,k2,k3,rfl,rfl,rfl⟩
    all_goals exact ht.mono (fun d hd=>hala d (hmem d hd)) fun _ _ _ h=>h
   ·rintro FA LA N' ⟨y,hy,hok,rfl,rfl,rfl⟩;have h2:=Di ((h2:∀y:Y,Fm.holds _) y) hy;split at h2
    case h_2=>exact h2.elim
    rename_i hu;have hu:=dK hu;refine gU b ?_ (ihb al (inner y++A) Q _ _ _ halb (Mh hF hok) h2);intro e FA LA N' ht;refine ht.step (Gq.mono ?_) yF;rintro d (hd|hd)
    ·obtain⟨q,hq,rfl⟩:=List.mem_map.1 hd;rcases List.mem_append.1 ((mem_iff _ _).1 (hu q hq))with hd|hd
     ·exact hala _ hd
     ·exact hbad _ hd
    ·rcases List.mem_append.1 hd with hd|hd
     ·exact hala _ hd
     ·exact hbad _ hd
 |cond c t e iht ihe=>
  intro al A Q F L N hal hF h;have halt:∀d∈asg t,al d=true:=fun d hd=>hal d (List.mem_append_left _ hd)
  have hale:∀d∈asg e,al d=true:=fun d hd=>hal d (List.mem_append_right _ hd)
  unfold vc at h;have ev:∀v,Ay n F c=v->kF (F.av n) c=v.av:=fun v hv=>by rw[<-Ci,hv]
  split at h
  ·rename_i hc;exact⟨true,ev _ hc,fun _=>iht al A Q F L N halt hF h,fun hh=>by cases hh⟩
  ·rename_i hc;exact⟨false,ev _ hc,(fun hh=>by cases hh),fun _=>ihe al A Q F L N hale hF h⟩
  ·rename_i p d hc;obtain⟨h1,h2⟩:=Fm.kL h;refine⟨@decide p d,ev _ hc,fun hh=>iht al A Q F L N halt hF ((h1:p->_) (of_decide_eq_true hh)),fun hh=>ihe al A Q F L N hale hF ((h2:¬p->_) (of_decide_eq_false hh))⟩
  ·rename_i b hc;obtain⟨h1,h2⟩:=Fm.kL h;exact⟨b,ev _ hc,fun hh=>iht al A Q F L N halt hF ((h1:b=true->_) hh),fun hh=>ihe al A Q F L N hale hF ((h2:b=false->_) hh)⟩
  ·exact h.elim
 |block id c ih=>
  intro al A Q F L N hal hF h;unfold vc at h;have:=ih al A _ F L N hal hF h;refine gU c ?_ this;intro e FA LA N' ht;cases e
  case exit id'=>
   dsimp only at ht|-;cases hb:Nat.beq id' id with
   |true=>
    rw[if_pos (Nat.eq_of_beq_eq_true hb)];rw[hb]at ht;exact ht
   |false=>
    rw[if_neg (Nat.ne_of_beq_eq_false hb)];rw[hb]at ht;exact ht
  all_goals exact ht
 |loop c ih=>
  intro al A Q F L N hal hF h;unfold vc at h;split at h
  ·split at h
   case h_2=>exact h.elim
   rename_i k0 _
   let rep:Nat->List AV->Sto->Nat->Prop:=fun k FA LA N'=>mQ n (fun d=>al d=true) F L FA LA fun F' L'=>(unr (fun Q F L N=>vc X I n raw c al A Q F L N) Q k F' L' N').holds
   have hmu:∃μ:List AV->Sto->Nat->Nat,∀FA LA N',(∃k,rep k FA LA N')->rep (μ FA LA N') FA LA N'/\∀k,rep k FA LA N'->μ FA LA N'<=k:=by
    have:∀FA LA N',∃k,(∃k,rep k FA LA N')->rep k FA LA N'/\∀j,rep j FA LA N'->k<=j:=by
     intro FA LA N';by_cases hh:∃k,rep k FA LA N'
     ·obtain⟨k,h1,h2⟩:=aD8 hh;exact⟨k,fun _=>⟨h1,h2⟩⟩
     ·exact⟨0,fun h=>absurd h hh⟩
    exact⟨fun FA LA N'=>Classical.choose (this FA LA N'),fun FA LA N'=>Classical.choose_spec (this FA LA N')⟩
   obtain⟨μ,hμ⟩:=hmu;refine Xn (fun FA LA N'=>∃k,rep k FA LA N') μ ⟨_,_,_,kE.rfl,k0,⟨F,L,rfl,rfl,hF,Pre.rfl,lS.rfl,h⟩⟩ ?_
   intro FA LA N' hr;have hk:=(hμ FA LA N' hr).1;generalize hkk:μ FA LA N'=k at hk|-;obtain⟨F',L',rfl,rfl,hF',hpre,hpreL,hh⟩:=hk;cases k with
   |zero=>exact hh.elim
   |succ k=>
    refine gU c ?_ (ih al A _ F' L' N' hal hF' hh);intro e FA LA N2 ht;have ht:=ht.step hpre hpreL;cases e
    case normal=>
     have hr2:rep k FA LA N2:=ht;exact⟨_,_,_,kE.rfl,⟨k,hr2⟩,Nat.lt_succ_of_le ((hμ _ _ _ ⟨k,hr2⟩).2 k hr2)⟩
    all_goals exact ht
  rename_i Y wit rk inv upd obs mu inner hA;split at h
  case h_2=>exact h.elim
  rename_i hbad;have hbad:=dK hbad;obtain⟨h1,h2⟩:=Fm.kL h;obtain⟨y0,h1⟩:=yN h1;have hmem:∀d,mem (asg c) d=true->d∈asg c:=fun d=>(mem_iff d _).1
  let hav:=asg c++qP F rk N F
  let rep:Y->List AV->Sto->Prop:=fun y FA LA=>(∀p∈inv y,p)/\(∀q∈upd y,q.2.ok)/\FA=(nL F (upd y) hav).av n/\LA=(jN L (obs y)).fn
  obtain⟨k1,k2,k3⟩:=Iz (N':=N) (hav:=hav) h1 Pre.rfl (fun d hd=>List.mem_append_right _ hd) lS.rfl
  have hmu:∃μ:List AV->Sto->Nat,∀FA LA,(∃y,rep y FA LA)->∃y,rep y FA LA/\mu y=μ FA LA/\∀z,rep z FA LA->μ FA LA<=mu z:=by
   have:∀FA LA,∃k,(∃y,rep y FA LA)->∃y,rep y FA LA/\mu y=k/\∀z,rep z FA LA->k<=mu z:=by
    intro FA LA;by_cases hh:∃y,rep y FA LA
    ·obtain⟨y,hy⟩:=hh;obtain⟨k,⟨z,hz,e⟩,hk⟩:=aD8 (p:=fun k=>∃y,rep y FA LA/\mu y=k) ⟨_,y,hy,rfl⟩
     exact⟨k,fun _=>⟨z,hz,e,fun u hu=>hk _ ⟨u,hu,rfl⟩⟩⟩
    ·exact⟨0,fun h=>absurd h hh⟩
   exact⟨fun FA LA=>Classical.choose (this FA LA),fun FA LA=>Classical.choose_spec (this FA LA)⟩
  obtain⟨μ,hμ⟩:=hmu;refine aBr (fun FA LA N'=>(∃y,rep y FA LA)/\N'=Kh N rk) μ ⟨_,_,_,k1,⟨y0,k2,k3,rfl,rfl⟩,rfl⟩ ?_
  rintro FA LA N' ⟨hr,rfl⟩;obtain⟨x,⟨hx,hok,rfl,rfl⟩,hmx,_⟩:=hμ FA LA hr;have h2:=Di ((h2:∀x:Y,Fm.holds _) x) hx;split at h2
  case h_2=>exact h2.elim
  rename_i hu;have hu:=dK hu;have hpre0:Pre (fun d=>d∈hav) F (nL F (upd x) hav):=by
   refine Gq.mono ?_;rintro d (hd|hd)
   ·obtain⟨q,hq,rfl⟩:=List.mem_map.1 hd;exact(mem_iff _ _).1 (hu q hq)
   ·exact hd
  refine gU c ?_ (ih (mem (asg c)) (inner x++A) _ _ _ _ (fun d hd=>(mem_iff _ _).2 hd) (Mh hF hok) h2)
  intro e FA' LA' N' ht;have up:∀(G:Frm->bD->Prop),mQ n (fun d=>mem (asg c) d=true) (nL F (upd x) hav) (jN L (obs x)) FA' LA' G->mQ n (fun d=>al d=true) F L FA' LA' G:=by
   intro G ht;refine(ht.mono (fun d hd=>hal d (hmem d hd)) fun _ _ _ h=>h).step (hpre0.mono ?_) yF
   intro d hd;rcases List.mem_append.1 hd with hd|hd
   ·exact hal d hd
   ·exact hbad _ hd
  cases e
  case normal=>
   obtain⟨F',L',rfl,rfl,hF',hpre,hpreL,hh⟩:=ht;obtain⟨y,hh⟩:=yN hh;obtain⟨k1,k2,k3⟩:=Iz (N':=N') (hav:=hav) hh (hpre0.trans (hpre.mono fun d hd=>List.mem_append_left _ (hmem d hd))) (fun d hd=>List.mem_append_right _ hd) (yF.trans hpreL)
   have hry:rep y ((nL F (upd y) hav).av n) (jN L (obs y)).fn:=⟨fun p h=>k2 p (List.mem_append_left _ h),k3,rfl,rfl⟩
   refine⟨_,_,_,k1,⟨⟨y,hry⟩,rfl⟩,?_⟩;obtain⟨z,_,ez,hz⟩:=hμ _ _ ⟨y,hry⟩;have g1:=hz y hry;have g2:mu y<mu x:=k2 _ (List.mem_append_right _ (List.mem_singleton.2 rfl));omega
  all_goals exact up _ ht
 |exit id=>intro al A Q F L N hal hF h;exact⟨F,L,rfl,rfl,hF,Pre.rfl,lS.rfl,h⟩
 |ret=>intro al A Q F L N hal hF h;exact⟨F,L,rfl,rfl,hF,Pre.rfl,lS.rfl,h⟩
 |rangeFunc f params x y _ _=>intro al A Q F L N hal hF h;exact h.elim
 |scope c ih=>
  intro al A Q F L N hal hF h;unfold vc at h;refine gU c ?_ (ih al A _ F L N hal hF h);intro e FA LA N' ht;cases e<;>first|exact ht|(obtain⟨_,_,_,_,_,_,_,hh⟩:=ht;exact hh.elim)
 |label l=>intro al A Q F L N hal hF h;exact⟨F,L,rfl,rfl,hF,Pre.rfl,lS.rfl,h⟩
 |goto l=>intro al A Q F L N hal hF h;exact h.elim
 |refuse s=>intro al A Q F L N hal hF h;exact h.elim
end
end Go.Proofs.YtdaeofhdgabhjaaGreat
namespace Go.Proofs.YtdaeofhdgabhjaaGreat
open Go.RowKit
noncomputable section
def Ea(P:Program)(n:Nat)(F:Frm)(σ:Sg):List ResultVar->Option (List SV)
 |[] =>some []
 | .tmp t::rs=>(match Nat.blt t n,Ea P n F σ rs with|true,some l=>some (F.at t::l)|_,_=>none)
 | .cell a t::rs=>(match Nat.blt a n,F.at a,Ea P n F σ rs with
   |true,.ptr s off,some l=>(match σ s with
    |some (.box _ cs)=>(match uA P t cs off with|some r=>some (r::l)|none=>none)
    |some (.arr _ _ cs)=>(match uA P t cs off with|some r=>some (r::l)|none=>none)
    |_=>none)
   |_,_,_=>none)
theorem nM{P:Program}{n:Nat}{F:Frm}{σ:Sg}:∀{rs:List ResultVar} {l:List SV} {K:List AV->Prop},Ea P n F σ rs=some l->K (avs l)->oC P rs (F.av n) σ.a K
 |[],l,K,h,hK=>by cases h;exact hK
 | .tmp t::rs,l,K,h,hK=>by
   unfold Ea at h;split at h<;>cases h;rename_i l' h1 h2;unfold oC;refine nM h2 ?_;rw[Frm.iR ((fB _ _).1 h1)];exact hK
 | .cell a t::rs,l,K,h,hK=>by
   unfold Ea at h;split at h
   case h_2=>cases h
   rename_i s off l' h1 h2 h3;unfold oC;rw[Frm.iR ((fB _ _).1 h1),h2];show∃ob,Sg.a σ (aW s)=some ob/\_;split at h
   ·rename_i ty cs hs;split at h<;>cases h;rename_i r hr;exact⟨_,by rw[Sg.cE,hs];rfl,kU hr (nM h3 hK)⟩
   ·rename_i ty ez cs hs;split at h<;>cases h;rename_i r hr;exact⟨_,by rw[Sg.cE,hs];rfl,kU hr (nM h3 hK)⟩
   ·cases h
def Om:List SV->SV
 |[x] =>x
 |l=> .tup l
def aBM(P:Program)(n:Nat)(rs:List ResultVar)(r:SV)(F:Frm)(L:bD):Fm:=match Ea P n F L.at rs with
 |some l=>(match qM (mT 3 L.at) l with
  |some (ps,m)=>(match eqv 3 r (Om m)with
   |some (qs,[])=>yU (ps++qs) .tt
   |_=> .stuck 920000)
  |none=> .stuck 930000)
 |none=> .stuck 940000
def aHt(P:Program)(n:Nat)(rs:List ResultVar)(r:SV):uD:=fun e F L _=>match e with
 | .normal=>aBM P n rs r F L
 | .ret=>aBM P n rs r F L
 |_=> .stuck 910000
theorem aCb{P:Program}{n:Nat}{rs:List ResultVar}{r:SV}{q:PV}(hr:r.av= .p q){e:Exit}{F:Frm}{L:bD}{N:Nat}(h:(aHt P n rs r e F L N).holds):aEC P rs q e (F.av n) L.fn N:=by
 have key:(aBM P n rs r F L).holds->oC P rs (F.av n) L.fn fun l=>∃m,gE (fE 3 L.fn) l=some m/\On m=q:=by
  intro h;unfold aBM at h;split at h
  case h_2=>exact h.elim
  rename_i l hl;split at h
  case h_2=>exact h.elim
  rename_i ps m hm;split at h
  case h_2=>exact h.elim
  rename_i qs he;have hp:=(gY h).1;have e2:Sg.a L.at=L.fn:=rfl;rw[<-e2];refine nM hl ?_;obtain⟨u,h1,h2⟩:=vW (fun x ps y=>Bt) hm (fun p hpp=>hp p (List.mem_append_left _ hpp))
  refine⟨u,h1,?_⟩;have h3:=sO (m:=fun _=>none) 3 r (Om m) qs [] he (fun p hpp=>hp p (List.mem_append_right _ hpp)) (fun q hq=>by cases hq)
  rw[hr]at h3;unfold cS at h3;have h4:(Om m).av= .p (On u):=by
   cases m with
   |nil=>
    have:u=[] :=by
     have:=congrArg List.length h2;simp[avs]at this;exact List.length_eq_zero_iff.1 (by omega)
    subst this;rfl
   |cons x m=>
    cases m with
    |nil=>
     cases u with
     |nil=>simp[avs]at h2
     |cons y u=>
      have h5:u=[] :=by
       have:=congrArg List.length h2;simp only[avs,List.map_cons,List.length_cons,List.length_nil,List.length_map]at this;exact List.length_eq_zero_iff.1 (by omega)
      subst h5;simp only[avs,List.map_cons,List.map_nil,List.cons.injEq,and_true]at h2;exact h2
    |cons y m=>
     have h5:(Om (x::y::m)).av=lN (avs (x::y::m)):=rfl;rw[h5,h2];unfold lN;rw[bT];cases u with
     |nil=>simp[avs]at h2
     |cons a u=>
      cases u with
      |nil=>simp[avs]at h2
      |cons b u=>rfl
  rw[h4]at h3;cases h3;rfl
 cases e<;>first|exact h.elim|exact key h
structure Ar(α:Type) where
 enc:α->SV
 dec:SV->Option α
 ok:∀s a,dec s=some a->s.av=(enc a).av
 pl:∀a,∃q,(enc a).av= .p q
structure Arl(α:Type) where
 enc:α->List SV
 dec:List SV->Option α
 ok:∀s a,dec s=some a->avs s=avs (enc a)
 pl:∀a,∃q:List PV,avs (enc a)=q.map .p
def a0:Arl Unit:=⟨fun _=>[],fun l=>match l with|[] =>some ()|_=>none,fun s _ h=>(by cases s with|nil=>rfl|cons x l=>cases h),fun _=>⟨[],rfl⟩⟩
def a1{α:Type}(A:Ar α):Arl α:=⟨fun a=>[A.enc a],fun l=>match l with|[x] =>A.dec x|_=>none,fun s a h=>by
  match s,h with
  |[x],h=>simp only[avs,A.ok x a h],
 fun a=>by obtain⟨q,h⟩:=A.pl a;exact⟨[q],by simp only[avs,h,List.map_cons,List.map_nil]⟩⟩
def ac{α β:Type}(A:Ar α)(B:Arl β):Arl (α×β):=⟨fun a=>A.enc a.1::B.enc a.2,fun l=>match l with
  |x::r=>(match A.dec x,B.dec r with|some a,some b=>some (a,b)|_,_=>none)
  |_=>none,fun s a h=>by
  match s,h with
  |x::r,h=>
   dsimp only at h;split at h<;>cases h;rename_i a b h1 h2;simp only[avs,A.ok x a h1,B.ok r b h2],
 fun a=>by
  obtain⟨q,h⟩:=A.pl a.1;obtain⟨r,k⟩:=B.pl a.2;exact⟨q::r,by simp only[avs,h,k,List.map_cons]⟩⟩
def aI:Ar Int:=⟨fun n=> .int .i64 n,fun s=>match s with| .int .i64 n=>some n|_=>none,fun _ _ h=>by
 (split at h<;>cases h;rfl),fun _=>⟨_,rfl⟩⟩
def aN:Ar Nat:=⟨fun n=> .int .i64 (n:Int),fun s=>match s with| .int .i64 (.ofNat n)=>some n|_=>none,fun _ _ h=>by
 (split at h<;>cases h;rfl),fun _=>⟨_,rfl⟩⟩
def aV:Ar Geo.V:=⟨fun v=> .agg [.int .i64 v.x,.int .i64 v.y],fun s=>match s with| .agg [.int .i64 x,.int .i64 y] =>some ⟨x,y⟩|_=>none,fun _ _ h=>by
 (split at h<;>cases h;rfl),fun _=>⟨_,rfl⟩⟩
def aS:Ar Geo.S:=⟨fun s=> .agg [.int .i64 s.a.x,.int .i64 s.a.y,.int .i64 s.b.x,.int .i64 s.b.y],fun s=>match s with| .agg [.int .i64 x,.int .i64 y,.int .i64 z,.int .i64 w] =>some ⟨⟨x,y⟩,⟨z,w⟩⟩|_=>none,fun _ _ h=>by
 (split at h<;>cases h;rfl),fun _=>⟨_,rfl⟩⟩
def aT:Ar Geo.Pt:=⟨fun p=> .agg [.int .i64 p.x,.int .i64 p.y,.int .i64 p.den],fun s=>match s with| .agg [.int .i64 x,.int .i64 y,.int .i64 z] =>some ⟨x,y,z⟩|_=>none,fun _ _ h=>by
 (split at h<;>cases h;rfl),fun _=>⟨_,rfl⟩⟩
def Ed(t:LT)(s:SV):Option (List t.ty):=match s with
 | .lst t' l=>(match decEq t' t with| .isTrue h=>some (h▸l)| .isFalse _=>none)
 | .sl 0 [] =>some []
 | .sl n cs=>t.decs n cs
 |_=>none
theorem nO{t:LT}{s:SV}{l:List t.ty}(h:Ed t s=some l):s.av= .p (.sl l.length (t.enc l)):=by
 unfold Ed at h;split at h
 ·rename_i t' l';split at h
  ·rename_i e _;subst e;cases h;rfl
  ·cases h
 ·cases h;rfl
 ·rename_i n cs _;obtain⟨e1,e2⟩:=LT.sP h;show(match cK (avs cs)with|some q=>AV.p (.sl n q)|none=> .any)=_
  rw[e2,bT,e1]
 ·cases h
def aL(t:LT):Ar (List t.ty):=⟨fun l=> .lst t l,Ed t,fun _ _ h=>nO h,fun _=>⟨_,rfl⟩⟩
def shD(s:SV):Option Geo.Shape:=match s with
 | .agg [r,h] =>(match Ed .V r,Ed .R h with|some o,some hs=>some ⟨o,hs⟩|_,_=>none)
 |_=>none
theorem aE7(s:SV)(a:Geo.Shape)(h:shD s=some a):s.av=(SV.agg [.lst .V a.outer,.lst .R a.holes]).av:=by
 unfold shD at h;split at h
 ·rename_i r h';split at h<;>cases h;rename_i o hs h1 h2;simp only[SV.av,avs,nO h1,nO h2]
 ·cases h
def aSh:Ar Geo.Shape:=⟨fun s=> .agg [.lst .V s.outer,.lst .R s.holes],shD,aE7,fun _=>⟨_,rfl⟩⟩
def con{α:Type}(A:Arl α)(pre:α->List Prop)(res:α->SV):Con:=⟨α,A.dec,pre,.val false res⟩
def Ei(l:List SV):Nat->Frm
 |k=>match l with
  |[] =>[]
  |x::l=>(k,x)::Ei l (k+1)
theorem Je:∀(l:List SV) (k t:Nat),(Ei l k).at t=if k<=t then(match l[t-k]? with|some x=>x|none=> .undef)else .undef
 |[],k,t=>by simp[Ei,Frm.at]
 |x::l,k,t=>by
  unfold Ei;rw[Frm.iA,Je l (k+1) t];by_cases h:t=k
  ·subst h;simp
  ·rw[if_neg h];by_cases h2:k<=t
   ·rw[if_pos h2,if_pos (by omega)]
    rw[show t-k=(t-(k+1))+1 by omega]
    simp
   ·rw[if_neg h2,if_neg (by omega)]
theorem Na{l:List SV}{n:Nat}(hn:l.length<=n):(Ei l 0).av n=avs l++List.replicate (n-(avs l).length) .undef:=by
 apply List.ext_getElem?;intro i;unfold Frm.av;rw[List.getElem?_map];by_cases hi:i<n
 ·rw[List.getElem?_range hi,Option.map_some,Je,if_pos (Nat.zero_le _),Nat.sub_zero];by_cases h2:i<l.length
  ·rw[List.getElem?_append_left (by rw[dG];exact h2),vZ,List.getElem?_eq_getElem h2];rfl
  ·rw[List.getElem?_append_right (by rw[dG];omega),List.getElem?_replicate,List.getElem?_eq_none (by omega),dG,if_pos (by omega)];rfl
 ·rw[List.getElem?_eq_none (by simp;omega),List.getElem?_eq_none (by simp[dG];omega)];rfl
theorem Jd{args:List SV}(hpe:∀v∈args,v.ape=false):(Ei args 0).ok:=by
 intro t;rw[Je,if_pos (Nat.zero_le _)];split
 ·rename_i x hx;exact SV.qX (hpe x (List.mem_of_getElem? hx))
 ·trivial
theorem aFt:bD.fn [] =fun _=>none:=by
 funext s
 rcases dV s with⟨x,rfl⟩|⟨x,a,rfl⟩|hno
 ·exact Sg.cE _ x
 ·exact Sg.fS _ x a
 ·exact Sg.qQ _ hno
def bR:Nat->Nat->Bool:=fun _ _=>false
def aEG(X:Cx):Inl:=fun f xs F n L N K=>match qL X.P f,X.P.funcs[f]?,L.at 0 with
 |true,some fn,some (.box 0 (.undef::S))=>(match fn.body with
  |some c=>(match Nat.ble xs.length fn.ntmps,iG (fun v:SV=>match v.ape with|true=>false|false=>true) xs with
   |true,true=>
    let fin:Frm->bD->Nat->Fm:=fun F' L' N'=>match iG (fun q:Nat×Option SOb=>match Nat.beq q.1 0 with|true=>false|false=>true) (L'.take (L'.length-(L.length+1)))with
     |true=>(match Ea X.P fn.ntmps F' L'.at fn.results.toList with
      |some [] =>K .undef ((0,some (.box 0 (.undef::S)))::L') N'
      |some [r] =>(match r.ape with|false=>K r ((0,some (.box 0 (.undef::S)))::L') N'|true=> .stuck 991001)
      |_=> .stuck 991002)
     |false=> .stuck 991003
    vc X Ys fn.ntmps bR c (fun _=>true) [] (fun e F' L' N'=>match e with
     | .normal=>fin F' L' N'
     | .ret=>fin F' L' N'
     |_=> .stuck 991004) (Ei xs 0) ((0,some (.box 0 (.undef::(S++(List.range n).map F.at))))::L) N
   |_,_=> .stuck 991005)
  |none=> .stuck 991006)
 |_,_,_=> .stuck 991007
theorem aBt{L:bD}{pre:bD}{s:Nat}(h:∀q∈pre,q.1≠s):bD.at (pre++L) s=L.at s:=by
 induction pre with
 |nil=>rfl
 |cons q pre ih=>
  obtain⟨k,x⟩:=q;have hk:Nat.beq s k=false:=by
   cases hb:Nat.beq s k with
   |false=>rfl
   |true=>exact absurd (Nat.eq_of_beq_eq_true hb).symm (h (k,x) List.mem_cons_self)
  show(match Nat.beq s k with|true=>x|false=>bD.at (pre++L) s)=_
  rw[hk];exact ih fun q hq=>h q (List.mem_cons_of_mem _ hq)
theorem Sz{L:bD}{cs T:List SV}(hL:L.at 0=some (.box 0 cs)):bD.fn ((0,some (.box 0 T))::L)=cB L.fn [(iC,some ⟨0,0,avs T⟩)] :=by
 have h:=(cR.flat (σ:=L.at) (rd:=[]) (W:=[(0,some (.box 0 T))]) fun q hq=>by rw[List.mem_singleton.1 hq,hL];exact⟨rfl,rfl⟩).2.2
 rw[bD.Rz]at h;have e:aW 0=iC:=pW (by unfold NM;omega)
 unfold bD.fn;rw[show bD.at ((0,some (.box 0 T))::L)=bD.at ([(0,some (SOb.box 0 T))] ++L)from rfl,<-h,<-e];rfl
theorem Zo{L:bD}{cs:List SV}(hL:L.at 0=some (.box 0 cs)):L.fn iC=some ⟨0,0,avs cs⟩:=by
 have e:aW 0=iC:=pW (by unfold NM;omega)
 rw[<-e];show Sg.a L.at (aW 0)=_;rw[Sg.cE,hL];rfl
theorem Xo(F:Frm)(n:Nat):avs ((List.range n).map F.at)=F.av n:=by
 rw[eP,List.map_map];rfl
theorem aCq{X:Cx}(hX:X.Ok):Zf X (aEG X):=by
 intro f xs F n L N K o c ho hc hargs h;unfold aEG at h;split at h
 case h_2=>exact h.elim
 rename_i fn S hok hf hL;split at h
 case h_2=>exact h.elim
 rename_i body hb;split at h
 case h_2=>exact h.elim
 rename_i hn hpe;have hn:=Nat.le_of_ble_eq_true hn;have hpe:∀v∈xs,v.ape=false:=fun v hv=>by
  have:=dK hpe v hv;cases hh:v.ape with
  |true=>rw[hh]at this;cases this
  |false=>rfl
 have hw:=Bq hX (Lw X) body (fun _=>true) [] _ _ _ N (fun _ _=>rfl) (Jd hpe) h
 rw[Na hn,Sz hL]at hw;have hT:avs (.undef::(S++(List.range n).map F.at))= .undef::(avs S++F.av n):=by rw[aBs,iZ,Xo];rfl
 rw[hT]at hw;refine aA5 (fid:=f) (A:=avs xs) (S:=avs S) (f:= .func f) ho hc rfl hargs hok hf hb (by rw[Zo hL];rfl) (gU body ?_ hw)
 rintro e FA LA N' ⟨F',L',rfl,rfl,hF',hpre,⟨pre,hpl⟩,hh⟩;have fin:(match iG (fun q:Nat×Option SOb=>match Nat.beq q.1 0 with|true=>false|false=>true) (L'.take (L'.length-(L.length+1)))with
    |true=>(match Ea X.P fn.ntmps F' L'.at fn.results.toList with
     |some [] =>K .undef ((0,some (.box 0 (.undef::S)))::L') N'
     |some [r] =>(match r.ape with|false=>K r ((0,some (.box 0 (.undef::S)))::L') N'|true=> .stuck 991001)
     |_=> .stuck 991002)
    |false=> .stuck 991003).holds->
   oC X.P fn.results.toList (F'.av fn.ntmps) L'.fn fun l=>∃S2 F2,L'.fn iC=some ⟨0,0,.undef::(S2++F2)⟩/\S2.length=(avs S).length/\F2.length=(F.av n).length/\
    (fun FA LA N'=>∃r L2,r.ok/\FA=hU (F.av n) o.dst r.av/\LA=bD.fn L2/\lS L L2/\(K r L2 N').holds) (hU F2 o.dst (Kj l)) (cB L'.fn [(iC,some ⟨0,0,.undef::S2⟩)]) N':=by
  intro hh;split at hh
  case h_2=>exact hh.elim
  rename_i h0;have hat:L'.at 0=some (.box 0 (.undef::(S++(List.range n).map F.at))):=by
   rw[hpl];have h1:=dK h0;rw[hpl,show(pre++(0,some (SOb.box 0 (.undef::(S++(List.range n).map F.at))))::L).length-(L.length+1)=pre.length by simp,List.take_left]at h1
   rw[aBt fun q hq e=>by have:=h1 q hq;rw[e]at this;cases this]
   rfl
  have hst:L'.fn iC=some ⟨0,0,.undef::(avs S++F.av n)⟩:=by rw[Zo hat,hT]
  have hL2:bD.fn ((0,some (.box 0 (.undef::S)))::L')=cB L'.fn [(iC,some ⟨0,0,.undef::avs S⟩)] :=Sz hat;have hpl2:lS L ((0,some (.box 0 (.undef::S)))::L'):=⟨(0,some (.box 0 (.undef::S)))::(pre++[(0,some (.box 0 (.undef::(S++(List.range n).map F.at))))]),by rw[hpl];simp⟩
  split at hh
  ·rename_i hr;exact nM hr ⟨avs S,F.av n,hst,rfl,rfl,.undef,_,trivial,rfl,hL2.symm,hpl2,hh⟩
  ·rename_i r hr;split at hh
   ·rename_i hrp;exact nM hr ⟨avs S,F.av n,hst,rfl,rfl,r,_,SV.qX hrp,rfl,hL2.symm,hpl2,hh⟩
   ·exact hh.elim
  ·exact hh.elim
 cases e<;>first|exact fin hh|exact hh.elim
def Ry(X:Cx)(st:Bool)(raw:Nat->Nat->Bool)(f:Nat)(ann:List (Nat×Ann))(args:List SV)(post:Nat->List ResultVar->uD):Fm:=match qL X.P f,X.P.funcs[f]? with
 |true,some fn=>(match fn.body with
  |some c=>(match Nat.ble args.length fn.ntmps,iG (fun v=>match v.ape with|true=>false|false=>true) args with
   |true,true=>(match st with
    |false=>vc X Ys fn.ntmps raw c (fun _=>true) ann (post fn.ntmps fn.results.toList) (Ei args 0) [] 0
    |true=>vc X (aEG X) fn.ntmps raw c (fun _=>true) ann (post fn.ntmps fn.results.toList) (Ei args 0) [(0,some (.box 0 [.undef]))] 1)
   |_,_=> .stuck 950000)
  |none=> .stuck 960000)
 |_,_=> .stuck 970000
def aCO(X:Cx)(raw:Nat->Nat->Bool)(f:Nat)(ann:List (Nat×Ann))(args:List SV)(post:Nat->List ResultVar->uD):Fm:=Ry X false raw f ann args post
def aFC(X:Cx)(raw:Nat->Nat->Bool)(f:Nat)(ann:List (Nat×Ann))(args:List SV)(r:SV):Fm:=aCO X raw f ann args fun n rs=>aHt X.P n rs r
theorem aFs:bD.fn [(0,some (.box 0 [.undef]))] =Xr:=by
 have e:aW 0=iC:=pW (by unfold NM;omega)
 funext s
 unfold Xr;rcases dV s with⟨x,rfl⟩|⟨x,a,rfl⟩|hno
 ·show Sg.a _ (aW x)=_;rw[Sg.cE];by_cases hx:x=0
  ·subst hx;rw[if_pos e];rfl
  ·rw[if_neg (fun h=>hx (fW (h.trans e.symm)))]
   show Option.map _ (match Nat.beq x 0 with|true=>_|false=>none)=none
   cases hb:Nat.beq x 0 with
   |true=>exact absurd (Nat.eq_of_beq_eq_true hb) hx
   |false=>rfl
 ·show Sg.a _ (inn x (a+1))=_;rw[Sg.fS,if_neg (fun h=>by have h:inn x (a+1)=aW 0:=h.trans e.symm;have:=(dC h).2;omega)]
  show Option.bind (match Nat.beq x 0 with|true=>_|false=>none) _=none
  cases Nat.beq x 0<;>rfl
 ·show Sg.a _ s=_;rw[Sg.qQ _ hno,if_neg (fun h=>hno 0 0 (h.trans e.symm))]
theorem Bp{X:Cx}(hX:X.Ok){st:Bool}{raw:Nat->Nat->Bool}{f:Nat}{ann:List (Nat×Ann)}{args:List SV}{post:Nat->List ResultVar->uD}{A:List PV}{Q:List ResultVar->uF}(hA:avs args=A.map .p)
  (hQ:∀n rs e (F:Frm) (L:bD) N,(post n rs e F L N).holds->Q rs e (F.av n) L.fn N) (h:(Ry X st raw f ann args post).holds):
  qL X.P f=true/\∃fn c L0 N0,X.P.funcs[f]? =some fn/\fn.body=some c/\uR L0 N0/\awp X.P c (Q fn.results.toList) (A.map .p++List.replicate (fn.ntmps-A.length) .undef) L0 N0:=by
 unfold Ry at h;split at h
 case h_2=>exact h.elim
 rename_i fn hok hf;split at h
 case h_2=>exact h.elim
 rename_i c hb;split at h
 case h_2=>exact h.elim
 rename_i hn hpe;have hn:=Nat.le_of_ble_eq_true hn;have hpe:∀v∈args,v.ape=false:=fun v hv=>by
  have:=dK hpe v hv;cases hh:v.ape with
  |true=>rw[hh]at this;cases this
  |false=>rfl
 have hal:(A.map AV.p).length=A.length:=List.length_map ..;have hAF:A.map .p++List.replicate (fn.ntmps-A.length) .undef=(Ei args 0).av fn.ntmps:=by rw[Na hn,hA,hal]
 split at h
 ·refine⟨hok,fn,c,bD.fn [],0,hf,hb,.inl ⟨aFt,rfl⟩,?_⟩;rw[hAF];refine gU c ?_ (Bq hX (Lw X) c (fun _=>true) ann _ _ [] 0 (fun _ _=>rfl) (Jd hpe) h)
  rintro e FA LA N' ⟨F',L',rfl,rfl,_,_,_,hh⟩;exact hQ _ _ _ _ _ _ hh
 ·refine⟨hok,fn,c,bD.fn [(0,some (.box 0 [.undef]))],1,hf,hb,.inr ⟨aFs,rfl⟩,?_⟩;rw[hAF];refine gU c ?_ (Bq hX (aCq hX) c (fun _=>true) ann _ _ _ 1 (fun _ _=>rfl) (Jd hpe) h)
  rintro e FA LA N' ⟨F',L',rfl,rfl,_,_,_,hh⟩;exact hQ _ _ _ _ _ _ hh
theorem aAl{X:Cx}(hX:X.Ok){raw:Nat->Nat->Bool}{f:Nat}{ann:List (Nat×Ann)}{args:List SV}{r:SV}{A:List PV}{q:PV}(hA:avs args=A.map .p)(hq:r.av= .p q)(h:(aFC X raw f ann args r).holds):Sat X.P false f A q:=by
 obtain⟨hok,fn,c,L0,N0,hf,hb,h0,hw⟩:=Bp hX (st:=false) (Q:=fun rs=>aEC X.P rs q) hA (fun n rs e F L N hh=>aCb hq hh) h
 exact Qj hok hf hb h0 hw
def aBN(P:Program)(n:Nat)(rs:List ResultVar)(ty:Nat)(t:LT)(l:List t.ty)(ys:List SV)(F:Frm)(L:bD):Fm:=match Ea P n F L.at rs with
 |some (v::r)=>(match Eg (eqv 3) ys r with
  |some (qs,[])=>(match v with
   | .nil=>yU ((l=[])::qs) .tt
   | .own s _ k=>(match L.at s with
     |some (.row ty' t' l')=>(match Nat.beq ty' ty,decEq t' t with
      |true,.isTrue h=>yU ([(h▸l':List t.ty)=l,k=l'.length] ++qs) .tt
      |_,_=> .stuck 980001)
     |_=> .stuck 980002)
   |_=> .stuck 980003)
  |_=> .stuck 980004)
 |_=> .stuck 980005
def aD0(P:Program)(ty:Nat)(t:LT)(l:List t.ty)(ys:List SV)(n:Nat)(rs:List ResultVar):uD:=fun e F L _=>match e with
 | .normal=>aBN P n rs ty t l ys F L
 | .ret=>aBN P n rs ty t l ys F L
 |_=> .stuck 910000
theorem Lp{m:Rf}:∀{q:List PV} {r:List AV},dD m (q.map .p) r->r=q.map .p
 |[],r,h=>by rw[List.map_nil]at h;unfold dD at h;exact h
 |x::q,r,h=>by
  rw[List.map_cons]at h;unfold dD at h;obtain⟨y,r',rfl,h1,h2⟩:=h;unfold cS at h1;rw[h1,Lp h2];rfl
theorem aAL{P:Program}{n:Nat}{rs:List ResultVar}{ty:Nat}{t:LT}{l:List t.ty}{ys:List SV}{Y:List PV}(hY:avs ys=Y.map .p){e:Exit}{F:Frm}{L:bD}{N:Nat}(h:(aD0 P ty t l ys n rs e F L N).holds):aED P rs ty t.w (t.enc l) l.length Y e (F.av n) L.fn N:=by
 have key:(aBN P n rs ty t l ys F L).holds->oC P rs (F.av n) L.fn fun lA=>(∃s,lA= .own s 0 l.length::Y.map .p/\L.fn s=some ⟨ty,t.w,(t.enc l).map .p⟩)\/(lA= .nil::Y.map .p/\l.length=0/\t.enc l=[]):=by
  intro h;unfold aBN at h;split at h
  case h_2=>exact h.elim
  rename_i v r hl;split at h
  case h_2=>exact h.elim
  rename_i qs he;have e2:Sg.a L.at=L.fn:=rfl;have hr:(∀p∈qs,p)->avs r=Y.map .p:=fun hp=>by
   have:=kW (m:=fun _=>none) (sO 3) he hp (fun q hq=>by cases hq)
   rw[hY]at this;exact Lp this
  rw[<-e2];refine nM hl ?_;split at h
  ·have hp:=(gY h).1;have hl0:l=[] :=hp _ List.mem_cons_self;subst hl0;refine .inr ⟨?_,rfl,rfl⟩;show AV.nil::avs r=_;rw[hr fun p hpp=>hp p (List.mem_cons_of_mem _ hpp)]
  ·rename_i s t2 k;split at h
   case h_2=>exact h.elim
   rename_i ty' t' l' hs;split at h
   case h_2=>exact h.elim
   rename_i h2 hty _;subst h2;have hp:=(gY h).1;have h3:l'=l:=hp _ (List.mem_append_left _ List.mem_cons_self);have h4:k=l'.length:=hp _ (List.mem_append_left _ (List.mem_cons_of_mem _ List.mem_cons_self));subst h3;refine .inl ⟨aW s,?_,?_⟩
   ·show AV.own (aW s) 0 k::avs r=_;rw[hr fun p hpp=>hp p (List.mem_append_right _ hpp),h4]
   ·rw[Sg.cE,hs,<-Nat.eq_of_beq_eq_true hty];rfl
  ·exact h.elim
 cases e<;>first|exact h.elim|exact key h
def aER{α:Type}(A:Arl α)(pre:α->List Prop)(ty:Nat)(t:LT)(l:α->List t.ty)(ys:α->List SV):Con:=⟨α,A.dec,pre,.own ty t l ys⟩
theorem Uj{X:Cx}(hX:X.Ok){raw:Nat->Nat->Bool}{f:Nat}{α:Type}{A:Arl α}{pre:α->List Prop}{ty:Nat}{t:LT}{l:α->List t.ty}{ys:α->List SV}(ann:α->List (Nat×Ann))(hr:∀x,∃q:List PV,avs (ys x)=q.map .p)
  (h:∀x,Hl (pre x)->(aCO X raw f (ann x) (A.enc x) (aD0 X.P ty t (l x) (ys x))).holds):(aER A pre ty t l ys).Ok X.P f:=by
 intro s x hd hp;obtain⟨B,hB⟩:=A.pl x;obtain⟨q,hq⟩:=hr x;obtain⟨hok,fn,c,L0,N0,hf,hb,h0,hw⟩:=Bp hX (st:=false) (Q:=fun rs=>aED X.P rs ty t.w (t.enc (l x)) (l x).length q) hB (fun n rs e F L N hh=>aAL hq hh) (h x (fM.2 hp))
 exact⟨B,q,by rw[A.ok s x hd,hB],hq,Nm hok (Nat.ne_of_gt t.mR) hf hb h0 hw⟩
theorem bF{X:Cx}(hX:X.Ok){raw:Nat->Nat->Bool}{f:Nat}{α:Type}{A:Arl α}{pre:α->List Prop}{res:α->SV}(ann:α->List (Nat×Ann))(hr:∀x,∃q,(res x).av= .p q)(h:∀x,Hl (pre x)->(aFC X raw f (ann x) (A.enc x) (res x)).holds):(con A pre res).Ok X.P f:=by
 intro s x hd hp;obtain⟨B,hB⟩:=A.pl x;obtain⟨q,hq⟩:=hr x;exact⟨B,q,by rw[A.ok s x hd,hB],hq,aAl hX hB hq (h x (fM.2 hp))⟩
def Bf(r:Rm):List Nat:=match r with
 |[] =>[]
 |(k,none)::r=>k::Bf r
 |(_,some _)::r=>Bf r
def Yq(ns:List Nat)(r:Rm):Bool:=iG (fun q:Nat×Option Nat=>match q.2 with
 |some k=>(match Nat.beq q.1 k,mem ns q.1 with|true,false=>true|_,_=>false)
 |none=>mem ns q.1) r
open Classical in
def idm(ns:List Nat):Rf:=fun s=>if∃k∈ns,s=aW k then some none else some (some s)
theorem aEa{ns:List Nat}{k:Nat}(h:mem ns k=false):idm ns (aW k)=some (some (aW k)):=by
 unfold idm;rw[if_neg];rintro⟨x,hx,e⟩;rw[fW e,(mem_iff x ns).2 hx]at h;cases h
theorem Zy(ns:List Nat)(x a:Nat):idm ns (inn x (a+1))=some (some (inn x (a+1))):=by
 unfold idm;rw[if_neg];rintro⟨y,hy,e⟩;have e:inn x (a+1)=inn y 0:=e;have:=(dC e).2;omega
theorem Lm{ns:List Nat}{r:Rm}(h:Yq ns r=true):iF (idm ns) r:=by
 intro q hq;have h:=dK h q hq;obtain⟨s,o⟩:=q;cases o with
 |none=>
  unfold idm;exact if_pos ⟨s,(mem_iff s ns).1 h,rfl⟩
 |some k=>
  dsimp only at h;split at h
  ·rename_i e1 e2;show _=some (some (aW k));rw[<-Nat.eq_of_beq_eq_true e1];exact aEa e2
  ·cases h
def xM(ns:List Nat)(σ:Sg):bD->Option (List Prop)
 |[] =>some []
 |(_,none)::_=>none
 |(k,some ob)::l=>match xM ns σ l with
  |none=>none
  |some ps=>(match mem ns k with
   |true=>(match ob with| .row _ _ c=>some ((c=[])::ps)|_=>none)
   |false=>(match σ k with
    |none=>none
    |some ob'=>(match Fh ob ob' with
     |some (p,r)=>(match Yq ns r with|true=>some (p++ps)|false=>none)
     |none=>(match Kt [] k k ob ob' with
      |some p=>some (p++ps)
      |none=>none))))
theorem Gv{ns:List Nat}{σ:Sg}:∀{l:bD} {ps:List Prop},xM ns σ l=some ps->(∀p∈ps,p)->∀k o,(k,o)∈l->∃ob,o=some ob/\
  ((mem ns k=true/\∃ty t,ob= .row ty t [])\/(mem ns k=false/\∃ob',σ k=some ob'/\vN (idm ns) (ob.ob k) (ob'.ob k)/\(ob.flat=true\/ob=ob')))
 |[],_,_,_,_,_,hk=>by cases hk
 |(_,none)::_,_,h,_,_,_,_=>by unfold xM at h;cases h
 |(k,some ob)::l,ps,h,hp,k1,o1,hk=>by
  unfold xM at h;split at h
  ·cases h
  rename_i qs hqs;have ih:=Gv hqs;split at h
  ·rename_i hm;split at h<;>cases h;rename_i ty t c;rcases List.mem_cons.1 hk with e|hk
   ·cases e;have:c=[] :=hp _ List.mem_cons_self;subst this;exact⟨_,rfl,.inl ⟨hm,ty,t,rfl⟩⟩
   ·exact ih (fun p hpp=>hp p (List.mem_cons_of_mem _ hpp)) k1 o1 hk
  ·rename_i hm;split at h
   ·cases h
   rename_i ob' hob';split at h
   ·rename_i p r he;split at h<;>cases h;rename_i hs;rcases List.mem_cons.1 hk with e|hk
    ·cases e;exact⟨_,rfl,.inr ⟨hm,ob',hob',Gu he (fun q hq=>hp q (List.mem_append_left _ hq)) (Lm hs) _ _,.inl (Dm he)⟩⟩
    ·exact ih (fun p hpp=>hp p (List.mem_append_right _ hpp)) k1 o1 hk
   ·split at h<;>cases h;rename_i p hf;rcases List.mem_cons.1 hk with e|hk
    ·cases e;obtain⟨_,_,e3,_⟩:=Mn hf fun q hq=>hp q (List.mem_append_left _ hq)
     subst e3;refine⟨_,rfl,.inr ⟨hm,_,hob',?_,.inr rfl⟩⟩;unfold Kt at hf;split at hf
     ·refine⟨rfl,rfl,oU _ _ _ fun i _=> ?_⟩
      show cS _ (.own (inn k (i+1)) 0 _) (.own (inn k (i+1)) 0 _);unfold cS;exact .inl ⟨_,Zy ns k (i+1-1),rfl⟩
     ·cases hf
    ·exact ih (fun p hpp=>hp p (List.mem_append_right _ hpp)) k1 o1 hk
theorem Ri{ns:List Nat}{L:bD}{l:bD}{ps:List Prop}(h:xM ns L.at l=some ps)(hp:∀p∈ps,p):Kw (idm ns) (Sg.a (bD.at l)) L.fn:=by
 have key:=Gv h hp;constructor
 ·intro s s' o h1 h2;unfold idm at h1 h2;split at h1<;>cases h1;split at h2<;>cases h2;rfl
 ·intro s ob' hs;rcases dV s with⟨x,rfl⟩|⟨x,a,rfl⟩|hno
  ·rw[Sg.cE]at hs;cases hx:bD.at l x with
   |none=>rw[hx]at hs;cases hs
   |some ob=>
    rw[hx]at hs;cases hs;obtain⟨ob1,e,h1⟩:=key x (some ob) (bD.Fk hx);cases e;rcases h1 with⟨hm,ty,t,rfl⟩|⟨hm,ob2,h2,h3,_⟩
    ·rw[show idm ns (aW x)=some none from if_pos ⟨x,(mem_iff x ns).1 hm,rfl⟩]
     exact⟨Nat.ne_of_gt t.mR,by show(LT.enc t []).map AV.p=[];rfl⟩
    ·rw[aEa hm];exact⟨_,by show Sg.a L.at (aW x)=_;rw[Sg.cE,h2];rfl,h3⟩
  ·rw[Sg.fS]at hs;cases hx:bD.at l x with
   |none=>rw[hx]at hs;cases hs
   |some ob=>
    rw[hx]at hs;obtain⟨ob1,e,h1⟩:=key x (some ob) (bD.Fk hx);cases e;have hs:ob.inner a=some ob':=hs;rw[Zy];rcases h1 with⟨hm,ty,t,rfl⟩|⟨hm,ob2,h2,h3,h4⟩
    ·cases hs
    ·rcases h4 with h4|h4
     ·rw[SOb.pZ h4]at hs;cases hs
     ·subst h4;refine⟨ob',by show Sg.a L.at (inn x (a+1))=_;rw[Sg.fS,h2];exact hs,rfl,rfl,?_⟩
      cases ob with
      |fam ty ity t M ov=>
       have hs:(match ov.lookup a with|some _=>none|none=>(M[a]?).map fun l=>(⟨ity,t.w,(t.enc l).map .p⟩:Ob))=some ob':=hs
       cases ho:ov.lookup a with
       |some v=>rw[ho]at hs;cases hs
       |none=>
        rw[ho]at hs;cases hm:M[a]? with
        |none=>rw[hm]at hs;cases hs
        |some c=>rw[hm]at hs;cases hs;exact eE _ _
      |_=>cases hs
  ·rw[Sg.qQ _ hno]at hs;cases hs
def aHu(l:List SV):Bool:=match l with
 |[_] =>true
 |[] =>false
 |l=>(match cK (avs l)with|none=>true|some _=>false)
def aBK(P:Program)(n:Nat)(rs:List ResultVar)(r:SV)(obs:bD)(F:Frm)(L:bD):Fm:=match Ea P n F L.at rs with
 |some l=>(match aHu l,eqv 3 r (Om l)with
  |true,some (ps,m)=>(match Yq (Bf m) m,xM (Bf m) L.at obs with
   |true,some qs=>yU (ps++qs) .tt
   |_,_=> .stuck 990001)
  |_,_=> .stuck 990002)
 |none=> .stuck 990003
def aHs(P:Program)(r:SV)(obs:bD)(n:Nat)(rs:List ResultVar):uD:=fun e F L _=>match e with
 | .normal=>aBK P n rs r obs F L
 | .ret=>aBK P n rs r obs F L
 |_=> .stuck 910000
theorem aCg{l:List SV}(h:aHu l=true):Kj (avs l)=(Om l).av:=by
 match l,h with
 |[x],_=>rfl
 |x::y::r,h=>
  show AV.tup (avs (x::y::r))=lN (avs (x::y::r));have h:(match cK (avs (x::y::r))with|none=>true|some _=>false)=true:=h
  unfold lN;split at h
  ·rename_i e;rw[e]
  ·cases h
theorem aCa{P:Program}{n:Nat}{rs:List ResultVar}{r:SV}{obs:bD}{e:Exit}{F:Frm}{L:bD}{N:Nat}(h:(aHs P r obs n rs e F L N).holds):aEB P rs r.av (Sg.a (bD.at obs)) e (F.av n) L.fn N:=by
 have key:(aBK P n rs r obs F L).holds->oC P rs (F.av n) L.fn fun l=>∃m:Rf,Kw m (Sg.a (bD.at obs)) L.fn/\cS m r.av (Kj l):=by
  intro h;unfold aBK at h;split at h
  case h_2=>exact h.elim
  rename_i l hl;split at h
  case h_2=>exact h.elim
  rename_i ps m h1 he;split at h
  case h_2=>exact h.elim
  rename_i qs hs hq;have hp:=(gY h).1;rw[show L.fn=Sg.a L.at from rfl]
  refine nM hl ⟨idm (Bf m),Ri hq fun p hpp=>hp p (List.mem_append_right _ hpp),?_⟩
  rw[aCg h1];exact sO 3 r (Om l) ps m he (fun p hpp=>hp p (List.mem_append_left _ hpp)) (Lm hs)
 cases e<;>first|exact h.elim|exact key h
def aEQ{α:Type}(A:Arl α)(pre:α->List Prop)(res:α->SV)(obs:α->bD):Con:=⟨α,A.dec,pre,.tree res obs⟩
theorem Ui{X:Cx}(hX:X.Ok){st:Bool}{raw:Nat->Nat->Bool}{f:Nat}{α:Type}{A:Arl α}{pre:α->List Prop}{res:α->SV}{obs:α->bD}(ann:α->List (Nat×Ann))
  (h:∀x,Hl (pre x)->(Ry X st raw f (ann x) (A.enc x) (aHs X.P (res x) (obs x))).holds):(aEQ A pre res obs).Ok X.P f:=by
 intro s x hd hp;obtain⟨B,hB⟩:=A.pl x;obtain⟨hok,fn,c,L0,N0,hf,hb,h0,hw⟩:=Bp hX (Q:=fun rs=>aEB X.P rs (res x).av (Sg.a (bD.at (obs x)))) hB (fun n rs e F L N hh=>aCa hh) (h x (fM.2 hp))
 exact⟨B,by rw[A.ok s x hd,hB],Nl hok hf hb h0 hw⟩
theorem bQ{p q:Prop}(h:p=q)(hq:q):p:=h▸hq
def cJ:List (Nat×Con)->Tab->Tab
 |[],T,f=>T f
 |(k,c)::l,T,f=>match Nat.beq f k with|true=>some c|false=>cJ l T f
def aEp(P:Program):List (Nat×Con)->Prop
 |[] =>True
 |q::l=>q.2.Ok P q.1/\aEp P l
theorem aR{P:Program}{T:Tab}(hT:T.Ok P):∀{l:List (Nat×Con)},aEp P l->(cJ l T).Ok P
 |[],_=>hT
 |(k,c)::l,h=>by
  intro f d hd;unfold cJ at hd;split at hd
  ·rename_i e;cases hd;rw[Nat.eq_of_beq_eq_true e];exact h.1
  ·exact aR hT h.2 f d hd
def aEs:Tab:=fun _=>none
theorem aBT{P:Program}:aEs.Ok P:=fun _ _ h=>by cases h
end
end Go.Proofs.YtdaeofhdgabhjaaGreat
namespace Go.Proofs.YtdaeofhdgabhjaaGreat
open Go.RowKit
noncomputable section
set_option maxRecDepth 100000 in
theorem aJr(N:Nat)(a b c d:Int)(w:World):Sem.run Tryz.prog (Op.equalIn (N+1+1) 44 (.agg #[.int .i64 a,.int .i64 b]) (.agg #[.int .i64 c,.int .i64 d])) w= .ok (a==c&&b==d) w:=by
 have u3:=Tryz.underlying3;have a3:=Tryz.isAgg3;have z3:=Tryz.sizeOf3;have hS:Tryz.prog.underlying 44=some (.struct (Tryz.prog.fieldsOf 44)):=by kernel_rfl
 have hp:Tryz.prog.stoodInHeld 44=false:=by kernel_rfl
 rw[run_equalIn_agg w (N+1) 44 _ _ hS hp];simp only[Program.fieldsOf,Tryz.underlying44]
 go_simp
 by_cases h1:a=c<;>by_cases h2:b=d<;>simp[h1,h2]
set_option maxRecDepth 100000 in
theorem aJs(a b c d a' b' c' d':Int)(w:World)(N:Nat):Sem.run Tryz.prog (Op.equalIn (N+1+1+1) 46 (.agg #[.int .i64 a,.int .i64 b,.int .i64 c,.int .i64 d]) (.agg #[.int .i64 a',.int .i64 b',.int .i64 c',.int .i64 d'])) w= .ok ((a==a'&&b==b')&&(c==c'&&d==d')) w:=by
 have hS6:Tryz.prog.underlying 46=some (.struct (Tryz.prog.fieldsOf 46)):=by kernel_rfl
 have hp6:Tryz.prog.stoodInHeld 46=false:=by kernel_rfl
 rw[run_equalIn_agg w (N+1+1) 46 _ _ hS6 hp6];unfold Program.fieldsOf;rw[Tryz.underlying46];dsimp only;have a44:=Tryz.isAgg44;have z44:=Tryz.sizeOf44;have p1:∀a b c d:Int,(part 44 #[Value.int .i64 a,Value.int .i64 b,Value.int .i64 c,Value.int .i64 d] 0).run Tryz.prog w= .ok (.agg #[.int .i64 a,.int .i64 b]) w:=by
  intro a b c d;simp[part,a44,z44]
 have p2:∀a b c d:Int,(part 44 #[Value.int .i64 a,Value.int .i64 b,Value.int .i64 c,Value.int .i64 d] 2).run Tryz.prog w= .ok (.agg #[.int .i64 c,.int .i64 d]) w:=by
  intro a b c d;simp[part,a44,z44]
 have hE:=aJr N;generalize N+1+1=M at hE|-;unfold Op.eqFields;unfold Op.eqFields;unfold Op.eqFields;rw[if_pos (by decide)]
 simp only[Sem.run_bind,p1,Result.andThen_ok,hE];cases h1:(a==a')<;>cases h2:(b==b')<;>simp[hE,p2,Sem.run_bind,Result.andThen_ok];by_cases h3:c=c'<;>by_cases h4:d=d'<;>simp[h3,h4]
set_option maxRecDepth 100000 in
theorem aBg:Bn Tryz.prog 46 4:=by
 intro xs ys x y w hx hy;match xs,ys,hx,hy with
 |[a,b,c,d],[a',b',c',d'],_,_=>
  have h1:=aJs a b c d a' b' c' d' w 9997;rw[show 9997+1+1+1=10000 from rfl]at h1
  have e:(([a,b,c,d] :List Int)==[a',b',c',d'])=((a==a'&&b==b')&&(c==c'&&d==d')):=by
   rw[Bool.eq_iff_iff];simp[and_assoc]
  refine⟨?_,?_⟩
  ·simp only[List.map_cons,List.map_nil];rw[e];simp only[eqGuard,Sem.run_bind];simp[Result.andThen];rw[run_eql_struct,h1];simp[Result.andThen]
  ·simp only[List.map_cons,List.map_nil];unfold bne;rw[e];simp[eqGuard];rw[run_neq_struct,h1];simp[Result.andThen]
noncomputable def ltL:List (Nat×LT)->Nat->Option LT
 |[],_=>none
 |(k,x)::l,t=>match Nat.beq t k with|true=>some x|false=>ltL l t
set_option maxRecDepth 100000 in
theorem u67:Tryz.prog.underlying 67=some (.array 2 3):=by kernel_rfl
theorem aJv:Tryz.prog.underlying 115=some (.map 67 4):=by kernel_rfl
theorem Fb(w:World)(xs:Array Value)(i:Nat)(a:Value)(h:xs[i]? =some a):(part 3 xs i).run Tryz.prog w= .ok a w:=by
 have a3:=Tryz.isAgg3;simp[part,a3,h]
set_option maxRecDepth 100000 in
theorem aFn:MKey Tryz.prog 67 2:=by
 have u3:=Tryz.underlying3;have hu3:Tryz.prog.underlying 3=some (.int .i64):=by kernel_rfl
 obtain⟨i3,hi3⟩:=info_of_underlying hu3;have c3:Tryz.prog.cellsOf 3=1:=by kernel_rfl
 have two:∀{xs:List Int},xs.length=2->∃a b,xs=[a,b] :=fun{xs} h=>by
  match xs,h with
  |[a,b],_=>exact⟨a,b,rfl⟩
 refine⟨?_,?_,⟨_,u67,fun a b=>rfl⟩⟩
 ·intro w em xs hx;obtain⟨a,b,rfl⟩:=two hx;show(Instr.checkKey em (9999+1) 67 (.agg #[.int .i64 a,.int .i64 b])).run _ w=_;have p0:=Fb w #[Value.int .i64 a,.int .i64 b] 0 (.int .i64 a) rfl;have p1:=Fb w #[Value.int .i64 a,.int .i64 b] 1 (.int .i64 b) rfl;have ck:∀a:Int,(Instr.checkKey em 9999 3 (.int .i64 a)).run Tryz.prog w= .ok () w:=by
   intro a;show(Instr.checkKey em (9998+1) 3 (.int .i64 a)).run _ w=_;generalize 9998=N;simp only[Instr.checkKey,Sem.run_bind,run_underlying hu3,Result.andThen_ok,Sem.run_pure]
  generalize 9999=N at ck|-;rw[Instr.checkKey];simp only[Sem.run_bind,run_underlying u67,Result.andThen_ok];simp only[Std.Legacy.Range.forIn_eq_forIn_range',Std.Legacy.Range.size,Nat.sub_zero,Nat.add_one_sub_one,Nat.div_one];simp only[show List.range' 0 2=[0,1]from rfl,List.forIn_cons,List.forIn_nil,Sem.run_bind,run_sizeOf w hi3,Result.andThen_ok,c3,p0,p1,ck,Sem.run_pure,Nat.zero_mul,Nat.one_mul]
 ·intro w xs ys hx hy;obtain⟨a,b,rfl⟩:=two hx;obtain⟨c,d,rfl⟩:=two hy;have p0:=Fb w #[Value.int .i64 a,.int .i64 b] 0 (.int .i64 a) rfl;have p1:=Fb w #[Value.int .i64 a,.int .i64 b] 1 (.int .i64 b) rfl;have q0:=Fb w #[Value.int .i64 c,.int .i64 d] 0 (.int .i64 c) rfl;have q1:=Fb w #[Value.int .i64 c,.int .i64 d] 1 (.int .i64 d) rfl;have e1:∀a b:Int,(Op.equalIn 9999 3 (.int .i64 a) (.int .i64 b)).run Tryz.prog w= .ok (a==b) w:=fun a b=>run_equalIn_int w 9998 3 _ _ a b hu3
  show(Op.equalIn (9999+1) 67 (.agg #[.int .i64 a,.int .i64 b]) (.agg #[.int .i64 c,.int .i64 d])).run _ w=_;rw[run_equalIn_array w 9999 _ _ u67 hi3,c3,show List.range 2=[0,1]from rfl]
  simp only[Op.eqItems,Sem.run_bind,Nat.zero_mul,Nat.one_mul,p0,q0,e1,Result.andThen_ok];have hab:∀a b:Int,a≠b->(a==b)=false:=fun a b h=>beq_eq_false_iff_ne.2 h
  by_cases h1:a=c
  ·subst h1;simp only[beq_self_eq_true,Bool.not_true,Bool.false_eq_true,if_false,Sem.run_bind];rw[p1,Result.andThen_ok,q1,Result.andThen_ok,e1,Result.andThen_ok];by_cases h2:b=d
   ·subst h2;simp
   ·simp[hab _ _ h2]
  ·simp[hab _ _ h1]
theorem aCn:aIL Tryz.prog 115:=⟨67,4,aJv,aFn,fun w=>by kernel_rfl⟩
noncomputable def cx(T:Tab):Cx:=⟨Tryz.prog,T,ltL [(44,.V),(46,.S),(23,.R),(67,.P),(3,.I),(2,.I),(1,.I),(4,.B)],[(44,2),(46,4)],fun t=>Nat.beq t 115,fun f=>match Nat.beq f 202 with|true=>true|false=>Nat.beq f 173⟩
theorem bP{T:Tab}(h:T.Ok Tryz.prog):(cx T).Ok:=⟨h,fun t m hm=>by
 have hm:(t,m)∈[(44,2),(46,4)] :=hm;rcases List.mem_cons.1 hm with h|h
 ·cases h;exact aBh
 ·rw[List.mem_singleton]at h;cases h;exact aBg,fun t ht=>by rw[show t=115 from Nat.eq_of_beq_eq_true ht];exact aCn⟩
noncomputable def vO(F:Frm)(d:Nat):Option Nat:=match F.at d with
 | .int _ v=>some v.toNat
 |_=>none
noncomputable def aD9(F:Frm)(d:Nat):Option Int:=match F.at d with
 | .int _ v=>some v
 |_=>none
noncomputable def aLe(F:Frm)(d e:Nat):Option (Int×Int):=match aD9 F d,aD9 F e with
 |some x,some y=>some (x,y)
 |_,_=>none
noncomputable def lp(key d n:Nat)(I:Nat->List Prop)(rk:List Nat)(upd:Nat->Frm)(obs:Nat->List (Nat×SOb))(inner:Nat->List (Nat×Ann):=fun _=>[]):Nat×Ann:=
 (key,.mk Nat (fun F _=>vO F d) rk (fun k=>(k<=n)::I k) (fun k=>(d,.int .i64 (k:Int))::upd k) obs (fun k=>n-k) inner)
noncomputable def cnt(key d n:Nat)(I:Nat->Prop)(inner:Nat->List (Nat×Ann):=fun _=>[]):Nat×Ann:=lp key d n (fun k=>[I k]) [] (fun _=>[]) (fun _=>[]) inner
noncomputable def jb(key d:Nat)(b:Bool):Nat×Ann:=(key+10000,.mk Unit (fun _ _=>some ()) [] (fun _=>[]) (fun _=>[(d,.bool b)]) (fun _=>[]) (fun _=>0) (fun _=>[]))
noncomputable def jP(key:Nat)(I:List Prop):Nat×Ann:=(key+10000,.mk Unit (fun _ _=>some ()) [] (fun _=>I) (fun _=>[]) (fun _=>[]) (fun _=>0) (fun _=>[]))
noncomputable def jU(key:Nat)(u:Frm):Nat×Ann:=(key+10000,.mk Unit (fun _ _=>some ()) [] (fun _=>[]) (fun _=>u) (fun _=>[]) (fun _=>0) (fun _=>[]))
noncomputable def lU(key k:Nat):Nat×Ann:=(key+30000+k,.mk Unit (fun _ _=>none) [] (fun _=>[]) (fun _=>[]) (fun _=>[]) (fun _=>0) (fun _=>[]))
noncomputable def bE(q:Nat->Prop)(k:Nat):Prop:=∀j,j<k->q j
theorem nb{b:Bool}(h:(!b)=false):b=true:=by cases b<;>simp_all
theorem nb'{b:Bool}(h:(!b)=true):b=false:=by cases b<;>simp_all
theorem bW(q:Nat->Prop):bE q 0:=fun j h=>absurd h (Nat.not_lt_zero j)
theorem aO{q:Nat->Prop}{k:Nat}(h:bE q k)(hk:q k):bE q (k+1):=fun j hj=>by
 rcases Nat.lt_or_ge j k with h1|h1
 ·exact h j h1
 ·rw[show j=k by omega];exact hk
theorem aIO:aEs.Ok Tryz.prog:=aBT
end
end Go.Proofs.YtdaeofhdgabhjaaGreat
/-
  DERIVED: THE SHELF's CONTRACTS AT THIS DUMP, IN PLAIN WORDS (tools/lay-plain.mjs out of 'YtdaeofhdgabhjaaGreatLayS2.lean', which tools/lay-shelf.mjs wrote): THE SAME DECLARATIONS UNDER THE SAME NAMES: 'import', 'namespace', 'open', 'def', 'theorem' AND NOTHING ELSE: no command of the shelf's: FOR A HAND-IN. Each laying: the table of numbers ('.._ren') and one theorem, a field a fact of the dump's own or the kernel's comparison; each contract: ONE APPLICATION.
-/
namespace Go.Proofs
open Go.Shelf
def Tryz.sort221_ren:Go.Shelf.Ren:=⟨fun|6=>221|15=>143|14=>229|28=>195|29=>196|20=>230|21=>231|22=>232|23=>233|24=>234|25=>235|26=>236|27=>237|46=>238|47=>211|48=>212|49=>239|50=>240|57=>241|n=>n,fun|22=>112|24=>3|25=>131|3=>3|39=>134|0=>0|53=>170|55=>172|4=>4|46=>163|45=>162|50=>167|5=>5|9=>9|66=>180|70=>184|76=>193|77=>60|n=>n,fun|n=>n⟩
theorem Tryz.sort221:Go.Proofs.SlLaysF.n6 Tryz.prog Tryz.sort221_ren:={
 mixed:=by kernel_rfl
 f6:=⟨Tryz.f221.name,by decide,Tryz.func221.trans (congrArg some (by kernel_rfl))⟩
 f14:=⟨Tryz.f229.name,by decide,Tryz.func229.trans (congrArg some (by kernel_rfl))⟩
 f15:=Tryz.func143.trans (congrArg some (by kernel_rfl))
 f20:=⟨Tryz.f230.name,by decide,Tryz.func230.trans (congrArg some (by kernel_rfl))⟩
 f21:=⟨Tryz.f231.name,by decide,Tryz.func231.trans (congrArg some (by kernel_rfl))⟩
 f22:=⟨Tryz.f232.name,by decide,Tryz.func232.trans (congrArg some (by kernel_rfl))⟩
 f23:=⟨Tryz.f233.name,by decide,Tryz.func233.trans (congrArg some (by kernel_rfl))⟩
 f24:=⟨Tryz.f234.name,by decide,Tryz.func234.trans (congrArg some (by kernel_rfl))⟩
 f25:=⟨Tryz.f235.name,by decide,Tryz.func235.trans (congrArg some (by kernel_rfl))⟩
 f26:=⟨Tryz.f236.name,by decide,Tryz.func236.trans (congrArg some (by kernel_rfl))⟩
 f27:=⟨Tryz.f237.name,by decide,Tryz.func237.trans (congrArg some (by kernel_rfl))⟩
 f28:=Tryz.func195.trans (congrArg some (by kernel_rfl))
 f29:=Tryz.func196.trans (congrArg some (by kernel_rfl))
 f46:=⟨Tryz.f238.name,by decide,Tryz.func238.trans (congrArg some (by kernel_rfl))⟩
 f47:=Tryz.func211.trans (congrArg some (by kernel_rfl))
 f48:=Tryz.func212.trans (congrArg some (by kernel_rfl))
 f49:=⟨Tryz.f239.name,by decide,Tryz.func239.trans (congrArg some (by kernel_rfl))⟩
 f50:=⟨Tryz.f240.name,by decide,Tryz.func240.trans (congrArg some (by kernel_rfl))⟩
 f57:=⟨Tryz.f241.name,by decide,Tryz.func241.trans (congrArg some (by kernel_rfl))⟩
 t0:=Tryz.underlying0
 a0:=Tryz.isAgg0
 z0:=Tryz.sizeOf0
 v0:=Tryz.zeroValue0
 t3:=Tryz.underlying3
 a3:=Tryz.isAgg3
 z3:=Tryz.sizeOf3
 v3:=Tryz.zeroValue3
 t4:=Tryz.underlying4
 a4:=Tryz.isAgg4
 z4:=Tryz.sizeOf4
 v4:=Tryz.zeroValue4
 t5:=Tryz.underlying5
 a5:=Tryz.isAgg5
 z5:=Tryz.sizeOf5
 v5:=Tryz.zeroValue5
 t9:=Tryz.underlying9
 a9:=Tryz.isAgg9
 z9:=Tryz.sizeOf9
 v9:=Tryz.zeroValue9
 t22:=Tryz.underlying112
 a22:=Tryz.isAgg112
 z22:=Tryz.sizeOf112
 v22:=Tryz.zeroValue112
 a24:=Tryz.isAgg3
 z24:=Tryz.sizeOf3
 t25:=Tryz.underlying131
 a25:=Tryz.isAgg131
 z25:=Tryz.sizeOf131
 v25:=Tryz.zeroValue131
 t39:=Tryz.underlying134
 a39:=Tryz.isAgg134
 z39:=Tryz.sizeOf134
 v39:=Tryz.zeroValue134
 t45:=Tryz.underlying162
 a45:=Tryz.isAgg162
 z45:=Tryz.sizeOf162
 v45:=Tryz.zeroValue162
 t46:=Tryz.underlying163
 a46:=Tryz.isAgg163
 z46:=Tryz.sizeOf163
 v46:=Tryz.zeroValue163
 t50:=Tryz.underlying167
 a50:=Tryz.isAgg167
 z50:=Tryz.sizeOf167
 v50:=Tryz.zeroValue167
 t53:=Tryz.underlying170
 a53:=Tryz.isAgg170
 z53:=Tryz.sizeOf170
 v53:=Tryz.zeroValue170
 t55:=Tryz.underlying172
 a55:=Tryz.isAgg172
 z55:=Tryz.sizeOf172
 v55:=Tryz.zeroValue172
 t66:=Tryz.underlying180
 a66:=Tryz.isAgg180
 z66:=Tryz.sizeOf180
 v66:=Tryz.zeroValue180
 t70:=Tryz.underlying184
 a70:=Tryz.isAgg184
 z70:=Tryz.sizeOf184
 v70:=Tryz.zeroValue184
 t76:=Tryz.underlying193
 a76:=Tryz.isAgg193
 z76:=Tryz.sizeOf193
 v76:=Tryz.zeroValue193
 t77:=Tryz.underlying60
 a77:=Tryz.isAgg60
 z77:=Tryz.sizeOf60
 v77:=Tryz.zeroValue60}
def Tryz.del203_ren:Go.Shelf.Ren:=⟨fun|10=>203|6=>224|n=>n,fun|22=>112|23=>3|25=>159|3=>3|4=>4|0=>0|n=>n,fun|n=>n⟩
theorem Tryz.del203:Go.Proofs.SlLaysH.n10 Tryz.prog Tryz.del203_ren:={
 mixed:=by kernel_rfl
 f6:=⟨Tryz.f224.name,by decide,Tryz.func224.trans (congrArg some (by kernel_rfl))⟩
 f10:=⟨Tryz.f203.name,by decide,Tryz.func203.trans (congrArg some (by kernel_rfl))⟩
 t0:=Tryz.underlying0
 a0:=Tryz.isAgg0
 z0:=Tryz.sizeOf0
 v0:=Tryz.zeroValue0
 t3:=Tryz.underlying3
 a3:=Tryz.isAgg3
 z3:=Tryz.sizeOf3
 v3:=Tryz.zeroValue3
 t4:=Tryz.underlying4
 a4:=Tryz.isAgg4
 z4:=Tryz.sizeOf4
 v4:=Tryz.zeroValue4
 t22:=Tryz.underlying112
 a22:=Tryz.isAgg112
 z22:=Tryz.sizeOf112
 v22:=Tryz.zeroValue112
 a23:=Tryz.isAgg3
 z23:=Tryz.sizeOf3
 t25:=Tryz.underlying159
 a25:=Tryz.isAgg159
 z25:=Tryz.sizeOf159
 v25:=Tryz.zeroValue159}
end Go.Proofs
namespace Go.Proofs.YtdaeofhdgabhjaaGreat
open Go.RowKit Go.Sort Go.Shelf Go.Lib
theorem aBb(q x:Int)(B o:Nat)(W:World)(hc:W.cell? ⟨B,o,none⟩=some (.int .i64 q)):FnGives Tryz.prog 204 #[.pointer (some ⟨B,o,none⟩)] #[.int .i64 x] (.bool (x==q)) W:=by
 show Calls Tryz.prog 204 #[.int .i64 x,.pointer (some ⟨B,o,none⟩)] W _
 go_enter Tryz.func204,Tryz.ntmps204
 go_wp2
 all_goals (go_ret;exact⟨by simp_all,0,rfl⟩)
theorem aBa(q x:Int)(B o:Nat)(W:World)(hc:W.cell? ⟨B,o,none⟩=some (.int .i64 q)):FnGives Tryz.prog 205 #[.pointer (some ⟨B,o,none⟩)] #[.int .i64 x] (.bool (x==q)) W:=by
 show Calls Tryz.prog 205 #[.int .i64 x,.pointer (some ⟨B,o,none⟩)] W _
 go_enter Tryz.func205,Tryz.ntmps205
 go_wp2
 all_goals (go_ret;exact⟨by simp_all,0,rfl⟩)
theorem Np{enc:Int->Value}{d:Array Int}{cur:Array Value}{i:Nat}(h:i<d.size)(hc:i<cur.size):(putCells enc 0 d cur)[i]? =some (enc d[i]!):=by
 unfold putCells;simp[h,hc]
theorem Eu{enc:Int->Value}{d:Array Int}{cur:Array Value}:(putCells enc 0 d cur).size=cur.size:=by
 unfold putCells;simp
theorem Qn{enc:Int->Value}{w:World}{b:Nat}{d:Array Int}{cur:Array Value}{t:TypeId}(h:w.heap[b]? =some (.cells cur t (0,0))):(putRow enc w b 0 d).heap[b]? =some (.cells (putCells enc 0 d cur) t (0,0)):=by
 unfold putRow mapBlock;show(w.heap.modify b _)[b]? =_;rw[Array.getElem?_modify,if_pos rfl,h];rfl
theorem Ju{enc:Int->Value}{w:World}{b q:Nat}{d:Array Int}:w.grownBy (putRow enc (Sort.ahead w q) b 0 d) (some b):=by
 refine⟨rfl,rfl,rfl,?_,?_⟩
 ·unfold putRow mapBlock;simp
 ·intro k hk hne;unfold putRow mapBlock;show(w.heap.modify b _)[k]? =_;rw[Array.getElem?_modify,if_neg (fun e=>hne (by rw[e]))]
theorem uC(l:List Int):LT.I.enc l=l.map (PV.int .i64):=by
 show aBP l=_;unfold aBP;exact yI (fun n=>PV.int .i64 n) l
theorem Gk{C:bI}{w:World}{b c:Nat}{l:List Int}{arr:Array Value}{ty:TypeId}(hL:Lent C w b c ty 1 (LT.I.enc l) arr):Holds (Value.int .i64) w b 0 l.toArray/\l.length<=arr.size:=by
 obtain⟨_,h2,_⟩:=hL.row (by decide)
 rw[uC,List.length_map]at h2;refine⟨fun j hj=> ?_,h2⟩
 have hj:j<l.length:=by simpa using hj
 obtain⟨v,h3,_,h4⟩:=hL.cells j (.int .i64 l[j]) (by rw[uC,List.getElem?_map,List.getElem?_eq_getElem hj];rfl)
 unfold aU at h4;subst h4;refine⟨?_,?_⟩
 ·rw[Nat.zero_add];refine(cell_of_row w b j arr ty (0,0) hL.blk).trans (h3.trans ?_);rw[getElem!_pos _ j (by simpa using hj)];simp
 ·simp[World.frozen?,hL.blk]
theorem aCG{C:bI}{w:World}{g:Nat}{q:Int}{vs:List Value}(_hC:∀b o v,C b o v->w.cell? ⟨b,o,none⟩=some v)(h:bO C [.fn (.func g) [] [.pro [.int .i64 q] 0]] vs):∃B o,vs=[.func (.func g) #[] #[.pointer (some ⟨B,o,none⟩)]]/\C B o (.int .i64 q):=by
 unfold bO at h;obtain⟨v,r,rfl,h1,h2⟩:=h;unfold bO at h2;subst h2;unfold aU at h1;obtain⟨a,b,rfl,h3,h4⟩:=h1;unfold bO at h3 h4;subst h3;obtain⟨u,r,rfl,h5,h6⟩:=h4;unfold bO at h6;subst h6;unfold aU at h5;obtain⟨B,o,rfl,h7⟩:=h5;unfold dS at h7;obtain⟨⟨x,h8,_,h9⟩,_⟩:=h7;unfold aU at h9;subst h9;exact⟨B,o,rfl,h8⟩
theorem Tc(g:Nat)(eg:∀args w,(callFunc g args).run Tryz.prog w= .ok (.enter g args) w)(hg:∀(q x:Int) (B o:Nat) (W:World),W.cell? ⟨B,o,none⟩=some (.int .i64 q)->FnGives Tryz.prog g #[.pointer (some ⟨B,o,none⟩)] #[.int .i64 x] (.bool (x==q)) W)
  (l:List Int) (q:Int) (hn:l.length<=1000000):
  aEY Tryz.prog 203 l.length [.fn (.func g) [] [.pro [.int .i64 q] 0]] 3 1 (LT.I.enc l) (LT.I.enc (l.filter fun x=> !(x==q))) (l.filter fun x=> !(x==q)).length:=by
 refine⟨by kernel_rfl,?_,List.length_filter_le ..,?_,?_⟩
 ·rw[uC,uC,List.length_map,List.length_map];exact List.length_filter_le ..
 ·rw[uC,List.all_eq_true];intro x hx;obtain⟨n,_,rfl⟩:=List.mem_map.1 hx;rfl
 intro C w b c arr vs hC hL hnc hA;obtain⟨B,o,rfl,hBo⟩:=aCG (fun b o v h=>(hC b o v h).1) hA
 obtain⟨hcell,hne⟩:=hC _ _ _ hBo;obtain⟨hH,hsz⟩:=Gk hL;have hB:B<w.heap.size:=World.block_lt_of_cell? w ⟨B,o,none⟩ hcell;have hcon:=AnyE.slices_DeleteFunc (P:=Tryz.prog) (ρ:=Tryz.del203_ren) Tryz.del203 (Value.int .i64) (fun _=>rfl) (fun x:Int=>x==q) g #[.pointer (some ⟨B,o,none⟩)] eg 0 (fun w=>by kernel_rfl) b 0 c l.toArray w
  (fun W x hb=>hg q x B o W ((hb.cell (p:=⟨B,o,none⟩) hB).trans hcell))
  (fun n os dk x _=>hg q x B o _ (by
    unfold sortWorld;rw[cell?_grow _ _ _ (by show B<(putRow _ _ _ _ _).heap.size;rw[size_putRow];exact hB),cell?_putRow_other _ _ b 0 _ _ (Or.inl hne)]
    exact hcell)) hH (by simp;omega) (by simp;exact hnc)
 change Calls Tryz.prog 203 _ _ _ at hcon;have e1:l.toArray.toList=l:=rfl;rw[e1]at hcon;simp only[List.size_toArray]at hcon;refine hcon.mono ?_;rintro e w' ⟨rfl,q',rfl⟩;have hfl:=List.length_filter_le (fun x=> !(x==q)) l
 generalize (l.filter fun x=> !(x==q))=m at hfl|-
 refine⟨_,rfl,Qn (w:=Sort.ahead w q') hL.blk,Eu,?_,Ju⟩;intro i x hi;rw[uC,List.getElem?_map]at hi;cases hx:m[i]? with
 |none=>rw[hx]at hi;cases hi
 |some y=>
  rw[hx]at hi;cases hi;have hi':i<m.length:=(List.getElem?_eq_some_iff.1 hx).1;refine⟨.int .i64 y,?_,rfl,by unfold aU;rfl⟩
  rw[Np (by simp;omega) (by omega)]
  rw[getElem!_pos _ i (by simp;omega)]
  simp[List.getElem_append_left hi',(List.getElem?_eq_some_iff.1 hx).2]
theorem aFb(args:Array Value)(w:World):(callFunc 204 args).run Tryz.prog w= .ok (.enter 204 args) w:=dN (by kernel_rfl) args w
theorem aFa(args:Array Value)(w:World):(callFunc 205 args).run Tryz.prog w= .ok (.enter 205 args) w:=dN (by kernel_rfl) args w
def aEP:List SV->Option (List Int×Bool×Int)
 |[.lst .I l,.fnp 204 [] [.pro [.int .i64 q] 0]] =>some (l,true,q)
 |[.lst .I l,.fnp 205 [] [.pro [.int .i64 q] 0]] =>some (l,false,q)
 |_=>none
theorem Xa{l:List Int}{rest:List SV}{x:List Int×Bool×Int}(h:aEP (.lst .I l::rest)=some x):∃q,(rest=[.fnp 204 [] [.pro [.int .i64 q] 0]]/\x=(l,true,q))\/(rest=[.fnp 205 [] [.pro [.int .i64 q] 0]]/\x=(l,false,q)):=by
 unfold aEP at h;split at h
 ·rename_i e;cases e;cases h;exact⟨_,.inl ⟨rfl,rfl⟩⟩
 ·rename_i e;cases e;cases h;exact⟨_,.inr ⟨rfl,rfl⟩⟩
 ·cases h
noncomputable def aHS:Con:=⟨List Int×Bool×Int,aEP,fun x=>[x.1.length<=1000000],.rowB .I 3 fun x=>x.1.filter fun y=> !(y==x.2.2)⟩
theorem aKo:aHS.Ok Tryz.prog 203:=by
 intro l rest x hd hp;obtain⟨q,⟨rfl,rfl⟩|⟨rfl,rfl⟩⟩:=Xa hd
 ·exact⟨[.fn (.func 204) [] [.pro [.int .i64 q] 0]],rfl,Tc 204 aFb aBb l q (hp _ List.mem_cons_self)⟩
 ·exact⟨[.fn (.func 205) [] [.pro [.int .i64 q] 0]],rfl,Tc 205 aFa aBa l q (hp _ List.mem_cons_self)⟩
end Go.Proofs.YtdaeofhdgabhjaaGreat
namespace Go.Proofs.YtdaeofhdgabhjaaGreat
open Go.RowKit
set_option maxRecDepth 100000
noncomputable section
theorem fY{x y A B:Int}(hx: -A<=x/\x<=A)(hy: -B<=y/\y<=B): -(A*B)<=x*y/\x*y<=A*B:=by
 have h1:0<=(A-x)*(B-y):=Int.mul_nonneg (by omega) (by omega)
 have h2:0<=(A+x)*(B+y):=Int.mul_nonneg (by omega) (by omega)
 have h3:0<=(A-x)*(B+y):=Int.mul_nonneg (by omega) (by omega)
 have h4:0<=(A+x)*(B-y):=Int.mul_nonneg (by omega) (by omega)
 constructor<;>grind
def bd(M:Int)(v:Geo.V):Prop:=(-M<=v.x/\v.x<=M)/\ -M<=v.y/\v.y<=M
theorem Fj{m M:Int}{v:Geo.V}(h:Geo.bG v m=true)(hm:m<=M:=by decide):bd M v:=by
 unfold Geo.bG at h;unfold bd;simp only[Bool.and_eq_true,decide_eq_true_eq]at h;omega
theorem bd.mono{m M:Int}{v:Geo.V}(h:bd m v)(hm:m<=M:=by decide):bd M v:=by unfold bd at*;omega
theorem gT{M:Int}{a b:Geo.V}(ha:bd M a)(hb:bd M b):(-(M*M)<=a.x*b.y/\a.x*b.y<=M*M)/\ -(M*M)<=a.y*b.x/\a.y*b.x<=M*M:=⟨fY ha.1 hb.2,fY ha.2 hb.1⟩
theorem fX{m:Int}{a b:Geo.V}(ha:bd m a)(hb:bd m b):bd (m+m) (Geo.sub a b):=by unfold bd Geo.sub at*;dsimp only;omega
theorem cW{x:Int}(h: -9000000000000000000<=x/\x<=9000000000000000000):aK x:=by unfold aK;omega
def aGR:Tab:=aEs
theorem aDx:aGR.Ok Tryz.prog:=aIO
def c80:Con:=con (a1 aI) (fun _=>[]) (fun n=> .int .i64 (Geo.sgn n)
 )
theorem k80:c80.Ok Tryz.prog 80:=bF (bP aDx) (raw:=bR) (fun _=>[]) (fun _=>⟨_,rfl⟩) fun n _=>bQ (q:=(0<n->1=Geo.sgn n)/\
 (¬0<n->(n<0-> -1=Geo.sgn n)/\
  (¬n<0->0=Geo.sgn n))) (by kernel_rfl) (by
  unfold Geo.sgn;grind)
def t80:Tab:=cJ [(80,c80)] aGR
theorem aJD:t80.Ok Tryz.prog:=aR aDx ⟨k80,trivial⟩
def t79:Tab:=t80
theorem aFI:t79.Ok Tryz.prog:=aJD
def c35:Con:=con (ac aV (a1 aI)) (fun(_,m)=>[0<=m,m<=1000000000000]) (fun(a,m)=> .bool (Geo.bG a m)
 )
theorem k35:c35.Ok Tryz.prog 35:=bF (bP aFI) (raw:=bR) (fun(_,_)=>[]) (fun(_,_)=>⟨_,rfl⟩) fun(a,m) hp=>bQ (q:=aK (0-m)/\(0-m<=a.x->(a.x<=m->aK (0-m)/\(0-m<=a.y->decide (a.y<=m)=Geo.bG a m)/\
   (¬0-m<=a.y->false=Geo.bG a m))/\
  (¬a.x<=m->false=Geo.bG a m))/\
 (¬0-m<=a.x->false=Geo.bG a m)) (by kernel_rfl) (by
  change 0<=m/\m<=1000000000000 at hp;unfold Geo.bG;have:= @aK;grind[aK])
def t35:Tab:=cJ [(35,c35)] t79
theorem aJU:t35.Ok Tryz.prog:=aR aFI ⟨k35,trivial⟩
def t98:Tab:=t35
theorem aJx:t98.Ok Tryz.prog:=aJU
def aHl:Tab:=t98
theorem aDX:aHl.Ok Tryz.prog:=aJx
def aIl:Con:=con (ac aV (a1 aV)) (fun(a,b)=>[bd 2000000000 a,bd 2000000000 b]) (fun(a,b)=> .int .i64 (Geo.cross a b)
 )
theorem aKR:aIl.Ok Tryz.prog 144:=bF (bP aDX) (raw:=bR) (fun(_,_)=>[]) (fun(_,_)=>⟨_,rfl⟩) fun(a,b) hp=>bQ (q:=aK (a.x*b.y)/\aK (a.y*b.x)/\aK (a.x*b.y-a.y*b.x)/\a.x*b.y-a.y*b.x=Geo.cross a b) (by kernel_rfl) (by
 change bd 2000000000 a/\bd 2000000000 b at hp;have:=gT hp.1 hp.2;exact⟨cW (by omega),cW (by omega),cW (by omega),rfl⟩)
def aGW:Tab:=cJ [(144,aIl)] aHl
theorem aDA:aGW.Ok Tryz.prog:=aR aDX ⟨aKR,trivial⟩
def aIk:Con:=con (ac aV (a1 aV)) (fun(a,b)=>[bd 1000000000 a,bd 1000000000 b]) (fun(a,b)=>aV.enc (Geo.sub a b)
 )
theorem aKQ:aIk.Ok Tryz.prog 145:=bF (bP aDA) (raw:=bR) (fun(_,_)=>[]) (fun(_,_)=>⟨_,rfl⟩) fun(a,b) hp=>bQ (q:=aK (a.x-b.x)/\aK (a.y-b.y)/\a.x-b.x=(Geo.sub a b).x/\a.y-b.y=(Geo.sub a b).y) (by kernel_rfl) (by
 change bd 1000000000 a/\bd 1000000000 b at hp;unfold bd at hp;exact⟨cW (by omega),cW (by omega),rfl,rfl⟩)
def aGV:Tab:=cJ [(145,aIk)] aGW
theorem aDz:aGV.Ok Tryz.prog:=aR aDA ⟨aKQ,trivial⟩
theorem Ey{s:Geo.S}(h:(!Geo.bL s)=false){M:Int}(hM:4000<=M:=by decide):bd M s.a/\bd M s.b:=by
 unfold Geo.bL at h;simp only[Bool.not_eq_false',Bool.and_eq_true]at h;exact⟨Fj h.1 hM,Fj h.2 hM⟩
theorem aFp{s:Geo.S}{p:Geo.V}{M:Int}(h1:bd M s.a/\bd M s.b)(h:Geo.lO s p=true):bd M p:=by
 unfold Geo.lO at h;unfold bd at*;simp only[Bool.and_eq_true,decide_eq_true_eq]at h;omega
def c70:Con:=con (ac aV (ac aV (a1 aV))) (fun(a,b,c)=>[bd 1000000000 a,bd 1000000000 b,bd 1000000000 c]) (fun(a,b,c)=> .int .i64 (Geo.cP a b c)
 )
theorem k70:c70.Ok Tryz.prog 70:=bF (bP aDz) (raw:=bR) (fun(_,_,_)=>[]) (fun(_,_,_)=>⟨_,rfl⟩) fun(a,b,c) hp=>bQ (q:=bd 1000000000 b/\bd 1000000000 a/\bd 1000000000 c/\bd 1000000000 a/\bd 2000000000 (Geo.sub b a)/\bd 2000000000 (Geo.sub c a)/\Geo.sgn (Geo.cross (Geo.sub b a) (Geo.sub c a))=Geo.cP a b c) (by kernel_rfl) (by
 change bd 1000000000 a/\bd 1000000000 b/\bd 1000000000 c at hp;exact⟨hp.2.1,hp.1,hp.2.2,hp.1,fX hp.2.1 hp.1,fX hp.2.2 hp.1,rfl⟩)
def t70:Tab:=cJ [(70,c70)] aGV
theorem aJJ:t70.Ok Tryz.prog:=aR aDz ⟨k70,trivial⟩
def aHp:Tab:=t70
theorem aI9:aHp.Ok Tryz.prog:=aJJ
def aGF:Tab:=aHp
theorem aIW:aGF.Ok Tryz.prog:=aI9
def aGE:Tab:=aGF
theorem aIV:aGE.Ok Tryz.prog:=aIW
def t99:Tab:=aGE
theorem aJw:t99.Ok Tryz.prog:=aIV
def t32:Tab:=t99
theorem aJW:t32.Ok Tryz.prog:=aJw
end
end Go.Proofs.YtdaeofhdgabhjaaGreat
namespace Go.Proofs.YtdaeofhdgabhjaaGreat
open Go.RowKit
noncomputable section
def eg(r:Geo.aH)(k:Nat):List Geo.S:=(List.range k).map (Geo.dB r)
def ar(r:Geo.aH)(k:Nat):Int:=((List.range k).map fun i=>Geo.cross (Geo.nth r i) (Geo.nxt r i)).sum
theorem Jg(r:Geo.aH)(k:Nat):ar r (k+1)=ar r k+Geo.cross (Geo.nth r k) (Geo.nth r ((k+1) % r.length)):=by
 unfold ar;rw[List.range_succ,List.map_append,List.sum_append];simp[Geo.nxt]
theorem mA{r:Geo.aH}(h:Geo.near r=true){i:Nat}(hi:i<r.length){M:Int}(hM:2000<=M:=by decide):bd M (Geo.nth r i):=Fj (Geo.rJ h i hi) hM
theorem Kv{r:Geo.aH}(h:Geo.near r=true):∀k:Nat,k<=r.length-> -8000000*(k:Int)<=ar r k/\ar r k<=8000000*k
 |0,_=>by simp[ar]
 |k+1,hk=>by
  have ih:=Kv h k (by omega)
  have:=gT (mA h (i:=k) (by omega) (M:=2000)) (mA h (i:=(k+1) % r.length) (Nat.mod_lt _ (by omega)) (M:=2000))
  rw[Jg];unfold Geo.cross;omega
def aHn:Tab:=t32
theorem aI7:aHn.Ok Tryz.prog:=aJW
def aGH:Tab:=aHn
theorem aIY:aGH.Ok Tryz.prog:=aI7
def aHf:Tab:=aGH
theorem aI5:aHf.Ok Tryz.prog:=aIY
def aGe:Tab:=aHf
theorem aIR:aGe.Ok Tryz.prog:=aI5
def aGf:Tab:=aGe
theorem aIS:aGf.Ok Tryz.prog:=aIR
def PtB(p:Geo.Pt):Prop:=(1<=p.den/\p.den<=134217728)/\(-600000000000<=p.x/\p.x<=600000000000)/\(-600000000000<=p.y/\p.y<=600000000000)
theorem PtB.of{p:Geo.Pt}(h:Geo.eH p=true):PtB p:=by
 unfold Geo.eH Geo.eX Geo.bG at h;simp only[Bool.and_eq_true,decide_eq_true_eq]at h;unfold PtB;omega
theorem PtB.off{p:Geo.Pt}(hp:PtB p){v:Geo.V}(hv:bd 10000 v):(-1400000000000<=v.x*p.den/\v.x*p.den<=1400000000000)/\(-1400000000000<=v.y*p.den/\v.y*p.den<=1400000000000):=by
 have h1:=fY (x:=v.x) (y:=p.den) (A:=10000) (B:=134217728) (by unfold bd at hv;omega) (by unfold PtB at hp;omega)
 have h2:=fY (x:=v.y) (y:=p.den) (A:=10000) (B:=134217728) (by unfold bd at hv;omega) (by unfold PtB at hp;omega)
 omega
def aGG:Tab:=aGf
theorem aIX:aGG.Ok Tryz.prog:=aIS
def aGC:Tab:=aGG
theorem aIT:aGC.Ok Tryz.prog:=aIX
def aGD:Tab:=aGC
theorem aIU:aGD.Ok Tryz.prog:=aIT
def aJd(r:Geo.aH)(i k:Nat):Bool:=if k=i+1\/(i=0/\k=r.length-1)then Geo.gQ (Geo.dB r i) (Geo.dB r k)==1 else Geo.gQ (Geo.dB r i) (Geo.dB r k)==0
theorem Pz(r:Geo.aH):Geo.rB r=true↔3<=r.length/\r.length<=40/\Geo.near r=true/\(∀i,i<r.length->Geo.cP (Geo.nth r i) (Geo.nth r ((i+1) % r.length)) (Geo.nth r ((i+2) % r.length))≠0)/\(∀i k,i<k->k<r.length->aJd r i k=true)/\0<Geo.eL r:=by
 unfold Geo.rB;simp only[Bool.and_eq_true,decide_eq_true_eq,List.all_eq_true,List.mem_range,bne_iff_ne,Bool.or_eq_true];constructor
 ·rintro⟨⟨⟨⟨⟨h1,h2⟩,h3⟩,h4⟩,h5⟩,h6⟩;refine⟨h1,h2,h3,h4,fun i k hik hk=> ?_,h6⟩
  rcases h5 i (by omega) k hk with h|h
  ·omega
  ·exact h
 ·rintro⟨h1,h2,h3,h4,h5,h6⟩;refine⟨⟨⟨⟨⟨h1,h2⟩,h3⟩,h4⟩,fun i hi k hk=> ?_⟩,h6⟩
  by_cases h:k<=i
  ·exact .inl h
  ·exact .inr (h5 i k (by omega) hk)
theorem mG(r:Geo.aH)(h:2<=r.length):(Geo.aD r).length=r.length:=by unfold Geo.aD;rw[if_neg (by omega)];simp
theorem uX{r:Geo.aH}{i:Nat}(h:2<=r.length)(hi:i<r.length):bK (Geo.aD r) i=Geo.dB r i:=by
 rw[lW (by rw[mG r h];exact hi)]
 simp only[Geo.aD,if_neg (show¬r.length<2 by omega),List.getElem_map,List.getElem_range]
theorem aCy{r:Geo.aH}(h:Geo.rB r=true){j:Nat}(hj:j<(Geo.aD r).length):bd 2000 (bK (Geo.aD r) j).a/\bd 2000 (bK (Geo.aD r) j).b:=by
 obtain⟨h1,h2,h3,_⟩:=(Pz r).1 h;rw[mG r (by omega)]at hj
 rw[uX (by omega) hj]
 exact⟨mA h3 hj,mA h3 (Nat.mod_lt _ (by omega))⟩
abbrev nE(r:Geo.aH)(i:Nat):Geo.S:=bK (Geo.aD r) i
def t91:Tab:=aGD
theorem aJB:t91.Ok Tryz.prog:=aIU
def aHm:Tab:=t91
theorem aI6:aHm.Ok Tryz.prog:=aJB
end
end Go.Proofs.YtdaeofhdgabhjaaGreat
namespace Go.Proofs.YtdaeofhdgabhjaaGreat
open Go.RowKit
set_option maxRecDepth 100000
noncomputable section
open Geo (nth aB)
def t36:Tab:=aHm
theorem aJT:t36.Ok Tryz.prog:=aI6
def t97:Tab:=t36
theorem aJy:t97.Ok Tryz.prog:=aJT
def t96:Tab:=t97
theorem aJz:t96.Ok Tryz.prog:=aJy
theorem vA(r:Geo.aH):∀k,Geo.cN r k<=k
 |0=>Nat.le_refl _
 |k+1=>by unfold Geo.cN;have:=vA r k;split<;>omega
theorem uZ{r:Geo.aH}{k:Nat}(h:0<k):Geo.cN r k<k:=Geo.uZ r k h
def aGU:Tab:=t96
theorem aI0:aGU.Ok Tryz.prog:=aJz
def t71:Tab:=aGU
theorem aFL:t71.Ok Tryz.prog:=aI0
theorem aB5{a b:Geo.aH}{k:Nat}(h:¬nth a k=nth b k):false=(a==b):=by
 symm;rw[beq_eq_false_iff_ne];intro e;subst e;exact h rfl
theorem aAJ{a b:Geo.aH}(hl:(a.length:Int)=b.length){k:Nat}(hk:¬(k:Int)<a.length)(h:bE (fun j=>nth a j=nth b j) k):true=(a==b):=by
 symm;rw[beq_iff_eq];refine List.ext_getElem (by omega) fun j h1 h2=> ?_
 rw[<-nth_eq h1,<-nth_eq h2];exact h j (by omega)
def c23:Con:=con (ac (aL .V) (a1 (aL .V))) (fun(a,_)=>[a.length<=1000000]) (fun(a,b)=> .bool (a==b))
theorem k23:c23.Ok Tryz.prog 23:=bF (bP aFL) (raw:=bR) (fun(a,b)=>[cnt 4 5 a.length (bE fun j=>nth a j=nth b j)]
  ) (fun(_,_)=>⟨_,rfl⟩) fun(a,b) hp=>bQ (q:=(¬(a.length:Int)=b.length->false=(a==b))/\
 (¬(¬(a.length:Int)=b.length)->(0=(0:Int)/\(0:Nat)<=a.length/\bE (fun j=>nth a j=nth b j) 0)/\
  (∀x:Nat,x<=a.length/\bE (fun j=>nth a j=nth b j) x->((x:Int)<a.length->ix (x:Int) a.length/\ix (x:Int) b.length/\(¬(nth a x)=(nth b x)->false=(a==b))/\
    (¬(¬(nth a x)=(nth b x))->aK ((x:Int)+1)/\(x:Int)+1=((x+1:Nat):Int)/\x+1<=a.length/\bE (fun j=>nth a j=nth b j) (x+1)/\a.length-(x+1)<a.length-x))/\
   (¬(x:Int)<a.length->true=(a==b))))) (by kernel_rfl) (by
  change a.length<=1000000 at hp
  repeat' first|with_reducible apply And.intro|with_reducible intro
  all_goals repeat with_reducible cases‹_/\_›
  all_goals first|assumption|rfl|exact trivial|exact nb ‹_› |exact nb' ‹_› |omega|exact dU (by omega)|(unfold ix;omega)|(unfold aK;omega)|exact bW _|exact aO ‹_› ‹_› |(refine aO ‹_› ?_;simp_all;done)|exact aB5 ‹¬nth a _=_› |exact aAJ (by omega) ‹_› ‹_› |(symm;rw[beq_eq_false_iff_ne];intro e;subst e;omega)|grind)
def t23:Tab:=cJ [(23,c23)] t71
theorem aF0:t23.Ok Tryz.prog:=aR aFL ⟨k23,trivial⟩
def c76:Con:=con (ac (aL .V) (a1 (aL .V))) (fun(a,_)=>[a.length<=1000000]) (fun(a,b)=> .bool (a==b)
 )
theorem k76:c76.Ok Tryz.prog 76:=bF (bP aF0) (raw:=bR) (fun(_,_)=>[]) (fun(_,_)=>⟨_,rfl⟩) fun(a,b) hp=>bQ (q:=a.length<=1000000/\(a==b)=(a==b)) (by kernel_rfl) (by
 change a.length<=1000000 at hp;exact⟨hp,rfl⟩)
def t76:Tab:=cJ [(76,c76)] t23
theorem aJE:t76.Ok Tryz.prog:=aR aF0 ⟨k76,trivial⟩
def Fit(s:Geo.Shape):Prop:=s.outer.length<=1000/\s.holes.length<=900/\∀r∈s.holes,r.length<=1000
theorem Fit.rings{s:Geo.Shape}(hf:Fit s):∀r∈Geo.aA s,r.length<=1000:=by
 intro r hr;unfold Geo.aA at hr;rcases List.mem_cons.1 hr with rfl|hr
 ·exact hf.1
 ·exact hf.2.2 r hr
theorem Fit.ring{s:Geo.Shape}(hf:Fit s){k:Nat}(hk:k<(Geo.aA s).length):(aB (Geo.aA s) k).length<=1000:=hf.rings _ (Geo.eI hk)
theorem Fit.hole{s:Geo.Shape}(hf:Fit s){k:Nat}(hk:k<s.holes.length):(aB s.holes k).length<=1000:=hf.2.2 _ (Geo.eI hk)
theorem Mt(r:Geo.aH):(Geo.aD r).length<=r.length:=by unfold Geo.aD;split<;>simp
def aHo:Tab:=t76
theorem aI8:aHo.Ok Tryz.prog:=aJE
def t33:Tab:=aHo
theorem aJV:t33.Ok Tryz.prog:=aI8
end
end Go.Proofs.YtdaeofhdgabhjaaGreat
namespace Go.Proofs.YtdaeofhdgabhjaaGreat
open Go.RowKit
noncomputable section
def aG8:Tab:=t33
theorem aI3:aG8.Ok Tryz.prog:=aJV
def aG7:Tab:=aG8
theorem aI2:aG7.Ok Tryz.prog:=aI3
def t58:Tab:=aG7
theorem aJP:t58.Ok Tryz.prog:=aI2
def Bb(s:Geo.Shape)(i:Nat):List Geo.aH:=Geo.yT ((s.holes.take i).map Geo.fR)
theorem zC(s:Geo.Shape)(i:Nat):(Bb s i).Perm ((s.holes.take i).map Geo.fR):=Geo.iV _
theorem El(s:Geo.Shape)(i:Nat):(Bb s i).length<=s.holes.length:=by
 rw[(zC s i).length_eq,List.length_map,List.length_take];exact Nat.min_le_right _ _
theorem Qd{s:Geo.Shape}{i:Nat}{r:Geo.aH}(h:r∈Bb s i):∃q∈s.holes,r=Geo.fR q:=by
 have:=(zC s i).mem_iff.1 h;obtain⟨q,hq,rfl⟩:=List.mem_map.1 this;exact⟨q,List.mem_of_mem_take hq,rfl⟩
def hQ(s:Geo.Shape)(p:Geo.Pt)(j:Nat):Prop:=Geo.oF (Geo.aB s.holes j) p≠2/\Geo.oF (Geo.aB s.holes j) p≠1
def t73:Tab:=t58
theorem aJH:t73.Ok Tryz.prog:=aJP
def aGT:Tab:=t73
theorem aIZ:aGT.Ok Tryz.prog:=aJH
def t74:Tab:=aGT
theorem aJG:t74.Ok Tryz.prog:=aIZ
theorem Do:∀{a b:Geo.aH} {k:Nat},(∀j,j<k->Geo.dJ (Geo.nth a j) (Geo.nth b j)=0)->Geo.dJ (Geo.nth a k) (Geo.nth b k)≠0->k<a.length->k<b.length->Geo.bV a b=Geo.dJ (Geo.nth a k) (Geo.nth b k)
 |[],_,k,_,_,h,_=>by simp at h
 |_::_,[],k,_,_,_,h=>by simp at h
 |x::a,y::b,0,_,h,_,_=>by
  have e:Geo.dJ x y≠0:=h;unfold Geo.bV;rw[if_pos e];rfl
 |x::a,y::b,k+1,h3,h4,h1,h2=>by
  have e:Geo.dJ x y=0:=h3 0 (by omega)
  unfold Geo.bV;rw[if_neg (fun hne=>hne e)]
  exact Do (a:=a) (b:=b) (k:=k) (fun j hj=>h3 (j+1) (by omega)) h4 (by simpa using h1) (by simpa using h2)
theorem rW:∀{a b:Geo.aH} {k:Nat},k<=a.length->k<=b.length->(k=a.length\/k=b.length)->(∀j,j<k->Geo.dJ (Geo.nth a j) (Geo.nth b j)=0)->Geo.bV a b=Geo.sgn ((a.length:Int)-(b.length:Int))
 |[],[],_,_,_,_,_=>rfl
 |[],y::b,k,_,_,_,_=>by unfold Geo.bV Geo.sgn;simp only[List.length_cons,List.length_nil];rw[if_neg (by omega),if_pos (by omega)]
 |x::a,[],k,_,_,_,_=>by unfold Geo.bV Geo.sgn;simp only[List.length_cons,List.length_nil];rw[if_pos (by omega)]
 |x::a,y::b,0,_,_,h,_=>by simp at h
 |x::a,y::b,k+1,h1,h2,h3,h4=>by
  have e:Geo.dJ x y=0:=h4 0 (by omega)
  unfold Geo.bV;rw[if_neg (fun hne=>hne e)]
  rw[rW (a:=a) (b:=b) (k:=k) (by simpa using h1) (by simpa using h2) (by simpa using h3) (fun j hj=>h4 (j+1) (by omega))]
  congr 1;simp only[List.length_cons];omega
def t27:Tab:=t74
theorem aJY:t27.Ok Tryz.prog:=aJG
theorem Xg(s:Geo.Shape):Geo.gJ s=⟨Geo.fR s.outer,Bb s s.holes.length⟩:=by unfold Geo.gJ Bb;rw[List.take_length]
theorem Gs{s:Geo.Shape}(hf:Fit s):Fit (Geo.gJ s):=by
 rw[Xg];refine⟨by dsimp only;rw[Geo.gC];exact hf.1,?_,fun r hr=> ?_⟩
 ·have:=El s s.holes.length;have:=hf.2.1;dsimp only;omega
 ·obtain⟨q,hq,rfl⟩:=Qd hr;rw[Geo.gC];exact hf.2.2 q hq
def aG6:Tab:=t27
theorem aI1:aG6.Ok Tryz.prog:=aJY
def t59:Tab:=aG6
theorem aJO:t59.Ok Tryz.prog:=aI1
def vOf(s:Geo.Shape):List Geo.V:=if Geo.fK s=true then Geo.eB (Geo.gJ s)else []
def eOf(s:Geo.Shape):Int:=if Geo.fK s=true then 0 else 11
def t18:Tab:=t59
theorem aJ4:t18.Ok Tryz.prog:=aJO
end
end Go.Proofs.YtdaeofhdgabhjaaGreat
namespace Go.Proofs.YtdaeofhdgabhjaaGreat
open Go.RowKit
noncomputable section
def t31:Tab:=t18
theorem aJX:t31.Ok Tryz.prog:=aJ4
def t69:Tab:=t31
theorem aJK:t69.Ok Tryz.prog:=aJX
def t75:Tab:=t69
theorem aJF:t75.Ok Tryz.prog:=aJK
def t72:Tab:=t75
theorem aJI:t72.Ok Tryz.prog:=aJF
theorem Kx{s:Geo.Shape}(h:Geo.VS s):(Geo.eB (Geo.gJ s)).length<=80:=by
 have h1:=(Geo.jK s).length_eq;have h2:=h.corners;unfold Geo.eW at h2;rw[h1];unfold Geo.eB;rw[List.length_flatten];exact h2
theorem aBQ{s:Geo.Shape}(h:Geo.VS s):∀x∈Geo.eB (Geo.gJ s),Geo.bG x 2000=true:=by
 intro x hx;have hx:=(Geo.jK s).subset hx;unfold Geo.eB at hx;obtain⟨r,hr,hxr⟩:=List.mem_flatten.1 hx;have hn:=(h.ring hr).near;unfold Geo.near at hn;rw[List.all_eq_true]at hn;exact hn x hxr
theorem vsR{s:Geo.Shape}(hv:Geo.fK s=true):Geo.VS s:=(Geo.gX s).1 (by rw[Geo.jE];exact hv)
def dOf(s:Geo.Shape):List Geo.S:=if Geo.fK s=true then Geo.Za s (vOf s)else []
theorem xF(s:Geo.Shape):(vOf s).length<=80:=by
 unfold vOf;split
 ·exact Kx (vsR ‹_›)
 ·simp
theorem Hm{s:Geo.Shape}{i:Nat}(h:i<(vOf s).length){M:Int}(hM:2000<=M:=by decide):bd M (Geo.nth (vOf s) i):=by
 by_cases hv:Geo.fK s=true
 ·have e:vOf s=Geo.eB (Geo.gJ s):=if_pos hv;rw[e]at h|-;exact Fj (aBQ (vsR hv) _ (Geo.dW h)) hM
 ·have e:vOf s=[] :=if_neg hv;rw[e]at h;simp at h
theorem aFv{s:Geo.Shape}(h:¬eOf s=0):dOf s=[]/\vOf s=[] :=by
 unfold eOf at h;split at h
 ·exact(h rfl).elim
 ·exact⟨if_neg ‹_›,if_neg ‹_›⟩
theorem Uf{s:Geo.Shape}(h:¬¬eOf s=0):Geo.fK s=true:=by
 unfold eOf at h;split at h
 ·assumption
 ·exact(h (by decide)).elim
def t20:Tab:=t72
theorem aJ2:t20.Ok Tryz.prog:=aJI
end
end Go.Proofs.YtdaeofhdgabhjaaGreat
namespace Go.Proofs.YtdaeofhdgabhjaaGreat
open Go.RowKit
section
variable (s:Geo.Shape) (v:List Geo.V) (T:Geo.Tab)
end
section
variable {s:Geo.Shape} {v:List Geo.V} {T:Geo.Tab} {i j k:Nat}
end
theorem If{s:Geo.Shape}(h:Geo.fK s=true):vOf s=Geo.eB (Geo.gJ s):=if_pos h
theorem Uh{s:Geo.Shape}(h:Geo.fK s=true):dOf s=Geo.Za s (vOf s):=if_pos h
noncomputable def t22:Tab:=t20
theorem aJ1:t22.Ok Tryz.prog:=aJ2
end Go.Proofs.YtdaeofhdgabhjaaGreat
namespace Go.Proofs.YtdaeofhdgabhjaaGreat
open Go.RowKit
noncomputable section
open Geo (aB)
theorem aAW{a b:List Geo.aH}(hl:a.length=b.length)(h:∀j,j<a.length->aB a j=aB b j):a=b:=List.ext_getElem hl fun i h1 h2=>by rw[<-lZ h1,<-lZ h2];exact h i h1
def t24:Tab:=t22
theorem aFZ:t24.Ok Tryz.prog:=aJ1
def c25:Con:=con (ac (aL .R) (a1 (aL .R))) (fun(a,_)=>[a.length<=1000000,(∀r∈a,r.length<=100000)]) (fun(a,b)=> .bool (a==b))
set_option maxRecDepth 100000 in
theorem k25:c25.Ok Tryz.prog 25:=bF (bP aFZ) (raw:=bR) (fun(a,b)=>[cnt 4 5 a.length (bE fun j=>aB a j=aB b j)]
  ) (fun(_,_)=>⟨_,rfl⟩) fun(a,b) hp=>bQ (q:=(¬(a.length:Int)=b.length->false=(a==b))/\
 (¬(¬(a.length:Int)=b.length)->(0=(0:Int)/\(0:Nat)<=a.length/\bE (fun j=>aB a j=aB b j) 0)/\
  (∀x:Nat,x<=a.length/\bE (fun j=>aB a j=aB b j) x->((x:Int)<a.length->ix (x:Int) a.length/\ix (x:Int) b.length/\(aB a x).length<=1000000/\((!aB a x==aB b x)=true->false=(a==b))/\
    ((!aB a x==aB b x)=false->aK ((x:Int)+1)/\(x:Int)+1=((x+1:Nat):Int)/\x+1<=a.length/\bE (fun j=>aB a j=aB b j) (x+1)/\a.length-(x+1)<a.length-x))/\
   (¬(x:Int)<a.length->true=(a==b))))) (by kernel_rfl) (by
  change a.length<=1000000/\((∀r∈a,r.length<=100000))at hp;have h0:∀x,x<a.length->(aB a x).length<=1000000:=fun x h=>Nat.le_trans (hp.2 _ (Geo.eI h)) (by decide)
  have h1:¬(a.length:Int)=b.length->false=(a==b):=fun h=>by symm;rw[beq_eq_false_iff_ne];intro e;subst e;omega
  have h2:∀{x},(!aB a x==aB b x)=true->false=(a==b):=fun h=>by symm;rw[beq_eq_false_iff_ne];intro e;subst e;simp at h
  have h3:∀x:Nat,¬(x:Int)<a.length->bE (fun j=>aB a j=aB b j) x->¬¬(a.length:Int)=b.length->true=(a==b):=fun x h1 h2 h3=>by symm;rw[beq_iff_eq];exact aAW (by omega) fun j hj=>h2 j (by omega)
  have h4:∀{x},(!aB a x==aB b x)=false->aB a x=aB b x:=fun h=>by simpa using h
  repeat' first|with_reducible apply And.intro|with_reducible intro
  all_goals repeat with_reducible cases‹_/\_›
  all_goals first|assumption|rfl|exact trivial|exact nb ‹_› |exact nb' ‹_› |omega|exact dU (by omega)|(unfold ix;omega)|(unfold aK;omega)|exact bW _|exact aO ‹_› ‹_› |(refine aO ‹_› ?_;simp_all;done)|exact h0 _ (by omega)|exact h1 ‹_› |exact h2 ‹_› |exact h3 _ ‹_› ‹_› ‹_› |exact aO ‹_› (h4 ‹_›)|grind)
def t25:Tab:=cJ [(25,c25)] t24
theorem aJ0:t25.Ok Tryz.prog:=aR aFZ ⟨k25,trivial⟩
def t16:Tab:=t25
theorem aGy:t16.Ok Tryz.prog:=aJ0
end
end Go.Proofs.YtdaeofhdgabhjaaGreat
namespace Go.Proofs.YtdaeofhdgabhjaaGreat
open Go.RowKit
set_option maxRecDepth 100000
noncomputable section
open Geo (nth)
def aHY:Con:=con (a1 aI) (fun _=>[]) (fun _=> .bool false
 )
theorem aKu:aHY.Ok Tryz.prog 184:=bF (bP aGy) (raw:=bR) (fun _=>[]) (fun _=>⟨_,rfl⟩) fun x _=>bQ (q:=decide (¬x=x)=false) (by kernel_rfl) (by
 repeat' first|with_reducible apply And.intro|with_reducible intro
 all_goals repeat with_reducible cases‹_/\_›
 all_goals first|assumption|rfl|exact trivial|exact nb ‹_› |exact nb' ‹_› |omega|exact dU (by omega)|(unfold ix;omega)|(unfold aK;omega)|exact bW _|exact aO ‹_› ‹_› |(refine aO ‹_› ?_;simp_all;done)|simp|grind)
def aGl:Tab:=cJ [(184,aHY)] t16
theorem aC8:aGl.Ok Tryz.prog:=aR aGy ⟨aKu,trivial⟩
def aIq:Con:=con (ac aI (a1 aI)) (fun(_,_)=>[]) (fun(x,y)=> .int .i64 (Geo.eO x y)
 )
theorem aKW:aIq.Ok Tryz.prog 137:=bF (bP aC8) (raw:=bR) (fun(_,_)=>[]) (fun(_,_)=>⟨_,rfl⟩) fun(x,y) _=>bQ (q:=(false=true->(false=true->0=Geo.eO x y)/\
  (false=false-> -1=Geo.eO x y))/\
 (false=false->(false=true->1=Geo.eO x y)/\
  (false=false->(x<y-> -1=Geo.eO x y)/\
   (¬x<y->(y<x->1=Geo.eO x y)/\
    (¬y<x->0=Geo.eO x y))))) (by kernel_rfl) (by
  unfold Geo.eO;grind)
def aG1:Tab:=cJ [(137,aIq)] aGl
theorem aDG:aG1.Ok Tryz.prog:=aR aC8 ⟨aKW,trivial⟩
def orU(l:List Int)(k:Nat):Prop:=∀j,j<k->gH l j=0
def orL:List Int->Int
 |[] =>0
 |x::l=>if x=0 then orL l else x
theorem Zt:∀{l:List Int} {k:Nat},¬gH l k=0->orU l k->k<l.length->gH l k=orL l
 |[],k,_,_,h=>by simp at h
 |x::l,0,h,_,_=>by
  have h:¬x=0:=h;show x=orL (x::l);unfold orL;rw[if_neg h]
 |x::l,k+1,h,h2,h3=>by
  have h0:x=0:=h2 0 (by omega)
  show gH l k=orL (x::l);unfold orL;rw[if_pos h0];exact Zt h (fun j hj=>h2 (j+1) (by omega)) (by simpa using h3)
theorem Tp:∀{l:List Int},orU l l.length->0=orL l
 |[],_=>rfl
 |x::l,h=>by
  have h0:x=0:=h 0 (by simp)
  unfold orL;rw[if_pos h0];exact Tp fun j hj=>h (j+1) (by simpa using hj)
def aIj:Con:=con (a1 (aL .I)) (fun l=>[l.length<=1000]) (fun l=> .int .i64 (orL l))
theorem aKP:aIj.Ok Tryz.prog 148:=bF (bP aDG) (raw:=bR) (fun l=>[cnt 3 8 l.length (orU l)]
  ) (fun _=>⟨_,rfl⟩) fun l hp=>bQ (q:=(0=(0:Int)/\(0:Nat)<=l.length/\orU l 0)/\
 (∀x:Nat,x<=l.length/\orU l x->((x:Int)<l.length->ix (x:Int) l.length/\(¬gH l x=0->gH l x=orL l)/\
   (¬(¬gH l x=0)->aK ((x:Int)+1)/\(x:Int)+1=((x+1:Nat):Int)/\x+1<=l.length/\orU l (x+1)/\l.length-(x+1)<l.length-x))/\
  (¬(x:Int)<l.length->0=orL l))) (by kernel_rfl) (by
  change l.length<=1000 at hp
  repeat' first|with_reducible apply And.intro|with_reducible intro
  all_goals repeat with_reducible cases‹_/\_›
  all_goals first|assumption|rfl|exact trivial|exact nb ‹_› |exact nb' ‹_› |omega|exact dU (by omega)|(unfold ix;omega)|(unfold aK;omega)|exact bW _|exact aO ‹_› ‹_› |(refine aO ‹_› ?_;simp_all;done)|exact Zt ‹_› ‹_› (by omega)|(obtain rfl:_=l.length:=Nat.le_antisymm ‹_› (by omega);exact Tp ‹_›)|(refine aO ‹_› ?_;exact Decidable.of_not_not ‹¬¬_›)|grind)
def aGS:Tab:=cJ [(148,aIj)] aG1
theorem aDy:aGS.Ok Tryz.prog:=aR aDG ⟨aKP,trivial⟩
def c78:Con:=con (ac aV (a1 aV)) (fun(_,_)=>[]) (fun(a,b)=> .int .i64 (Geo.dJ a b)
 )
theorem k78:c78.Ok Tryz.prog 78:=bF (bP aDy) (raw:=bR) (fun(_,_)=>[]) (fun(_,_)=>⟨_,rfl⟩) fun(a,b) _=>bQ (q:=[Geo.eO a.y b.y,Geo.eO a.x b.x].length<=1000/\orL [Geo.eO a.y b.y,Geo.eO a.x b.x] =Geo.dJ a b) (by kernel_rfl) (by
 refine⟨by simp,?_⟩
 unfold Geo.dJ;simp only[orL];grind)
def t78:Tab:=cJ [(78,c78)] aGS
theorem aFJ:t78.Ok Tryz.prog:=aR aDy ⟨k78,trivial⟩
def aHJ:Con:=con (ac aV (a1 aV)) (fun(_,_)=>[]) (fun(a,b)=> .bool (Geo.cU a b)
 )
theorem aKf:aHJ.Ok Tryz.prog 220:=bF (bP aFJ) (raw:=bR) (fun(_,_)=>[]) (fun(_,_)=>⟨_,rfl⟩) fun(a,b) _=>bQ (q:=decide (Geo.dJ a b<0)=Geo.cU a b) (by kernel_rfl) (by
 unfold Geo.cU Geo.dJ Geo.eO;grind)
def aF5:Tab:=cJ [(220,aHJ)] t78
theorem aCU:aF5.Ok Tryz.prog:=aR aFJ ⟨aKf,trivial⟩
def aIC:Con:=con (ac aV (a1 aV)) (fun(a,b)=>[bd 2000000000 a,bd 2000000000 b]) (fun(a,b)=> .int .i64 (Geo.cross a b)
 )
theorem aK8:aIC.Ok Tryz.prog 111:=bF (bP aCU) (raw:=bR) (fun(_,_)=>[]) (fun(_,_)=>⟨_,rfl⟩) fun(a,b) hp=>bQ (q:=aK (a.x*b.y)/\aK (a.y*b.x)/\aK (a.x*b.y-a.y*b.x)/\a.x*b.y-a.y*b.x=Geo.cross a b) (by kernel_rfl) (by
 change bd 2000000000 a/\bd 2000000000 b at hp;have:=gT hp.1 hp.2;exact⟨cW (by omega),cW (by omega),cW (by omega),rfl⟩)
def aHh:Tab:=cJ [(111,aIC)] aF5
theorem aDS:aHh.Ok Tryz.prog:=aR aCU ⟨aK8,trivial⟩
def aIp:Con:=con (ac aV (a1 aV)) (fun(a,b)=>[bd 1000000000 a,bd 1000000000 b]) (fun(a,b)=>aV.enc (Geo.sub a b)
 )
theorem aKV:aIp.Ok Tryz.prog 138:=bF (bP aDS) (raw:=bR) (fun(_,_)=>[]) (fun(_,_)=>⟨_,rfl⟩) fun(a,b) hp=>bQ (q:=aK (a.x-b.x)/\aK (a.y-b.y)/\a.x-b.x=(Geo.sub a b).x/\a.y-b.y=(Geo.sub a b).y) (by kernel_rfl) (by
 change bd 1000000000 a/\bd 1000000000 b at hp;unfold bd at hp;exact⟨cW (by omega),cW (by omega),rfl,rfl⟩)
def aG0:Tab:=cJ [(138,aIp)] aHh
theorem aDF:aG0.Ok Tryz.prog:=aR aDS ⟨aKV,trivial⟩
def c63:Con:=con (ac aV (ac aV (a1 aV))) (fun(a,b,c)=>[bd 1000000000 a,bd 1000000000 b,bd 1000000000 c]) (fun(a,b,c)=> .int .i64 (Geo.cP a b c)
 )
theorem k63:c63.Ok Tryz.prog 63:=bF (bP aDF) (raw:=bR) (fun(_,_,_)=>[]) (fun(_,_,_)=>⟨_,rfl⟩) fun(a,b,c) hp=>bQ (q:=bd 1000000000 b/\bd 1000000000 a/\bd 1000000000 c/\bd 1000000000 a/\bd 2000000000 (Geo.sub b a)/\bd 2000000000 (Geo.sub c a)/\Geo.eO (Geo.cross (Geo.sub b a) (Geo.sub c a)) 0=Geo.cP a b c) (by kernel_rfl) (by
 change bd 1000000000 a/\bd 1000000000 b/\bd 1000000000 c at hp;have e:∀n,Geo.eO n 0=Geo.sgn n:=fun n=>by unfold Geo.eO Geo.sgn;grind
 exact⟨hp.2.1,hp.1,hp.2.2,hp.1,fX hp.2.1 hp.1,fX hp.2.2 hp.1,e _⟩)
def t63:Tab:=cJ [(63,c63)] aG0
theorem aFP:t63.Ok Tryz.prog:=aR aDF ⟨k63,trivial⟩
def aIo:Con:=con (ac aV (a1 aI)) (fun(_,m)=>[0<=m,m<=9000000000000000000]) (fun(a,m)=> .bool (Geo.bG a m)
 )
theorem aKU:aIo.Ok Tryz.prog 139:=bF (bP aFP) (raw:=bR) (fun(_,_)=>[]) (fun(_,_)=>⟨_,rfl⟩) fun(a,m) hp=>bQ (q:=aK (0-m)/\(0-m<=a.x->(a.x<=m->aK (0-m)/\(0-m<=a.y->decide (a.y<=m)=Geo.bG a m)/\
   (¬0-m<=a.y->false=Geo.bG a m))/\
  (¬a.x<=m->false=Geo.bG a m))/\
 (¬0-m<=a.x->false=Geo.bG a m)) (by kernel_rfl) (by
  change 0<=m/\m<=9000000000000000000 at hp;unfold Geo.bG;have:= @aK;grind[aK])
def aGZ:Tab:=cJ [(139,aIo)] t63
theorem aDD:aGZ.Ok Tryz.prog:=aR aFP ⟨aKU,trivial⟩
def aIm:Con:=con (a1 aV) (fun _=>[]) (fun a=>aT.enc (Geo.tU a)
 )
theorem aKS:aIm.Ok Tryz.prog 141:=bF (bP aDD) (raw:=bR) (fun _=>[]) (fun _=>⟨_,rfl⟩) fun a _=>bQ (q:=a.x=(Geo.tU a).x/\a.y=(Geo.tU a).y/\1=(Geo.tU a).den) (by kernel_rfl) (by
 exact⟨rfl,rfl,rfl⟩)
def aGX:Tab:=cJ [(141,aIm)] aGZ
theorem aDB:aGX.Ok Tryz.prog:=aR aDD ⟨aKS,trivial⟩
def Hk(b:Geo.S)(p:Geo.V):Bool:=decide (b.a.x<=p.x)&&decide (p.x<=b.b.x)&&decide (b.a.y<=p.y)&&decide (p.y<=b.b.y)
def bU(l:List Geo.V):Nat->Geo.S
 |0=>⟨nth l 0,nth l 0⟩
 |k+1=>⟨⟨min (bU l k).a.x (nth l k).x,min (bU l k).a.y (nth l k).y⟩,⟨max (bU l k).b.x (nth l k).x,max (bU l k).b.y (nth l k).y⟩⟩
def aHE:Con:=con (ac aS (a1 aV)) (fun(_,_)=>[]) (fun(b,p)=> .bool (Hk b p)
 )
theorem aKb:aHE.Ok Tryz.prog 228:=bF (bP aDB) (raw:=bR) (fun(_,_)=>[]) (fun(_,_)=>⟨_,rfl⟩) fun(b,p) _=>bQ (q:=(b.a.x<=p.x->(p.x<=b.b.x->(b.a.y<=p.y->decide (p.y<=b.b.y)=Hk b p)/\
   (¬b.a.y<=p.y->false=Hk b p))/\
  (¬p.x<=b.b.x->false=Hk b p))/\
 (¬b.a.x<=p.x->false=Hk b p)) (by kernel_rfl) (by
  unfold Hk;grind)
def aF1:Tab:=cJ [(228,aHE)] aGX
theorem aCR:aF1.Ok Tryz.prog:=aR aDB ⟨aKb,trivial⟩
def aHF:Con:=con (a1 (aL .V)) (fun l=>[l.length<=1000]) (fun l=> .tup [aS.enc (bU l l.length),.bool (decide (0<l.length))])
theorem aKc:aHF.Ok Tryz.prog 227:=bF (bP aCR) (raw:=bR) (fun l=>[lp 5 19 l.length (fun _=>[]) [] (fun _=>[]) (fun k=>[(12,.box 196 [.int .i64 (bU l k).a.x,.int .i64 (bU l k).a.y,.int .i64 (bU l k).b.x,.int .i64 (bU l k).b.y])])]
  ) (fun _=>⟨_,rfl⟩) fun l hp=>bQ (q:=((l.length:Int)=0->0=(bU l l.length).a.x/\0=(bU l l.length).a.y/\0=(bU l l.length).b.x/\0=(bU l l.length).b.y/\false=decide ((0:Nat)<l.length))/\
 (¬(l.length:Int)=0->ix 0 l.length/\ix 0 l.length/\(0=(0:Int)/\(nth l 0).x=(bU l 0).a.x/\(nth l 0).y=(bU l 0).a.y/\(nth l 0).x=(bU l 0).b.x/\(nth l 0).y=(bU l 0).b.y/\(0:Nat)<=l.length)/\
  (∀x:Nat,x<=l.length->((x:Int)<l.length->ix (x:Int) l.length/\ix (x:Int) l.length/\ix (x:Int) l.length/\ix (x:Int) l.length/\aK ((x:Int)+1)/\(x:Int)+1=((x+1:Nat):Int)/\Min.min (bU l x).a.x (nth l x).x=(bU l (x+1)).a.x/\Min.min (bU l x).a.y (nth l x).y=(bU l (x+1)).a.y/\Max.max (bU l x).b.x (nth l x).x=(bU l (x+1)).b.x/\Max.max (bU l x).b.y (nth l x).y=(bU l (x+1)).b.y/\x+1<=l.length/\l.length-(x+1)<l.length-x)/\
   (¬(x:Int)<l.length->(bU l x).a.x=(bU l l.length).a.x/\(bU l x).a.y=(bU l l.length).a.y/\(bU l x).b.x=(bU l l.length).b.x/\(bU l x).b.y=(bU l l.length).b.y/\true=decide ((0:Nat)<l.length))))) (by kernel_rfl) (by
  change l.length<=1000 at hp;have eU:∀x:Nat,¬(x:Int)<l.length->x<=l.length->bU l x=bU l l.length:=fun x h1 h2=>by rw[show x=l.length by omega]
  repeat' first|with_reducible apply And.intro|with_reducible intro
  all_goals repeat with_reducible cases‹_/\_›
  all_goals first|assumption|rfl|exact trivial|exact nb ‹_› |exact nb' ‹_› |omega|exact dU (by omega)|(unfold ix;omega)|(unfold aK;omega)|exact bW _|exact aO ‹_› ‹_› |(refine aO ‹_› ?_;simp_all;done)|(have h0:l=[] :=List.length_eq_zero_iff.1 (by omega);subst h0;rfl)|(rw[eU _ ‹_› ‹_›])|(symm;rw[decide_eq_true_eq];omega)|(symm;rw[decide_eq_false_iff_not];omega)|grind)
def aF2:Tab:=cJ [(227,aHF)] aF1
theorem aCS:aF2.Ok Tryz.prog:=aR aCR ⟨aKc,trivial⟩
def aHP:Con:=con (ac aI (a1 aI)) (fun(a,b)=>[-9000000000000000000<=a,a<=9000000000000000000,-9000000000000000000<=b,b<=9000000000000000000]) (fun(a,b)=> .int .i64 ((Nat.gcd a.natAbs b.natAbs:Nat):Int))
theorem aKl:aHP.Ok Tryz.prog 209:=bF (bP aCS) (raw:=bR) (fun(a,b)=>[(1,.mk (Int×Int) (fun F _=>aLe F 0 1) [] (fun p=>[p.1.natAbs<=9000000000000000000,p.2.natAbs<=9000000000000000000,Nat.gcd p.1.natAbs p.2.natAbs=Nat.gcd a.natAbs b.natAbs]) (fun p=>[(0,.int .i64 p.1),(1,.int .i64 p.2)]) (fun _=>[]) (fun p=>p.2.natAbs) (fun _=>[]))]
  ) (fun(_,_)=>⟨_,rfl⟩) fun(a,b) hp=>bQ (q:=(a=a/\b=b/\Int.natAbs a<=9000000000000000000/\Int.natAbs b<=9000000000000000000/\Nat.gcd (Int.natAbs a) (Int.natAbs b)=Nat.gcd (Int.natAbs a) (Int.natAbs b))/\
 (∀x:Prod Int Int,Int.natAbs x.1<=9000000000000000000/\Int.natAbs x.2<=9000000000000000000/\Nat.gcd (Int.natAbs x.1) (Int.natAbs x.2)=Nat.gcd (Int.natAbs a) (Int.natAbs b)->(¬x.2=0->x.2≠0/\x.2=x.2/\Int.tmod x.1 x.2=Int.tmod x.1 x.2/\Int.natAbs x.snd<=9000000000000000000/\Int.natAbs (Int.tmod x.1 x.2)<=9000000000000000000/\Nat.gcd (Int.natAbs x.snd) (Int.natAbs (Int.tmod x.1 x.2))=Nat.gcd (Int.natAbs a) (Int.natAbs b)/\Int.natAbs (Int.tmod x.1 x.2)<Int.natAbs x.2)/\
  (¬(¬x.2=0)->aK (0-x.1)/\Max.max x.1 (0-x.1)=Nat.gcd (Int.natAbs a) (Int.natAbs b)))) (by kernel_rfl) (by
  change-9000000000000000000<=a/\a<=9000000000000000000/\ -9000000000000000000<=b/\b<=9000000000000000000 at hp;have e1:∀x y:Int,Nat.gcd y.natAbs (Int.tmod x y).natAbs=Nat.gcd x.natAbs y.natAbs:=fun x y=>by
   rw[Int.natAbs_tmod,Nat.gcd_comm,<-Nat.gcd_rec,Nat.gcd_comm]
  have e2:∀x y:Int,¬y=0->(Int.tmod x y).natAbs<y.natAbs:=fun x y h=>by
   rw[Int.natAbs_tmod];exact Nat.mod_lt _ (by omega)
  have e3:∀(x y:Int) (g:Nat),Nat.gcd x.natAbs y.natAbs=g->¬¬y=0->max x (0-x)=(g:Int):=fun x y g h h2=>by
   rw[Decidable.of_not_not h2]at h;rw[<-h];simp;omega
  repeat' first|with_reducible apply And.intro|with_reducible intro
  all_goals repeat with_reducible cases‹_/\_›
  all_goals first|assumption|rfl|exact trivial|exact nb ‹_› |exact nb' ‹_› |omega|exact dU (by omega)|(unfold ix;omega)|(unfold aK;omega)|exact bW _|exact aO ‹_› ‹_› |(refine aO ‹_› ?_;simp_all;done)|exact e2 _ _ ‹_› |exact e3 _ _ _ ‹_› ‹_› |(rw[e1];assumption)|exact Nat.le_trans (Nat.le_of_lt (e2 _ _ ‹_›)) ‹_› |grind)
def aGb:Tab:=cJ [(209,aHP)] aF2
theorem aC0:aGb.Ok Tryz.prog:=aR aCS ⟨aKl,trivial⟩
def aHQ:Con:=con (ac aT (a1 aI)) (fun(_,m)=>[0<=m,m<=1000000]) (fun(p,m)=> .bool (Geo.eX p m)
 )
theorem aKm:aHQ.Ok Tryz.prog 208:=bF (bP aC0) (raw:=bR) (fun(_,_)=>[]) (fun(_,_)=>⟨_,rfl⟩) fun(p,m) hp=>bQ (q:=(p.den<1->false=Geo.eX p m)/\
 (¬p.den<1->(134217728<p.den->false=Geo.eX p m)/\
  (¬134217728<p.den->aK (m*p.den)/\0<=m*p.den/\m*p.den<=9000000000000000000/\Geo.bG ⟨p.x,p.y⟩ (m*p.den)=Geo.eX p m))) (by kernel_rfl) (by
  change 0<=m/\m<=1000000 at hp;unfold Geo.eX;have hm:¬p.den<1->¬134217728<p.den->aK (m*p.den)/\0<=m*p.den/\m*p.den<=9000000000000000000:=fun h1 h2=>by
   have:=fY (x:=m) (y:=p.den) (A:=1000000) (B:=134217728) (by omega) (by omega)
   exact⟨cW (by omega),Int.mul_nonneg hp.1 (by omega),by omega⟩
  repeat' first|with_reducible apply And.intro|with_reducible intro
  all_goals repeat with_reducible cases‹_/\_›
  all_goals first|assumption|rfl|exact trivial|exact nb ‹_› |exact nb' ‹_› |omega|exact dU (by omega)|(unfold ix;omega)|(unfold aK;omega)|exact bW _|exact aO ‹_› ‹_› |(refine aO ‹_› ?_;simp_all;done)|exact(hm ‹_› ‹_›).1|exact(hm ‹_› ‹_›).2.1|exact(hm ‹_› ‹_›).2.2|grind)
def aGc:Tab:=cJ [(208,aHQ)] aGb
theorem aC1:aGc.Ok Tryz.prog:=aR aC0 ⟨aKm,trivial⟩
def aHX:Con:=con (a1 aT) (fun _=>[]) (fun p=> .bool (Geo.eH p)
 )
theorem aKt:aHX.Ok Tryz.prog 185:=bF (bP aC1) (raw:=bR) (fun _=>[]) (fun _=>⟨_,rfl⟩) fun p _=>bQ (q:=(0:Int)<=4000/\(4000:Int)<=1000000/\(Geo.eX p 4000=true-> -9000000000000000000<=p.x/\p.x<=9000000000000000000/\ -9000000000000000000<=p.y/\p.y<=9000000000000000000/\ -9000000000000000000<=(Nat.gcd (Int.natAbs p.x) (Int.natAbs p.y):Int)/\(Nat.gcd (Int.natAbs p.x) (Int.natAbs p.y):Int)<=9000000000000000000/\ -9000000000000000000<=p.den/\p.den<=9000000000000000000/\decide ((Nat.gcd (Int.natAbs (Nat.gcd (Int.natAbs p.x) (Int.natAbs p.y):Int)) (Int.natAbs p.den):Int)=1)=Geo.eH p)/\
 (Geo.eX p 4000=false->false=Geo.eH p)) (by kernel_rfl) (by
  have hB:Geo.eX p 4000=true->PtB p:=fun h=>by
   unfold Geo.eX Geo.bG at h;simp only[Bool.and_eq_true,decide_eq_true_eq]at h;unfold PtB;omega
  have hn:∀n m B:Nat,n<=B->m<=B->Nat.gcd n m<=B:=fun n m B h1 h2=>by
   rcases Nat.eq_zero_or_pos n with e|e
   ·rw[e,Nat.gcd_zero_left];exact h2
   ·exact Nat.le_trans (Nat.gcd_le_left m e) h1
  have hg:PtB p->Nat.gcd p.x.natAbs p.y.natAbs<=600000000000:=fun h=>hn _ _ _ (by unfold PtB at h;omega) (by unfold PtB at h;omega)
  have ht:Geo.eX p 4000=true->decide ((Nat.gcd (Int.natAbs (Nat.gcd (Int.natAbs p.x) (Int.natAbs p.y):Int)) (Int.natAbs p.den):Int)=1)=Geo.eH p:=fun h=>by
   unfold Geo.eH;rw[h,Bool.true_and,Int.natAbs_natCast,Bool.eq_iff_iff,decide_eq_true_eq,beq_iff_eq];omega
  repeat' first|with_reducible apply And.intro|with_reducible intro
  all_goals repeat with_reducible cases‹_/\_›
  all_goals first|assumption|rfl|exact trivial|exact nb ‹_› |exact nb' ‹_› |omega|exact dU (by omega)|(unfold ix;omega)|(unfold aK;omega)|exact bW _|exact aO ‹_› ‹_› |(refine aO ‹_› ?_;simp_all;done)|exact ht ‹_› |(have h1:=hB ‹_›;have h2:=hg h1;unfold PtB at h1;omega)|(unfold Geo.eH;rw[‹Geo.eX p 4000=false›,Bool.false_and])|grind)
def aGk:Tab:=cJ [(185,aHX)] aGc
theorem aC7:aGk.Ok Tryz.prog:=aR aC1 ⟨aKt,trivial⟩
def aHN:Con:=con (a1 aS) (fun _=>[]) (fun s=> .bool (Geo.bL s)
 )
theorem aKj:aHN.Ok Tryz.prog 216:=bF (bP aC7) (raw:=bR) (fun _=>[]) (fun _=>⟨_,rfl⟩) fun s _=>bQ (q:=(0:Int)<=4000/\(4000:Int)<=9000000000000000000/\(Geo.bG s.a 4000=true->(0:Int)<=4000/\(4000:Int)<=9000000000000000000/\Geo.bG s.b 4000=Geo.bL s)/\
 (Geo.bG s.a 4000=false->false=Geo.bL s)) (by kernel_rfl) (by
  unfold Geo.bL;grind)
def aF9:Tab:=cJ [(216,aHN)] aGk
theorem aCY:aF9.Ok Tryz.prog:=aR aC7 ⟨aKj,trivial⟩
def aHL:Con:=con (ac aS (a1 aV)) (fun(_,_)=>[]) (fun(s,p)=> .bool (Geo.onS s p)
 )
theorem aKh:aHL.Ok Tryz.prog 218:=bF (bP aCY) (raw:=bR) (fun(_,_)=>[]) (fun(_,_)=>⟨_,rfl⟩) fun(s,p) _=>bQ (q:=[s.a,s.b].length<=1000/\(Geo.bL s=true->(Hk (bU [s.a,s.b] [s.a,s.b].length) p=true->bd 1000000000 s.a/\bd 1000000000 s.b/\bd 1000000000 p/\decide (Geo.cP s.a s.b p=0)=Geo.onS s p)/\
  (Hk (bU [s.a,s.b] [s.a,s.b].length) p=false->false=Geo.onS s p))/\
 (Geo.bL s=false->false=Geo.onS s p)) (by kernel_rfl) (by
  have e0:Hk (bU [s.a,s.b] [s.a,s.b].length) p=Geo.lO s p:=by
   show(decide (min (min s.a.x s.a.x) s.b.x<=p.x)&&decide (p.x<=max (max s.a.x s.a.x) s.b.x)&&decide (min (min s.a.y s.a.y) s.b.y<=p.y)&&decide (p.y<=max (max s.a.y s.a.y) s.b.y))=_;rw[Int.min_self,Int.min_self,Int.max_self,Int.max_self];rfl
  rw[e0];have hv:∀{M:Int},Geo.bL s=true->4000<=M->bd M s.a/\bd M s.b:=fun h hM=>Ey (by rw[h];rfl) hM
  refine⟨by simp,fun h=>⟨fun h2=>⟨(hv h (by decide)).1,(hv h (by decide)).2,aFp (hv h (by decide)) h2,?_⟩,fun h2=>by unfold Geo.onS;rw[h2];simp⟩,fun h=>by unfold Geo.onS;rw[h];rfl⟩
  unfold Geo.onS;rw[h,h2];rfl)
def aF7:Tab:=cJ [(218,aHL)] aF9
theorem aCW:aF7.Ok Tryz.prog:=aR aCY ⟨aKh,trivial⟩
def aHK:Con:=con (a1 aV) (fun _=>[]) (fun p=> .agg [.int .i64 1,.int .i64 p.x,.int .i64 p.y,.int .i64 1,.int .i64 0,.int .i64 0,.int .i64 0,.int .i64 0]
 )
theorem aKg:aHK.Ok Tryz.prog 219:=bF (bP aCW) (raw:=bR) (fun _=>[]) (fun _=>⟨_,rfl⟩) fun p _=>bQ (q:=(1:Int)=1/\(Geo.tU p).x=p.x/\(Geo.tU p).y=p.y/\(Geo.tU p).den=1/\(0:Int)=0/\(0:Int)=0/\(0:Int)=0/\(0:Int)=0) (by kernel_rfl) (by
 repeat' first|with_reducible apply And.intro|with_reducible intro
 all_goals repeat with_reducible cases‹_/\_›
 all_goals first|assumption|rfl|exact trivial|exact nb ‹_› |exact nb' ‹_› |omega|exact dU (by omega)|(unfold ix;omega)|(unfold aK;omega)|exact bW _|exact aO ‹_› ‹_› |(refine aO ‹_› ?_;simp_all;done)|grind)
def aF6:Tab:=cJ [(219,aHK)] aF7
theorem aCV:aF6.Ok Tryz.prog:=aR aCW ⟨aKg,trivial⟩
end
end Go.Proofs.YtdaeofhdgabhjaaGreat
namespace Go.Proofs.YtdaeofhdgabhjaaGreat
open Go.RowKit
set_option maxRecDepth 100000
noncomputable section
structure Com where
 k:Int
 p:Geo.Pt
 s:Geo.S
def aIK(c:Com):SV:= .agg [.int .i64 c.k,.int .i64 c.p.x,.int .i64 c.p.y,.int .i64 c.p.den,.int .i64 c.s.a.x,.int .i64 c.s.a.y,.int .i64 c.s.b.x,.int .i64 c.s.b.y]
def cz:Com:=⟨0,⟨0,0,0⟩,⟨⟨0,0⟩,⟨0,0⟩⟩⟩
def lA(s t:Geo.S)(d:Int):Int:=if d<0 then-Geo.cross (Geo.sub t.a s.a) (Geo.sub t.b t.a)else Geo.cross (Geo.sub t.a s.a) (Geo.sub t.b t.a)
def lB(s t:Geo.S)(d:Int):Int:=if d<0 then-Geo.cross (Geo.sub t.a s.a) (Geo.sub s.b s.a)else Geo.cross (Geo.sub t.a s.a) (Geo.sub s.b s.a)
def lE(d:Int):Int:=if d<0 then-d else d
def lX(s t:Geo.S)(d:Int):Int:=s.a.x*lE d+lA s t d*(Geo.sub s.b s.a).x
def lY(s t:Geo.S)(d:Int):Int:=s.a.y*lE d+lA s t d*(Geo.sub s.b s.a).y
def lG(s t:Geo.S)(d:Int):Int:=((Nat.gcd (Nat.gcd (lX s t d).natAbs (lY s t d).natAbs:Int).natAbs (lE d).natAbs:Nat):Int)
def aX(s t:Geo.S)(d:Int):Com:=if Geo.oI s t d=0 then cz else⟨Geo.oI s t d,⟨(lX s t d).tdiv (lG s t d),(lY s t d).tdiv (lG s t d),(lE d).tdiv (lG s t d)⟩,cz.s⟩
def jO(key:Nat)(obs:List (Nat×SOb)):Nat×Ann:=(key+10000,.mk Unit (fun _ _=>some ()) [] (fun _=>[]) (fun _=>[]) (fun _=>obs) (fun _=>0) (fun _=>[]))
def aLf(c:Com):List SV:=[.int .i64 c.k,.int .i64 c.p.x,.int .i64 c.p.y,.int .i64 c.p.den,.int .i64 c.s.a.x,.int .i64 c.s.a.y,.int .i64 c.s.b.x,.int .i64 c.s.b.y]
theorem kA{x g B:Int}(h: -B<=x/\x<=B): -B<=x.tdiv g/\x.tdiv g<=B:=by
 have:=Int.natAbs_tdiv_le_natAbs x g;omega
theorem aFr{n m B:Nat}(h1:n<=B)(h2:m<=B):Nat.gcd n m<=B:=by
 rcases Nat.eq_zero_or_pos n with e|e
 ·rw[e,Nat.gcd_zero_left];exact h2
 ·exact Nat.le_trans (Nat.gcd_le_left m e) h1
theorem tJ{s t:Geo.S}{d:Int}(h:lA s t d<0\/lE d<lA s t d\/lB s t d<0\/lE d<lB s t d):aX s t d=cz:=if_pos (if_pos h)
theorem De{s t:Geo.S}{d:Int}(h1:¬lA s t d<0)(h2:¬lE d<lA s t d)(h3:¬lB s t d<0)(h4:¬lE d<lB s t d):Geo.oI s t d=if lA s t d=0\/lA s t d=lE d\/lB s t d=0\/lB s t d=lE d then 1 else 2:=if_neg (by simp only[not_or];exact⟨h1,h2,h3,h4⟩)
theorem Df{s t:Geo.S}{d k:Int}(h:Geo.oI s t d=k)(hk:k≠0):aX s t d=⟨k,⟨(lX s t d).tdiv (lG s t d),(lY s t d).tdiv (lG s t d),(lE d).tdiv (lG s t d)⟩,cz.s⟩:=by
 unfold aX;rw[h,if_neg hk]
def aHM:Con:=con (ac aS (ac aS (a1 aI))) (fun(s,t,d)=>[Geo.bL s=true,Geo.bL t=true,d≠0,-200000000<=d/\d<=200000000]) (fun(s,t,d)=>aIK (aX s t d))
set_option maxHeartbeats 2000000 in
theorem aKi:aHM.Ok Tryz.prog 217:=bF (bP aCV) (raw:=bR) (fun(s,t,d)=>[jU 6 [(10,.int .i64 (lA s t d)),(11,.int .i64 (lB s t d)),(2,.int .i64 (lE d))],(9+10000,.mk Unit (fun _ _=>some ()) [] (fun _=>[¬lA s t d<0,¬lE d<lA s t d,¬lB s t d<0,¬lE d<lB s t d]) (fun _=>[(12,.int .i64 (lX s t d)),(13,.int .i64 (lY s t d))]) (fun _=>[]) (fun _=>0) (fun _=>[])),
  jU 10 [(14,.int .i64 (lG s t d))],jO 13 [(59,.box 175 (aLf (aX s t d)))]]
  ) (fun(_,_,_)=>⟨_,rfl⟩) fun(s,t,d) hp=>bQ (q:=bd 1000000000 s.b/\bd 1000000000 s.a/\bd 1000000000 t.b/\bd 1000000000 t.a/\bd 1000000000 t.a/\bd 1000000000 s.a/\bd 2000000000 (Geo.sub t.a s.a)/\bd 2000000000 (Geo.sub t.b t.a)/\bd 2000000000 (Geo.sub t.a s.a)/\bd 2000000000 (Geo.sub s.b s.a)/\((d<0->aK (0-Geo.cross (Geo.sub t.a s.a) (Geo.sub t.b t.a))/\aK (0-Geo.cross (Geo.sub t.a s.a) (Geo.sub s.b s.a))/\aK (0-d)/\0-Geo.cross (Geo.sub t.a s.a) (Geo.sub t.b t.a)=lA s t d/\0-Geo.cross (Geo.sub t.a s.a) (Geo.sub s.b s.a)=lB s t d/\0-d=lE d)/\
  (¬d<0->Geo.cross (Geo.sub t.a s.a) (Geo.sub t.b t.a)=lA s t d/\Geo.cross (Geo.sub t.a s.a) (Geo.sub s.b s.a)=lB s t d/\d=lE d))/\
 (∀y:Unit,(lA s t d<0->0=(aX s t d).k/\0=(aX s t d).p.x/\0=(aX s t d).p.y/\0=(aX s t d).p.den/\0=(aX s t d).s.a.x/\0=(aX s t d).s.a.y/\0=(aX s t d).s.b.x/\0=(aX s t d).s.b.y)/\
  (¬lA s t d<0->(lE d<lA s t d->0=(aX s t d).k/\0=(aX s t d).p.x/\0=(aX s t d).p.y/\0=(aX s t d).p.den/\0=(aX s t d).s.a.x/\0=(aX s t d).s.a.y/\0=(aX s t d).s.b.x/\0=(aX s t d).s.b.y)/\
   (¬lE d<lA s t d->(lB s t d<0->0=(aX s t d).k/\0=(aX s t d).p.x/\0=(aX s t d).p.y/\0=(aX s t d).p.den/\0=(aX s t d).s.a.x/\0=(aX s t d).s.a.y/\0=(aX s t d).s.b.x/\0=(aX s t d).s.b.y)/\
    (¬lB s t d<0->(lE d<lB s t d->0=(aX s t d).k/\0=(aX s t d).p.x/\0=(aX s t d).p.y/\0=(aX s t d).p.den/\0=(aX s t d).s.a.x/\0=(aX s t d).s.a.y/\0=(aX s t d).s.b.x/\0=(aX s t d).s.b.y)/\
     (¬lE d<lB s t d->(aK (s.a.x*lE d)/\aK (lA s t d*(Geo.sub s.b s.a).x)/\aK (s.a.x*lE d+lA s t d*(Geo.sub s.b s.a).x)/\aK (s.a.y*lE d)/\aK (lA s t d*(Geo.sub s.b s.a).y)/\aK (s.a.y*lE d+lA s t d*(Geo.sub s.b s.a).y)/\s.a.x*lE d+lA s t d*(Geo.sub s.b s.a).x=lX s t d/\s.a.y*lE d+lA s t d*(Geo.sub s.b s.a).y=lY s t d/\¬lA s t d<0/\¬lE d<lA s t d/\¬lB s t d<0/\¬lE d<lB s t d)/\
      (∀y_1:Unit,¬lA s t d<0/\¬lE d<lA s t d/\¬lB s t d<0/\¬lE d<lB s t d->(-9000000000000000000<=lX s t d/\lX s t d<=9000000000000000000/\ -9000000000000000000<=lY s t d/\lY s t d<=9000000000000000000/\ -9000000000000000000<=(Nat.gcd (Int.natAbs (lX s t d)) (Int.natAbs (lY s t d)):Int)/\(Nat.gcd (Int.natAbs (lX s t d)) (Int.natAbs (lY s t d)):Int)<=9000000000000000000/\ -9000000000000000000<=lE d/\lE d<=9000000000000000000/\(Nat.gcd (Int.natAbs (Nat.gcd (Int.natAbs (lX s t d)) (Int.natAbs (lY s t d)):Int)) (Int.natAbs (lE d)):Int)=lG s t d)/\
       (∀y_2:Unit,lG s t d≠0/\aK (Int.tdiv (lX s t d) (lG s t d))/\lG s t d≠0/\aK (Int.tdiv (lY s t d) (lG s t d))/\lG s t d≠0/\aK (Int.tdiv (lE d) (lG s t d))/\((lA s t d=0->1=(aX s t d).k/\Int.tdiv (lX s t d) (lG s t d)=(aX s t d).p.x/\Int.tdiv (lY s t d) (lG s t d)=(aX s t d).p.y/\Int.tdiv (lE d) (lG s t d)=(aX s t d).p.den/\0=(aX s t d).s.a.x/\0=(aX s t d).s.a.y/\0=(aX s t d).s.b.x/\0=(aX s t d).s.b.y)/\
         (¬lA s t d=0->(lA s t d=lE d->1=(aX s t d).k/\Int.tdiv (lX s t d) (lG s t d)=(aX s t d).p.x/\Int.tdiv (lY s t d) (lG s t d)=(aX s t d).p.y/\Int.tdiv (lE d) (lG s t d)=(aX s t d).p.den/\0=(aX s t d).s.a.x/\0=(aX s t d).s.a.y/\0=(aX s t d).s.b.x/\0=(aX s t d).s.b.y)/\
          (¬lA s t d=lE d->(lB s t d=0->1=(aX s t d).k/\Int.tdiv (lX s t d) (lG s t d)=(aX s t d).p.x/\Int.tdiv (lY s t d) (lG s t d)=(aX s t d).p.y/\Int.tdiv (lE d) (lG s t d)=(aX s t d).p.den/\0=(aX s t d).s.a.x/\0=(aX s t d).s.a.y/\0=(aX s t d).s.b.x/\0=(aX s t d).s.b.y)/\
           (¬lB s t d=0->(lB s t d=lE d->1=(aX s t d).k/\Int.tdiv (lX s t d) (lG s t d)=(aX s t d).p.x/\Int.tdiv (lY s t d) (lG s t d)=(aX s t d).p.y/\Int.tdiv (lE d) (lG s t d)=(aX s t d).p.den/\0=(aX s t d).s.a.x/\0=(aX s t d).s.a.y/\0=(aX s t d).s.b.x/\0=(aX s t d).s.b.y)/\
            (¬lB s t d=lE d->2=(aX s t d).k/\Int.tdiv (lX s t d) (lG s t d)=(aX s t d).p.x/\Int.tdiv (lY s t d) (lG s t d)=(aX s t d).p.y/\Int.tdiv (lE d) (lG s t d)=(aX s t d).p.den/\0=(aX s t d).s.a.x/\0=(aX s t d).s.a.y/\0=(aX s t d).s.b.x/\0=(aX s t d).s.b.y)))))/\
        (∀y_3:Unit,(aX s t d).k=(aX s t d).k/\(aX s t d).p.x=(aX s t d).p.x/\(aX s t d).p.y=(aX s t d).p.y/\(aX s t d).p.den=(aX s t d).p.den/\(aX s t d).s.a.x=(aX s t d).s.a.x/\(aX s t d).s.a.y=(aX s t d).s.a.y/\(aX s t d).s.b.x=(aX s t d).s.b.x/\(aX s t d).s.b.y=(aX s t d).s.b.y))))))))) (by kernel_rfl) (by
  change Geo.bL s=true/\Geo.bL t=true/\d≠0/\(-200000000<=d/\d<=200000000)at hp;obtain⟨hs,ht,h0,hd⟩:=hp;have bs:bd 4000 s.a/\bd 4000 s.b:=Ey (by rw[hs];rfl)
  have bt:bd 4000 t.a/\bd 4000 t.b:=Ey (by rw[ht];rfl)
  have u1:=fX bs.2 bs.1;have u2:=fX bt.2 bt.1;have u3:=fX bt.1 bs.1;have c1:=gT u3 u2;have c2:=gT u3 u1;have gM:∀{M:Int} {v:Geo.V},16000<=M->bd 4000 v->bd M v:=fun h1 h2=>by unfold bd at*;omega
  have gN:∀{M:Int} {v:Geo.V},16000<=M->bd (4000+4000) v->bd M v:=fun h1 h2=>by unfold bd at*;omega
  have a1: -128000000<=lA s t d/\lA s t d<=128000000:=by unfold lA Geo.cross;split<;>omega
  have e1: -200000000<=lE d/\lE d<=200000000:=by unfold lE;split<;>omega
  have e2:lE d≠0:=by unfold lE;split<;>omega
  have k1:aK (0-Geo.cross (Geo.sub t.a s.a) (Geo.sub t.b t.a)):=cW (by unfold Geo.cross;omega)
  have k2:aK (0-Geo.cross (Geo.sub t.a s.a) (Geo.sub s.b s.a)):=cW (by unfold Geo.cross;omega)
  have x1:=fY (A:=4000) (B:=200000000) bs.1.1 e1;have x2:=fY (A:=128000000) (B:=8000) a1 u1.1;have y1:=fY (A:=4000) (B:=200000000) bs.1.2 e1;have y2:=fY (A:=128000000) (B:=8000) a1 u1.2;have xB: -2000000000000<=lX s t d/\lX s t d<=2000000000000:=by unfold lX;omega
  have yB: -2000000000000<=lY s t d/\lY s t d<=2000000000000:=by unfold lY;omega
  have g1:Nat.gcd (lX s t d).natAbs (lY s t d).natAbs<=2000000000000:=aFr (by omega) (by omega)
  have g2:lG s t d≠0:=by
   unfold lG;have:=Nat.gcd_pos_of_pos_right (Nat.gcd (lX s t d).natAbs (lY s t d).natAbs:Int).natAbs (show 0<(lE d).natAbs by omega)
   omega
  have q1:=kA (g:=lG s t d) xB;have q2:=kA (g:=lG s t d) yB;have q3:=kA (g:=lG s t d) e1;have r1:aK (s.a.x*lE d):=cW (by omega)
  have r2:aK (lA s t d*(Geo.sub s.b s.a).x):=cW (by omega)
  have r3:aK (s.a.x*lE d+lA s t d*(Geo.sub s.b s.a).x):=cW (by omega)
  have r4:aK (s.a.y*lE d):=cW (by omega)
  have r5:aK (lA s t d*(Geo.sub s.b s.a).y):=cW (by omega)
  have r6:aK (s.a.y*lE d+lA s t d*(Geo.sub s.b s.a).y):=cW (by omega)
  have r7:aK ((lX s t d).tdiv (lG s t d)):=cW (by omega)
  have r8:aK ((lY s t d).tdiv (lG s t d)):=cW (by omega)
  have r9:aK ((lE d).tdiv (lG s t d)):=cW (by omega)
  have r10:aK (0-d):=cW (by omega)
  have f1:d<0->0-Geo.cross (Geo.sub t.a s.a) (Geo.sub t.b t.a)=lA s t d:=fun h=>by unfold lA;rw[if_pos h];omega
  have f2:d<0->0-Geo.cross (Geo.sub t.a s.a) (Geo.sub s.b s.a)=lB s t d:=fun h=>by unfold lB;rw[if_pos h];omega
  have f3:d<0->0-d=lE d:=fun h=>by unfold lE;rw[if_pos h];omega
  have f4:¬d<0->Geo.cross (Geo.sub t.a s.a) (Geo.sub t.b t.a)=lA s t d:=fun h=>by unfold lA;rw[if_neg h]
  have f5:¬d<0->Geo.cross (Geo.sub t.a s.a) (Geo.sub s.b s.a)=lB s t d:=fun h=>by unfold lB;rw[if_neg h]
  have f6:¬d<0->d=lE d:=fun h=>by unfold lE;rw[if_neg h]
  have n1:lA s t d<0->aX s t d=cz:=fun h=>tJ (.inl h)
  have n2:lE d<lA s t d->aX s t d=cz:=fun h=>tJ (.inr (.inl h))
  have n3:lB s t d<0->aX s t d=cz:=fun h=>tJ (.inr (.inr (.inl h)))
  have n4:lE d<lB s t d->aX s t d=cz:=fun h=>tJ (.inr (.inr (.inr h)))
  have t0:¬lA s t d<0->¬lE d<lA s t d->¬lB s t d<0->¬lE d<lB s t d->lA s t d=0\/lA s t d=lE d\/lB s t d=0\/lB s t d=lE d->aX s t d=⟨1,⟨(lX s t d).tdiv (lG s t d),(lY s t d).tdiv (lG s t d),(lE d).tdiv (lG s t d)⟩,cz.s⟩:=fun h1 h2 h3 h4 h=>Df (by rw[De h1 h2 h3 h4,if_pos h]) (by decide)
  have t1:¬lA s t d<0->¬lE d<lA s t d->¬lB s t d<0->¬lE d<lB s t d->¬(lA s t d=0\/lA s t d=lE d\/lB s t d=0\/lB s t d=lE d)->aX s t d=⟨2,⟨(lX s t d).tdiv (lG s t d),(lY s t d).tdiv (lG s t d),(lE d).tdiv (lG s t d)⟩,cz.s⟩:=fun h1 h2 h3 h4 h=>Df (by rw[De h1 h2 h3 h4,if_neg h]) (by decide)
  have b1:=gM (M:=1000000000) (by decide) bs.1
  have b2:=gM (M:=1000000000) (by decide) bs.2
  have b3:=gM (M:=1000000000) (by decide) bt.1
  have b4:=gM (M:=1000000000) (by decide) bt.2
  have b5:=gN (M:=2000000000) (by decide) u1
  have b6:=gN (M:=2000000000) (by decide) u2
  have b7:=gN (M:=2000000000) (by decide) u3
  have hX: -9000000000000000000<=lX s t d/\lX s t d<=9000000000000000000:=by omega
  have hY: -9000000000000000000<=lY s t d/\lY s t d<=9000000000000000000:=by omega
  have hE: -9000000000000000000<=lE d/\lE d<=9000000000000000000:=by omega
  have hG1: -9000000000000000000<=((Nat.gcd (lX s t d).natAbs (lY s t d).natAbs:Nat):Int):=by omega
  have hG2:((Nat.gcd (lX s t d).natAbs (lY s t d).natAbs:Nat):Int)<=9000000000000000000:=by omega
  clear hs ht h0 hd bs bt u1 u2 u3 c1 c2 gM gN a1 e1 e2 x1 x2 y1 y2 xB yB g1 q1 q2 q3;obtain⟨hX1,hX2⟩:=hX;obtain⟨hY1,hY2⟩:=hY;obtain⟨hE1,hE2⟩:=hE
  repeat' first|with_reducible apply And.intro|with_reducible intro
  all_goals repeat with_reducible cases‹_/\_›
  all_goals first|assumption|rfl|exact f1 ‹_› |exact f2 ‹_› |exact f3 ‹_› |exact f4 ‹_› |exact f5 ‹_› |exact f6 ‹_› |(rw[n1 ‹_›];rfl)|(rw[n2 ‹_›];rfl)|(rw[n3 ‹_›];rfl)|(rw[n4 ‹_›];rfl)|(rw[t0 ‹_› ‹_› ‹_› ‹_› (.inl ‹_›)] <;>rfl)|(rw[t0 ‹_› ‹_› ‹_› ‹_› (.inr (.inl ‹_›))] <;>rfl)|(rw[t0 ‹_› ‹_› ‹_› ‹_› (.inr (.inr (.inl ‹_›)))] <;>rfl)|(rw[t0 ‹_› ‹_› ‹_› ‹_› (.inr (.inr (.inr ‹_›)))] <;>rfl)|(rw[t1 ‹_› ‹_› ‹_› ‹_› (fun h=>h.elim ‹_› fun h=>h.elim ‹_› fun h=>h.elim ‹_› ‹_›)] <;>rfl))
def aF8:Tab:=cJ [(217,aHM)] aF6
theorem aCX:aF8.Ok Tryz.prog:=aR aCV ⟨aKi,trivial⟩
def v2(v:Geo.V):List SV:=[.int .i64 v.x,.int .i64 v.y]
def Oo(v:Geo.V):Com:=⟨1,Geo.tU v,cz.s⟩
def qF(s t:Geo.S):Int:=Geo.cross (Geo.sub s.b s.a) (Geo.sub t.b t.a)
def qY(s t:Geo.S):Com:=
 if Geo.dJ (Geo.cL s t) (Geo.cT s t)=0 then Oo (Geo.cL s t)
 else if Geo.dJ (Geo.cL s t) (Geo.cT s t)= -1 then⟨3,⟨0,0,0⟩,⟨Geo.cL s t,Geo.cT s t⟩⟩
 else cz
def mb1(s t:Geo.S):Bool:=decide (s.a=s.b)&&Geo.onS t s.a
def mb3(s t:Geo.S):Bool:=decide (s.a=s.b)||(decide (t.a=t.b)||decide (¬Geo.cP s.a s.b t.a=0))
def bH(s t:Geo.S):Com:=
 if(!Geo.bL s)=true then cz
 else if(!Geo.bL t)=true then cz
 else if¬qF s t=0 then aX s t (qF s t)
 else if mb1 s t=true then Oo s.a
 else if mb1 t s=true then Oo t.a
 else if mb3 s t=true then cz
 else qY s t
def aHT:Con:=con (ac aS (a1 aS)) (fun(_,_)=>[]) (fun(s,t)=>aIK (bH s t))
set_option maxHeartbeats 2000000 in
theorem aKp:aHT.Ok Tryz.prog 199:=bF (bP aCX) (raw:=bR) (fun(s,t)=>[jb 7 36 (mb1 s t),jb 9 51 (mb1 t s),jb 11 66 (mb3 s t),jP 12 [bH s t=qY s t],lU 14 3,jO 18 [(34,.box 189 (v2 (Geo.loS s)++v2 (Geo.hiS s)++v2 (Geo.loS t)++v2 (Geo.hiS t)))],jO 21 [(40,.box 44 (v2 (Geo.cL s t)))],jO 23 [(41,.box 44 (v2 (Geo.cT s t)))]]
  ) (fun(_,_)=>⟨_,rfl⟩) fun(s,t) _=>bQ (q:=((!Geo.bL s)=true->0=(bH s t).k/\0=(bH s t).p.x/\0=(bH s t).p.y/\0=(bH s t).p.den/\0=(bH s t).s.a.x/\0=(bH s t).s.a.y/\0=(bH s t).s.b.x/\0=(bH s t).s.b.y)/\
 ((!Geo.bL s)=false->((!Geo.bL t)=true->0=(bH s t).k/\0=(bH s t).p.x/\0=(bH s t).p.y/\0=(bH s t).p.den/\0=(bH s t).s.a.x/\0=(bH s t).s.a.y/\0=(bH s t).s.b.x/\0=(bH s t).s.b.y)/\
  ((!Geo.bL t)=false->bd 1000000000 s.b/\bd 1000000000 s.a/\bd 1000000000 t.b/\bd 1000000000 t.a/\bd 2000000000 (Geo.sub s.b s.a)/\bd 2000000000 (Geo.sub t.b t.a)/\(¬Geo.cross (Geo.sub s.b s.a) (Geo.sub t.b t.a)=0->Geo.bL s=true/\Geo.bL t=true/\Geo.cross (Geo.sub s.b s.a) (Geo.sub t.b t.a)≠0/\(-200000000<=Geo.cross (Geo.sub s.b s.a) (Geo.sub t.b t.a)/\Geo.cross (Geo.sub s.b s.a) (Geo.sub t.b t.a)<=200000000)/\(aX s t (Geo.cross (Geo.sub s.b s.a) (Geo.sub t.b t.a))).k=(bH s t).k/\(aX s t (Geo.cross (Geo.sub s.b s.a) (Geo.sub t.b t.a))).p.x=(bH s t).p.x/\(aX s t (Geo.cross (Geo.sub s.b s.a) (Geo.sub t.b t.a))).p.y=(bH s t).p.y/\(aX s t (Geo.cross (Geo.sub s.b s.a) (Geo.sub t.b t.a))).p.den=(bH s t).p.den/\(aX s t (Geo.cross (Geo.sub s.b s.a) (Geo.sub t.b t.a))).s.a.x=(bH s t).s.a.x/\(aX s t (Geo.cross (Geo.sub s.b s.a) (Geo.sub t.b t.a))).s.a.y=(bH s t).s.a.y/\(aX s t (Geo.cross (Geo.sub s.b s.a) (Geo.sub t.b t.a))).s.b.x=(bH s t).s.b.x/\(aX s t (Geo.cross (Geo.sub s.b s.a) (Geo.sub t.b t.a))).s.b.y=(bH s t).s.b.y)/\
   (¬(¬Geo.cross (Geo.sub s.b s.a) (Geo.sub t.b t.a)=0)->(((s.a=s.b->Geo.onS t s.a=mb1 s t)/\
      (¬s.a=s.b->false=mb1 s t))/\
     (∀y:Unit,(mb1 s t=true->1=(bH s t).k/\s.a.x=(bH s t).p.x/\s.a.y=(bH s t).p.y/\1=(bH s t).p.den/\0=(bH s t).s.a.x/\0=(bH s t).s.a.y/\0=(bH s t).s.b.x/\0=(bH s t).s.b.y)/\
      (mb1 s t=false->((t.a=t.b->Geo.onS s t.a=mb1 t s)/\
        (¬t.a=t.b->false=mb1 t s))/\
       (∀y_1:Unit,(mb1 t s=true->1=(bH s t).k/\t.a.x=(bH s t).p.x/\t.a.y=(bH s t).p.y/\1=(bH s t).p.den/\0=(bH s t).s.a.x/\0=(bH s t).s.a.y/\0=(bH s t).s.b.x/\0=(bH s t).s.b.y)/\
        (mb1 t s=false->((s.a=s.b->true=mb3 s t)/\
          (¬s.a=s.b->(t.a=t.b->true=mb3 s t)/\
           (¬t.a=t.b->bd 1000000000 s.a/\bd 1000000000 s.b/\bd 1000000000 t.a/\decide (¬Geo.cP s.a s.b t.a=0)=mb3 s t)))/\
         (∀y_2:Unit,(mb3 s t=true->0=(bH s t).k/\0=(bH s t).p.x/\0=(bH s t).p.y/\0=(bH s t).p.den/\0=(bH s t).s.a.x/\0=(bH s t).s.a.y/\0=(bH s t).s.b.x/\0=(bH s t).s.b.y)/\
          (mb3 s t=false->bH s t=qY s t)))))))/\
    (∀y:Unit,bH s t=qY s t->(((0:Int)<4->aK (0+1)/\ix (0+1) 4/\ix 0 4/\(Geo.cU s.b s.a=true->aK (0+1)/\aK (0+1)/\ix (0+1) 4/\ix 0 4/\ix 0 4/\ix (0+1) 4/\aK (0+2)/\((0+2:Int)<4->aK (0+2+1)/\ix (0+2+1) 4/\ix (0+2) 4/\(Geo.cU t.b t.a=true->aK (0+2+1)/\aK (0+2+1)/\ix (0+2+1) 4/\ix (0+2) 4/\ix (0+2) 4/\ix (0+2+1) 4/\aK (0+2+2)/\((0+2+2:Int)<4->aK (0+2+2+1)/\ix (0+2+2+1) 4/\False)/\
          (¬(0+2+2:Int)<4->s.b.x=(Geo.loS s).x/\s.b.y=(Geo.loS s).y/\s.a.x=(Geo.hiS s).x/\s.a.y=(Geo.hiS s).y/\t.b.x=(Geo.loS t).x/\t.b.y=(Geo.loS t).y/\t.a.x=(Geo.hiS t).x/\t.a.y=(Geo.hiS t).y))/\
         (Geo.cU t.b t.a=false->aK (0+2+2)/\((0+2+2:Int)<4->aK (0+2+2+1)/\ix (0+2+2+1) 4/\False)/\
          (¬(0+2+2:Int)<4->s.b.x=(Geo.loS s).x/\s.b.y=(Geo.loS s).y/\s.a.x=(Geo.hiS s).x/\s.a.y=(Geo.hiS s).y/\t.a.x=(Geo.loS t).x/\t.a.y=(Geo.loS t).y/\t.b.x=(Geo.hiS t).x/\t.b.y=(Geo.hiS t).y)))/\
        (¬(0+2:Int)<4->s.b.x=(Geo.loS s).x/\s.b.y=(Geo.loS s).y/\s.a.x=(Geo.hiS s).x/\s.a.y=(Geo.hiS s).y/\t.a.x=(Geo.loS t).x/\t.a.y=(Geo.loS t).y/\t.b.x=(Geo.hiS t).x/\t.b.y=(Geo.hiS t).y))/\
       (Geo.cU s.b s.a=false->aK (0+2)/\((0+2:Int)<4->aK (0+2+1)/\ix (0+2+1) 4/\ix (0+2) 4/\(Geo.cU t.b t.a=true->aK (0+2+1)/\aK (0+2+1)/\ix (0+2+1) 4/\ix (0+2) 4/\ix (0+2) 4/\ix (0+2+1) 4/\aK (0+2+2)/\((0+2+2:Int)<4->aK (0+2+2+1)/\ix (0+2+2+1) 4/\False)/\
          (¬(0+2+2:Int)<4->s.a.x=(Geo.loS s).x/\s.a.y=(Geo.loS s).y/\s.b.x=(Geo.hiS s).x/\s.b.y=(Geo.hiS s).y/\t.b.x=(Geo.loS t).x/\t.b.y=(Geo.loS t).y/\t.a.x=(Geo.hiS t).x/\t.a.y=(Geo.hiS t).y))/\
         (Geo.cU t.b t.a=false->aK (0+2+2)/\((0+2+2:Int)<4->aK (0+2+2+1)/\ix (0+2+2+1) 4/\False)/\
          (¬(0+2+2:Int)<4->s.a.x=(Geo.loS s).x/\s.a.y=(Geo.loS s).y/\s.b.x=(Geo.hiS s).x/\s.b.y=(Geo.hiS s).y/\t.a.x=(Geo.loS t).x/\t.a.y=(Geo.loS t).y/\t.b.x=(Geo.hiS t).x/\t.b.y=(Geo.hiS t).y)))/\
        (¬(0+2:Int)<4->s.a.x=(Geo.loS s).x/\s.a.y=(Geo.loS s).y/\s.b.x=(Geo.hiS s).x/\s.b.y=(Geo.hiS s).y/\t.a.x=(Geo.loS t).x/\t.a.y=(Geo.loS t).y/\t.b.x=(Geo.hiS t).x/\t.b.y=(Geo.hiS t).y)))/\
      (¬(0:Int)<4->s.a.x=(Geo.loS s).x/\s.a.y=(Geo.loS s).y/\s.b.x=(Geo.hiS s).x/\s.b.y=(Geo.hiS s).y/\t.a.x=(Geo.loS t).x/\t.a.y=(Geo.loS t).y/\t.b.x=(Geo.hiS t).x/\t.b.y=(Geo.hiS t).y))/\
     (∀y_1:Unit,ix 0 4/\ix 1 4/\(ix 2 4/\(Geo.cU (Geo.loS s) (Geo.loS t)=true->ix 2 4/\(Geo.loS t).x=(Geo.cL s t).x/\(Geo.loS t).y=(Geo.cL s t).y)/\
       (Geo.cU (Geo.loS s) (Geo.loS t)=false->(Geo.loS s).x=(Geo.cL s t).x/\(Geo.loS s).y=(Geo.cL s t).y))/\
      (∀y_2:Unit,(ix 3 4/\(Geo.cU (Geo.hiS t) (Geo.hiS s)=true->ix 3 4/\(Geo.hiS t).x=(Geo.cT s t).x/\(Geo.hiS t).y=(Geo.cT s t).y)/\
        (Geo.cU (Geo.hiS t) (Geo.hiS s)=false->(Geo.hiS s).x=(Geo.cT s t).x/\(Geo.hiS s).y=(Geo.cT s t).y))/\
       (∀y_3:Unit,(Geo.dJ (Geo.cL s t) (Geo.cT s t)=0->1=(bH s t).k/\(Geo.cL s t).x=(bH s t).p.x/\(Geo.cL s t).y=(bH s t).p.y/\1=(bH s t).p.den/\0=(bH s t).s.a.x/\0=(bH s t).s.a.y/\0=(bH s t).s.b.x/\0=(bH s t).s.b.y)/\
        (¬Geo.dJ (Geo.cL s t) (Geo.cT s t)=0->(Geo.dJ (Geo.cL s t) (Geo.cT s t)= -1->3=(bH s t).k/\0=(bH s t).p.x/\0=(bH s t).p.y/\0=(bH s t).p.den/\(Geo.cL s t).x=(bH s t).s.a.x/\(Geo.cL s t).y=(bH s t).s.a.y/\(Geo.cT s t).x=(bH s t).s.b.x/\(Geo.cT s t).y=(bH s t).s.b.y)/\
         (¬Geo.dJ (Geo.cL s t) (Geo.cT s t)= -1->0=(bH s t).k/\0=(bH s t).p.x/\0=(bH s t).p.y/\0=(bH s t).p.den/\0=(bH s t).s.a.x/\0=(bH s t).s.a.y/\0=(bH s t).s.b.x/\0=(bH s t).s.b.y)))))))))) (by kernel_rfl) (by
  have gB:(!Geo.bL s)=false->(!Geo.bL t)=false-> -200000000<=qF s t/\qF s t<=200000000:=fun h1 h2=>by
   have bs:bd 4000 s.a/\bd 4000 s.b:=Ey h1;have bt:bd 4000 t.a/\bd 4000 t.b:=Ey h2;have c1:=gT (fX bs.2 bs.1) (fX bt.2 bt.1);unfold qF Geo.cross;omega
  have gM:∀{r:Geo.S} {M:Int},8000<=M->(!Geo.bL r)=false->bd M r.a/\bd M r.b/\bd M (Geo.sub r.b r.a):=fun hM h=>by
   have b:=Ey h (M:=4000);have c:=fX b.2 b.1;unfold bd at*;omega
  have e1:(!Geo.bL s)=true->bH s t=cz:=fun h=>if_pos h
  have e2:(!Geo.bL t)=true->bH s t=cz:=fun h=>by unfold bH;rw[h];split<;>rfl
  have e3:(!Geo.bL s)=false->(!Geo.bL t)=false->¬qF s t=0->bH s t=aX s t (qF s t):=fun h1 h2 h3=>by unfold bH;rw[h1,h2];exact if_pos h3
  have e4:(!Geo.bL s)=false->(!Geo.bL t)=false->¬¬qF s t=0->mb1 s t=true->bH s t=Oo s.a:=fun h1 h2 h3 h4=>by unfold bH;rw[h1,h2,if_neg h3,h4];rfl
  have e5:(!Geo.bL s)=false->(!Geo.bL t)=false->¬¬qF s t=0->mb1 s t=false->mb1 t s=true->bH s t=Oo t.a:=fun h1 h2 h3 h4 h5=>by unfold bH;rw[h1,h2,if_neg h3,h4,h5];rfl
  have e6:(!Geo.bL s)=false->(!Geo.bL t)=false->¬¬qF s t=0->mb1 s t=false->mb1 t s=false->mb3 s t=true->bH s t=cz:=fun h1 h2 h3 h4 h5 h6=>by unfold bH;rw[h1,h2,if_neg h3,h4,h5,h6];rfl
  have e7:(!Geo.bL s)=false->(!Geo.bL t)=false->¬¬qF s t=0->mb1 s t=false->mb1 t s=false->mb3 s t=false->bH s t=qY s t:=fun h1 h2 h3 h4 h5 h6=>by unfold bH;rw[h1,h2,if_neg h3,h4,h5,h6];rfl
  have e8:bH s t=qY s t->Geo.dJ (Geo.cL s t) (Geo.cT s t)=0->bH s t=Oo (Geo.cL s t):=fun h h1=>by rw[h];exact if_pos h1
  have e9:bH s t=qY s t->¬Geo.dJ (Geo.cL s t) (Geo.cT s t)=0->Geo.dJ (Geo.cL s t) (Geo.cT s t)= -1->bH s t=⟨3,⟨0,0,0⟩,⟨Geo.cL s t,Geo.cT s t⟩⟩:=fun h h1 h2=>by rw[h];unfold qY;rw[if_neg h1,if_pos h2]
  have e10:bH s t=qY s t->¬Geo.dJ (Geo.cL s t) (Geo.cT s t)=0->¬Geo.dJ (Geo.cL s t) (Geo.cT s t)= -1->bH s t=cz:=fun h h1 h2=>by rw[h];unfold qY;rw[if_neg h1,if_neg h2]
  have q1:s.a=s.b->true=mb3 s t:=fun h=>by unfold mb3;rw[decide_eq_true h];rfl
  have q2:t.a=t.b->true=mb3 s t:=fun h=>by unfold mb3;rw[decide_eq_true h];simp
  have q3:¬s.a=s.b->¬t.a=t.b->decide (¬Geo.cP s.a s.b t.a=0)=mb3 s t:=fun h1 h2=>by unfold mb3;rw[decide_eq_false h1,decide_eq_false h2];simp
  have q4:∀{s t:Geo.S},s.a=s.b->Geo.onS t s.a=mb1 s t:=fun h=>by unfold mb1;rw[decide_eq_true h];rfl
  have q5:∀{s t:Geo.S},¬s.a=s.b->false=mb1 s t:=fun h=>by unfold mb1;rw[decide_eq_false h];rfl
  have w1:∀{r:Geo.S},Geo.cU r.b r.a=true->r.b=Geo.loS r/\r.a=Geo.hiS r:=fun h=>by unfold Geo.loS Geo.hiS;rw[h];exact⟨rfl,rfl⟩
  have w2:∀{r:Geo.S},Geo.cU r.b r.a=false->r.a=Geo.loS r/\r.b=Geo.hiS r:=fun h=>by unfold Geo.loS Geo.hiS;rw[h];exact⟨rfl,rfl⟩
  have w3:Geo.cU (Geo.loS s) (Geo.loS t)=true->Geo.loS t=Geo.cL s t:=fun h=>by unfold Geo.cL;rw[h];rfl
  have w4:Geo.cU (Geo.loS s) (Geo.loS t)=false->Geo.loS s=Geo.cL s t:=fun h=>by unfold Geo.cL;rw[h];rfl
  have w5:Geo.cU (Geo.hiS t) (Geo.hiS s)=true->Geo.hiS t=Geo.cT s t:=fun h=>by unfold Geo.cT;rw[h];rfl
  have w6:Geo.cU (Geo.hiS t) (Geo.hiS s)=false->Geo.hiS s=Geo.cT s t:=fun h=>by unfold Geo.cT;rw[h];rfl
  repeat' first|with_reducible apply And.intro|with_reducible intro
  all_goals repeat with_reducible cases‹_/\_›
  all_goals first|assumption|rfl|(unfold ix;omega)|(unfold aK;omega)|omega|exact nb ‹_› |exact q1 ‹_› |exact q2 ‹_› |exact q3 ‹_› ‹_› |exact q4 ‹_› |exact q5 ‹_› |(rw[e1 ‹_›] <;>rfl)|(rw[e2 ‹_›] <;>rfl)|(rw[e3 ‹_› ‹_› ‹_›] <;>rfl)|(rw[e4 ‹_› ‹_› ‹_› ‹_›] <;>rfl)|(rw[e5 ‹_› ‹_› ‹_› ‹_› ‹_›] <;>rfl)|(rw[e6 ‹_› ‹_› ‹_› ‹_› ‹_› ‹_›] <;>rfl)|exact e7 ‹_› ‹_› ‹_› ‹_› ‹_› ‹_› |(rw[e8 ‹_› ‹_›] <;>rfl)|(rw[e9 ‹_› ‹_› ‹_›] <;>rfl)|(rw[e10 ‹_› ‹_› ‹_›] <;>rfl)|exact(gB ‹_› ‹_›).1|exact(gB ‹_› ‹_›).2|exact(gM (by decide) ‹_›).1|exact(gM (by decide) ‹_›).2.1|exact(gM (by decide) ‹_›).2.2|(rw[<-(w1 ‹_›).1];done)|(rw[<-(w1 ‹_›).2];done)|(rw[<-(w2 ‹_›).1];done)|(rw[<-(w2 ‹_›).2];done)|(rw[w3 ‹_›];done)|(rw[w4 ‹_›];done)|(rw[w5 ‹_›];done)|(rw[w6 ‹_›];done))
def aGg:Tab:=cJ [(199,aHT)] aF8
theorem aC3:aGg.Ok Tryz.prog:=aR aCX ⟨aKp,trivial⟩
theorem aA0(s t:Geo.S)(d:Int):(aX s t d).k=Geo.oI s t d:=by
 unfold aX;split
 ·rename_i h;rw[h];rfl
 ·rfl
theorem aCk(s t:Geo.S):(bH s t).k=Geo.dF s t:=by
 have hc:(cz).k=0:=rfl;have h1:∀v,(Oo v).k=1:=fun _=>rfl
 have e1:mb1 s t=true↔s.a=s.b/\Geo.onS t s.a=true:=by unfold mb1;simp
 have e2:mb1 t s=true↔t.a=t.b/\Geo.onS s t.a=true:=by unfold mb1;simp
 have e3:mb3 s t=true↔s.a=s.b\/t.a=t.b\/Geo.cP s.a s.b t.a≠0:=by unfold mb3;simp
 unfold bH Geo.dF qY;rw[<-qF];simp only[<-e1,<-e2,<-e3];cases Geo.bL s<;>cases Geo.bL t<;>simp only[Bool.not_true,Bool.not_false,Bool.and_true,Bool.and_false,if_true,Bool.false_eq_true,if_false,hc,ne_eq]
 repeat' split
 all_goals first|rfl|exact aA0 _ _ _
def aIe:Con:=con (ac aS (a1 aS)) (fun(_,_)=>[]) (fun(s,t)=> .int .i64 (Geo.dF s t)
 )
theorem aKK:aIe.Ok Tryz.prog 156:=bF (bP aC3) (raw:=bR) (fun(_,_)=>[]) (fun(_,_)=>⟨_,rfl⟩) fun(s,t) _=>bQ (q:=(bH s t).k=Geo.dF s t) (by kernel_rfl) (by
 exact aCk s t)
def aGK:Tab:=cJ [(156,aIe)] aGg
theorem aDp:aGK.Ok Tryz.prog:=aR aC3 ⟨aKK,trivial⟩
end
end Go.Proofs.YtdaeofhdgabhjaaGreat
namespace Go.Proofs.YtdaeofhdgabhjaaGreat
open Go.RowKit
set_option maxRecDepth 100000
noncomputable section
open Geo (nth)
def aIg:Con:=con (ac (aL .V) (a1 aN)) (fun(r,i)=>[i<r.length,r.length<=1000000]) (fun(r,i)=>aV.enc (Geo.prv r i)
 )
theorem aKM:aIg.Ok Tryz.prog 153:=bF (bP aDp) (raw:=bR) (fun(_,_)=>[]) (fun(_,_)=>⟨_,rfl⟩) fun(r,i) hp=>bQ (q:=aK ((i:Int)+r.length)/\aK ((i:Int)+r.length-1)/\(r.length:Int)≠0/\ix (Int.tmod ((i:Int)+r.length-1) (r.length:Int)) r.length/\(nth r (Int.tmod ((i:Int)+r.length-1) (r.length:Int)).toNat).x=(Geo.prv r i).x/\(nth r (Int.tmod ((i:Int)+r.length-1) (r.length:Int)).toNat).y=(Geo.prv r i).y) (by kernel_rfl) (by
 change i<r.length/\r.length<=1000000 at hp;have h:Int.tmod ((i:Int)+r.length-1) (r.length:Int)=(((i+r.length-1) % r.length:Nat):Int):=by
  rw[show(i:Int)+r.length-1=((i+r.length-1:Nat):Int) by omega,<-Int.ofNat_tmod]
 rw[h];exact⟨cW (by omega),cW (by omega),by omega,dU (by omega),rfl,rfl⟩)
def aGN:Tab:=cJ [(153,aIg)] aGK
theorem aDs:aGN.Ok Tryz.prog:=aR aDp ⟨aKM,trivial⟩
def aIf:Con:=con (ac (aL .V) (a1 aN)) (fun(r,i)=>[i<r.length,r.length<=1000000]) (fun(r,i)=>aV.enc (Geo.nxt r i)
 )
theorem aKL:aIf.Ok Tryz.prog 154:=bF (bP aDs) (raw:=bR) (fun(_,_)=>[]) (fun(_,_)=>⟨_,rfl⟩) fun(r,i) hp=>bQ (q:=aK ((i:Int)+1)/\(r.length:Int)≠0/\ix (((i+1) % r.length:Nat):Int) r.length/\(nth r ((i+1) % r.length)).x=(Geo.nxt r i).x/\(nth r ((i+1) % r.length)).y=(Geo.nxt r i).y) (by kernel_rfl) (by
 change i<r.length/\r.length<=1000000 at hp;exact⟨cW (by omega),by omega,dU (by omega),rfl,rfl⟩)
def aGM:Tab:=cJ [(154,aIf)] aGN
theorem aDr:aGM.Ok Tryz.prog:=aR aDs ⟨aKL,trivial⟩
def aES:Con:=aER (a1 (aL .V)) (fun r=>[r.length<=1000]) 46 .S (fun r=>Geo.aD r) (fun _=>[])
theorem aHx:aES.Ok Tryz.prog 155:=Uj (bP aDr) (raw:=bR) (fun r=>[lp 5 11 r.length (fun _=>[]) [21] (fun k=>[(3,.own 21 .S k)]) (fun k=>[(21,.row 46 .S ((Geo.aD r).take k))])]
  ) (fun _=>⟨[],rfl⟩) fun r hp=>bQ (q:=((r.length:Int)<2->Geo.aD r=([] :List Geo.S))/\
 (¬(r.length:Int)<2->(0=(0:Int)/\(0:Nat)=0/\List.take 0 (Geo.aD r)=([] :List Geo.S)/\(0:Nat)<=r.length)/\
  (∀x:Nat,x<=r.length->((x:Int)<r.length->ix (x:Int) r.length/\x<r.length/\r.length<=1000000/\x=(List.take x (Geo.aD r)).length/\(List.take x (Geo.aD r)).length+[(⟨(nth r x),(Geo.nxt r x)⟩:Geo.S)].length<=1000000/\aK ((x:Int)+1)/\(x:Int)+1=((x+1:Nat):Int)/\(List.take x (Geo.aD r)++[(⟨(nth r x),(Geo.nxt r x)⟩:Geo.S)]).length=x+1/\List.take x (Geo.aD r)++[(⟨(nth r x),(Geo.nxt r x)⟩:Geo.S)] =List.take (x+1) (Geo.aD r)/\x+1<=r.length/\r.length-(x+1)<r.length-x)/\
   (¬(x:Int)<r.length->List.take x (Geo.aD r)=Geo.aD r/\x=(List.take x (Geo.aD r)).length)))) (by kernel_rfl) (by
  change r.length<=1000 at hp;have e0:(r.length:Int)<2->Geo.aD r=[] :=fun h=>by unfold Geo.aD;rw[if_pos (by omega)]
  have e1:¬(r.length:Int)<2->(Geo.aD r).length=r.length:=fun h=>mG r (by omega)
  have e2:¬(r.length:Int)<2->∀x:Nat,(x:Int)<r.length->List.take x (Geo.aD r)++[⟨nth r x,Geo.nxt r x⟩] =List.take (x+1) (Geo.aD r):=fun h x hx=>by
   have hx':x<(Geo.aD r).length:=by rw[e1 h];omega
   rw[List.take_succ_eq_append_getElem hx',<-lW hx',uX (by omega) (by omega)];rfl
  have e3:¬(r.length:Int)<2->∀x:Nat,x<=r.length->(List.take x (Geo.aD r)).length=x:=fun h x hx=>by
   rw[List.length_take,e1 h];omega
  have e4:¬(r.length:Int)<2->∀x:Nat,¬(x:Int)<r.length->List.take x (Geo.aD r)=Geo.aD r:=fun h x hx=>List.take_of_length_le (by rw[e1 h];omega)
  repeat' first|with_reducible apply And.intro|with_reducible intro
  all_goals repeat with_reducible cases‹_/\_›
  all_goals first|assumption|rfl|exact trivial|exact nb ‹_› |exact nb' ‹_› |omega|exact dU (by omega)|(unfold ix;omega)|(unfold aK;omega)|exact bW _|exact aO ‹_› ‹_› |(refine aO ‹_› ?_;simp_all;done)|exact e0 ‹_› |exact e2 ‹_› _ ‹_› |exact e4 ‹_› _ ‹_› |exact(e3 ‹_› _ ‹_›).symm|(rw[List.length_append,e3 ‹_› _ ‹_›];simp;done)|(rw[e3 ‹_› _ ‹_›];simp;omega)|grind)
def aGL:Tab:=cJ [(155,aES)] aGM
theorem aDq:aGL.Ok Tryz.prog:=aR aDr ⟨aHx,trivial⟩
def aIh:Con:=con (a1 (aL .V)) (fun r=>[Geo.near r=true,r.length<=100000]) (fun r=> .int .i64 (Geo.eL r))
theorem aKN:aIh.Ok Tryz.prog 152:=bF (bP aDq) (raw:=bR) (fun r=>[lp 3 8 r.length (fun _=>[]) [] (fun k=>[(3,.int .i64 (ar r k))]) (fun _=>[])]
  ) (fun _=>⟨_,rfl⟩) fun r hp=>bQ (q:=(0=(0:Int)/\0=ar r 0/\(0:Nat)<=r.length)/\
 (∀x:Nat,x<=r.length->((x:Int)<r.length->ix (x:Int) r.length/\x<r.length/\r.length<=1000000/\bd 2000000000 (nth r x)/\bd 2000000000 (Geo.nxt r x)/\aK (ar r x+Geo.cross (nth r x) (Geo.nxt r x))/\aK ((x:Int)+1)/\(x:Int)+1=((x+1:Nat):Int)/\ar r x+Geo.cross (nth r x) (Geo.nxt r x)=ar r (x+1)/\x+1<=r.length/\r.length-(x+1)<r.length-x)/\
  (¬(x:Int)<r.length->ar r x=Geo.eL r))) (by kernel_rfl) (by
  change Geo.near r=true/\r.length<=100000 at hp;have hn:=fun i hi=> @mA r hp.1 i hi 2000000000
  have ha:=fun k (hk:k<=r.length)=>Kv hp.1 k hk
  have hs:=Jg r;have hE:∀x:Nat,¬(x:Int)<r.length->x<=r.length->ar r x=Geo.eL r:=fun x h1 h2=>by rw[show x=r.length by omega];rfl
  have hI:∀x:Nat,(x:Int)<r.length->aK (ar r x+Geo.cross (nth r x) (Geo.nxt r x)):=fun x h=>by
   have h1:=ha (x+1) (by omega)
   rw[hs x]at h1;exact cW (by unfold Geo.nxt;omega)
  repeat' first|with_reducible apply And.intro|with_reducible intro
  all_goals repeat with_reducible cases‹_/\_›
  all_goals first|assumption|rfl|exact trivial|exact nb ‹_› |exact nb' ‹_› |omega|exact dU (by omega)|(unfold ix;omega)|(unfold aK;omega)|exact bW _|exact aO ‹_› ‹_› |(refine aO ‹_› ?_;simp_all;done)|exact hn _ (by omega) (by decide)|exact hn _ (Nat.mod_lt _ (by omega)) (by decide)|exact hI _ ‹_› |exact hE _ ‹_› ‹_› |exact(hs _).symm|grind)
def aGO:Tab:=cJ [(152,aIh)] aGL
theorem aDt:aGO.Ok Tryz.prog:=aR aDq ⟨aKN,trivial⟩
def aHU:Con:=con (a1 aV) (fun _=>[]) (fun v=> .bool (!Geo.bG v 2000)
 )
theorem aKq:aHU.Ok Tryz.prog 198:=bF (bP aDt) (raw:=bR) (fun _=>[]) (fun _=>⟨_,rfl⟩) fun v _=>bQ (q:=(0:Int)<=2000/\(2000:Int)<=9000000000000000000/\(!Geo.bG v 2000)=(!Geo.bG v 2000)) (by kernel_rfl) (by
 exact⟨by decide,by decide,rfl⟩)
def aGh:Tab:=cJ [(198,aHU)] aGO
theorem aC4:aGh.Ok Tryz.prog:=aR aDt ⟨aKq,trivial⟩
def aF(f:Nat):Ar Unit where
 enc _:= .fnp f [] []
 dec s:=match s with
  | .fnp g [] [] =>(match Nat.beq g f with|true=>some ()|false=>none)
  |_=>none
 ok s a h:=by
  split at h
  ·split at h<;>cases h;rename_i e;rw[Nat.eq_of_beq_eq_true e]
  ·cases h
 pl _:=⟨_,rfl⟩
def fI{α:Type}(q:α->Bool)(l:List α):Int:=match l.findIdx? q with
 |some i=>(i:Int)
 |none=> -1
theorem vQ{t:LT}{l:List t.ty}{q:t.ty->Bool}{k:Nat}(hk:k<l.length)(h:q (t.nth l k)=true)(hu:bE (fun j=>q (t.nth l j)=false) k):(k:Int)=fI q l:=by
 have e:l.findIdx? q=some k:=by
  rw[List.findIdx?_eq_some_iff_getElem];refine⟨hk,by rw[<-t.nth_eq l hk];exact h,fun j hj=> ?_⟩
  have:=hu j hj;dsimp only at this;rw[t.nth_eq l (by omega)]at this
  rw[this];simp
 unfold fI;rw[e]
theorem uP{t:LT}{l:List t.ty}{q:t.ty->Bool}(hu:bE (fun j=>q (t.nth l j)=false) l.length): -1=fI q l:=by
 have e:l.findIdx? q=none:=by
  rw[List.findIdx?_eq_none_iff];intro x hx;obtain⟨j,hj,rfl⟩:=List.getElem_of_mem hx;have:=hu j hj;dsimp only at this;rwa[t.nth_eq l hj]at this
 unfold fI;rw[e]
theorem xL{α:Type}(q:α->Bool)(l:List α):decide (0<=fI q l)=l.any q:=by
 unfold fI;cases e:l.findIdx? q with
 |none=>
  rw[List.findIdx?_eq_none_iff]at e;symm;show l.any q=decide ((0:Int)<= -1);rw[List.any_eq_false.2 (fun x hx=>by rw[e x hx];simp)];rfl
 |some i=>
  obtain⟨h1,h2,_⟩:=List.findIdx?_eq_some_iff_getElem.1 e;show decide (0<=(i:Int))=_;rw[decide_eq_true (by omega),List.any_eq_true.2 ⟨_,List.getElem_mem h1,h2⟩]
def aHO:Con:=con (ac (aL .V) (a1 (aF 198))) (fun(l,_)=>[l.length<=1000000]) (fun(l,_)=> .int .i64 (fI (fun v=> !Geo.bG v 2000) l))
theorem aKk:aHO.Ok Tryz.prog 215:=bF (bP aC4) (raw:=bR) (fun(l,_)=>[cnt 2 8 l.length (bE fun j=>(!Geo.bG (nth l j) 2000)=false)]
  ) (fun(_,_)=>⟨_,rfl⟩) fun(l,u) hp=>bQ (q:=(0=(0:Int)/\(0:Nat)<=l.length/\bE (fun j=>(!Geo.bG (nth l j) 2000)=false) 0)/\
 (∀x:Nat,x<=l.length/\bE (fun j=>(!Geo.bG (nth l j) 2000)=false) x->((x:Int)<l.length->ix (x:Int) l.length/\((!Geo.bG (nth l x) 2000)=true->(x:Int)=fI (fun v=>(!Geo.bG v 2000)) l)/\
   ((!Geo.bG (nth l x) 2000)=false->aK ((x:Int)+1)/\(x:Int)+1=((x+1:Nat):Int)/\x+1<=l.length/\bE (fun j=>(!Geo.bG (nth l j) 2000)=false) (x+1)/\l.length-(x+1)<l.length-x))/\
  (¬(x:Int)<l.length-> -1=fI (fun v=>(!Geo.bG v 2000)) l))) (by kernel_rfl) (by
  change l.length<=1000000 at hp
  repeat' first|with_reducible apply And.intro|with_reducible intro
  all_goals repeat with_reducible cases‹_/\_›
  all_goals first|assumption|rfl|exact trivial|exact nb ‹_› |exact nb' ‹_› |omega|exact dU (by omega)|(unfold ix;omega)|(unfold aK;omega)|exact bW _|exact aO ‹_› ‹_› |(refine aO ‹_› ?_;simp_all;done)|exact vQ (t:= .V) (by omega) ‹_› ‹_› |(obtain rfl:_=l.length:=Nat.le_antisymm ‹_› (by omega);exact uP (t:= .V) ‹_›)|grind)
def aGa:Tab:=cJ [(215,aHO)] aGh
theorem aCZ:aGa.Ok Tryz.prog:=aR aC4 ⟨aKk,trivial⟩
def aHV:Con:=con (ac (aL .V) (a1 (aF 198))) (fun(l,_)=>[l.length<=1000000]) (fun(l,_)=> .bool (l.any fun v=> !Geo.bG v 2000)
 )
theorem aKr:aHV.Ok Tryz.prog 197:=bF (bP aCZ) (raw:=bR) (fun(_,_)=>[]) (fun(_,_)=>⟨_,rfl⟩) fun(l,u) hp=>bQ (q:=l.length<=1000000/\decide (0<=fI (fun v=>(!Geo.bG v 2000)) l)=List.any l (fun v=>(!Geo.bG v 2000))) (by kernel_rfl) (by
 change l.length<=1000000 at hp;exact⟨hp,xL _ _⟩)
def aGi:Tab:=cJ [(197,aHV)] aGa
theorem aC5:aGi.Ok Tryz.prog:=aR aCZ ⟨aKr,trivial⟩
def aIi:Con:=con (a1 (aL .V)) (fun l=>[l.length<=1000000]) (fun l=> .bool (Geo.near l)
 )
theorem aKO:aIi.Ok Tryz.prog 151:=bF (bP aC5) (raw:=bR) (fun _=>[]) (fun _=>⟨_,rfl⟩) fun l hp=>bQ (q:=l.length<=1000000/\(!List.any l (fun v=>(!Geo.bG v 2000)))=Geo.near l) (by kernel_rfl) (by
 change l.length<=1000000 at hp;refine⟨hp,?_⟩;unfold Geo.near;rw[List.any_eq_not_all_not];simp)
def aGP:Tab:=cJ [(151,aIi)] aGi
theorem aDu:aGP.Ok Tryz.prog:=aR aC5 ⟨aKO,trivial⟩
def tP(r:Geo.aH)(i:Nat):Prop:=¬Geo.cP (Geo.prv r i) (nth r i) (Geo.nxt r i)=0
def fQ(r:Geo.aH)(i k:Nat):Bool:=(decide (¬(k:Int)=i+1)&&(decide (¬(i:Int)=0)||decide (¬(k:Int)=r.length-1)))&&decide (¬Geo.dF (Geo.dB r i) (Geo.dB r k)=0)
theorem up2{p:Nat->Nat->Prop}{i k n:Nat}(h:∀j,i<j->j<k->p i j)(hk:¬(k:Int)<n):∀j,i<j->j<n->p i j:=fun j h1 h2=>h j h1 (by omega)
theorem rL(r:Geo.aH):Geo.cI r=true↔3<=r.length/\r.length<=40/\Geo.near r=true/\0<Geo.eL r/\(∀i,i<r.length->tP r i)/\(∀i k,i<k->k<r.length->fQ r i k=false):=by
 unfold Geo.cI tP fQ;simp only[Bool.and_eq_true,decide_eq_true_eq,List.all_eq_true,List.mem_range,Bool.or_eq_true,bne_iff_ne,beq_iff_eq,Bool.and_eq_false_imp,decide_eq_false_iff_not,ne_eq,and_assoc,Decidable.not_not];constructor
 ·rintro⟨h1,h2,h3,h4,h5,h6⟩;refine⟨h1,h2,h3,h4,h5,fun i k hi hk h=> ?_⟩
  rcases h6 i (by omega) k hk with(h7|h7)|h7
  ·rcases h7 with h7|h7<;>omega
  ·omega
  ·exact h7
 ·rintro⟨h1,h2,h3,h4,h5,h6⟩;refine⟨h1,h2,h3,h4,h5,fun i hi k hk=> ?_⟩
  by_cases h7:k<=i
  ·exact .inl (.inl (.inl h7))
  ·by_cases h8:k=i+1
   ·exact .inl (.inl (.inr h8))
   ·by_cases h9:i=0/\k=r.length-1
    ·exact .inl (.inr h9)
    ·exact .inr (h6 i k (by omega) hk ⟨by omega,by omega⟩)
def c83:Con:=con (a1 (aL .V)) (fun r=>[r.length<=1000]) (fun r=> .bool (Geo.cI r))
theorem k83:c83.Ok Tryz.prog 83:=bF (bP aDu) (raw:=bR) (fun r=>[jP 4 [3<=r.length,r.length<=40,Geo.near r=true,0<Geo.eL r],cnt 5 29 r.length (bE (tP r)),lp 12 47 r.length (fun i=>[bE (fun i=>∀k,i<k->k<r.length->fQ r i k=false) i]) [] (fun _=>[]) (fun _=>[]) fun i=>[(15,.mk Nat (fun F _=>vO F 8) [] (fun k=>[i<k,k<=r.length,∀j,i<j->j<k->fQ r i j=false]) (fun k=>[(8,.int .i64 (k:Int))]) (fun _=>[]) (fun k=>r.length-k) fun k=>[jb 18 82 (fQ r i k)])]]
  ) (fun _=>⟨_,rfl⟩) fun r hp=>bQ (q:=(((r.length:Int)<3->false=Geo.cI r)/\
  (¬(r.length:Int)<3->(40<(r.length:Int)->false=Geo.cI r)/\
   (¬40<(r.length:Int)->r.length<=1000000/\((!Geo.near r)=true->false=Geo.cI r)/\
    ((!Geo.near r)=false->Geo.near r=true/\r.length<=100000/\(Geo.eL r<=0->false=Geo.cI r)/\
     (¬Geo.eL r<=0->(3:Nat)<=r.length/\r.length<=40/\Geo.near r=true/\0<Geo.eL r)))))/\
 (∀y:Unit,(3:Nat)<=r.length/\r.length<=40/\Geo.near r=true/\0<Geo.eL r->(0=(0:Int)/\(0:Nat)<=r.length/\bE (tP r) 0)/\
  (∀x:Nat,x<=r.length/\bE (tP r) x->((x:Int)<r.length->ix (x:Int) r.length/\x<r.length/\r.length<=1000000/\x<r.length/\r.length<=1000000/\bd 1000000000 (Geo.prv r x)/\bd 1000000000 (nth r x)/\bd 1000000000 (Geo.nxt r x)/\(Geo.cP (Geo.prv r x) (nth r x) (Geo.nxt r x)=0->false=Geo.cI r)/\
    (¬Geo.cP (Geo.prv r x) (nth r x) (Geo.nxt r x)=0->aK ((x:Int)+1)/\(x:Int)+1=((x+1:Nat):Int)/\x+1<=r.length/\bE (tP r) (x+1)/\r.length-(x+1)<r.length-x))/\
   (¬(x:Int)<r.length->r.length<=1000/\(0=(0:Int)/\(0:Nat)<=r.length/\bE (fun i=>∀k:Nat,i<k->k<r.length->fQ r i k=false) 0)/\
    (∀x_1:Nat,x_1<=r.length/\bE (fun i=>∀k:Nat,i<k->k<r.length->fQ r i k=false) x_1->((x_1:Int)<r.length->aK ((x_1:Int)+1)/\((x_1:Int)+1=((x_1+1:Nat):Int)/\x_1<x_1+1/\x_1+1<=r.length/\(∀j:Nat,x_1<j->j<x_1+1->fQ r x_1 j=false))/\
      (∀x_2:Nat,x_1<x_2/\x_2<=r.length/\(∀j:Nat,x_1<j->j<x_2->fQ r x_1 j=false)->((x_2:Int)<r.length->(aK ((x_1:Int)+1)/\(¬(x_2:Int)=x_1+1->(¬(x_1:Int)=0->ix (x_1:Int) (Geo.aD r).length/\x_1<(Geo.aD r).length/\ix (x_2:Int) (Geo.aD r).length/\x_2<(Geo.aD r).length/\decide (¬Geo.dF (bK (Geo.aD r) x_1) (bK (Geo.aD r) x_2)=0)=fQ r x_1 x_2)/\
          (¬(¬(x_1:Int)=0)->aK ((r.length:Int)-1)/\(¬(x_2:Int)=r.length-1->ix (x_1:Int) (Geo.aD r).length/\x_1<(Geo.aD r).length/\ix (x_2:Int) (Geo.aD r).length/\x_2<(Geo.aD r).length/\decide (¬Geo.dF (bK (Geo.aD r) x_1) (bK (Geo.aD r) x_2)=0)=fQ r x_1 x_2)/\
           (¬(¬(x_2:Int)=r.length-1)->false=fQ r x_1 x_2)))/\
         (¬(¬(x_2:Int)=x_1+1)->false=fQ r x_1 x_2))/\
        (∀y_1:Unit,(fQ r x_1 x_2=true->false=Geo.cI r)/\
         (fQ r x_1 x_2=false->aK ((x_2:Int)+1)/\(x_2:Int)+1=((x_2+1:Nat):Int)/\x_1<x_2+1/\x_2+1<=r.length/\(∀j:Nat,x_1<j->j<x_2+1->fQ r x_1 j=false)/\r.length-(x_2+1)<r.length-x_2)))/\
       (¬(x_2:Int)<r.length->aK ((x_1:Int)+1)/\(x_1:Int)+1=((x_1+1:Nat):Int)/\x_1+1<=r.length/\bE (fun i=>∀k:Nat,i<k->k<r.length->fQ r i k=false) (x_1+1)/\r.length-(x_1+1)<r.length-x_1)))/\
     (¬(x_1:Int)<r.length->true=Geo.cI r)))))) (by kernel_rfl) (by
  change r.length<=1000 at hp;have iff:=rL r;have hf:(Geo.cI r=true->False)->false=Geo.cI r:=fun h=>by cases e:Geo.cI r;rfl;exact(h e).elim
  have el:3<=r.length->(Geo.aD r).length=r.length:=fun h=>mG r (by omega)
  have en:Geo.near r=true->∀i,i<r.length->bd 1000000000 (nth r i):=fun h i hi=>mA h hi
  have ep:3<=r.length->∀i,i<r.length->bK (Geo.aD r) i=Geo.dB r i:=fun h i hi=>uX (by omega) hi
  have hE:3<=r.length->r.length<=40->Geo.near r=true->0<Geo.eL r->∀x y:Nat,¬(x:Int)<r.length->¬(y:Int)<r.length->bE (tP r) x->bE (fun i=>∀k:Nat,i<k->k<r.length->fQ r i k=false) y->true=Geo.cI r:=fun h1 h2 h3 h4 x y hx hy h5 h6=>
   (iff.2 ⟨h1,h2,h3,h4,fun i hi=>h5 i (by omega),fun i k hi hk=>h6 i (by omega) k hi hk⟩).symm
  have b0:∀x y:Nat,¬(¬(y:Int)=x+1)->false=fQ r x y:=fun x y h=>by unfold fQ;rw[decide_eq_false h];rfl
  have b1:∀x y:Nat,¬(¬(x:Int)=0)->¬(¬(y:Int)=r.length-1)->false=fQ r x y:=fun x y h1 h2=>by unfold fQ;rw[decide_eq_false h1,decide_eq_false h2];simp
  have b2:∀x y:Nat,3<=r.length->¬(y:Int)=x+1->¬(x:Int)=0->(x:Int)<r.length->(y:Int)<r.length->decide (¬Geo.dF (bK (Geo.aD r) x) (bK (Geo.aD r) y)=0)=fQ r x y:=fun x y h0 h1 h2 h3 h4=>by
   unfold fQ;rw[decide_eq_true h1,decide_eq_true h2,ep h0 x (by omega),ep h0 y (by omega)];rfl
  have b3:∀x y:Nat,3<=r.length->¬(y:Int)=x+1->¬(y:Int)=r.length-1->(x:Int)<r.length->(y:Int)<r.length->decide (¬Geo.dF (bK (Geo.aD r) x) (bK (Geo.aD r) y)=0)=fQ r x y:=fun x y h0 h1 h2 h3 h4=>by
   unfold fQ;rw[decide_eq_true h1,decide_eq_true h2,ep h0 x (by omega),ep h0 y (by omega),Bool.or_true];rfl
  repeat' first|with_reducible apply And.intro|with_reducible intro
  all_goals repeat with_reducible cases‹_/\_›
  all_goals first|assumption|rfl|exact trivial|exact nb ‹_› |exact nb' ‹_› |omega|exact dU (by omega)|(unfold ix;omega)|(unfold aK;omega)|exact bW _|exact aO ‹_› ‹_› |(refine aO ‹_› ?_;simp_all;done)|exact en ‹_› _ (by omega)|exact en ‹_› _ (Nat.mod_lt _ (by omega))|(rw[el ‹_›];exact eC (by omega))|(rw[el ‹_›];omega)|exact b0 _ _ ‹_› |exact b1 _ _ ‹_› ‹_› |exact b2 _ _ ‹_› ‹_› ‹_› ‹_› ‹_› |exact b3 _ _ ‹_› ‹_› ‹_› ‹_› ‹_› |exact hE ‹_› ‹_› ‹_› ‹_› _ _ ‹_› ‹_› ‹_› ‹_› |(refine hf fun h=> ?_;have h:=iff.1 h;first|omega|(have h4:=‹(!Geo.near r)=true›;rw[h.2.2.1]at h4;cases h4)|(exact absurd ‹Geo.cP _ _ _=0› (h.2.2.2.2.1 _ (by omega)))|(have h4:=‹fQ r _ _=true›;rw[h.2.2.2.2.2 _ _ ‹_<_› (by omega)]at h4;cases h4))|exact aO ‹_› (show tP r _ from‹¬Geo.cP _ _ _=0›)|(intro j h1 h2;omega)|exact aO ‹_› (up2 (p:=fun i k=>fQ r i k=false) ‹_› ‹_›)|grind)
def t83:Tab:=cJ [(83,c83)] aGP
theorem aFG:t83.Ok Tryz.prog:=aR aDu ⟨k83,trivial⟩
end
end Go.Proofs.YtdaeofhdgabhjaaGreat
namespace Go.Proofs.YtdaeofhdgabhjaaGreat
open Go.RowKit
set_option maxHeartbeats 2000000 in
theorem aA9(n:Nat)(w:World)(h0:0<n)(hn:n<=100000):
  Calls Tryz.prog 207 #[.slice none 0 0,.int .i64 n] w fun e w'=>∃v,e= .returned v/\w'.ownsRow w.heap.size 44 2 v 0 []/\Below w.heap.size w w':=by
 have hinf:(Tryz.prog.info? 44).map (fun i=>(i.zero,i.size,i.bytes))=some (some (.agg #[.int .i64 0,.int .i64 0]),2,16):=by kernel_rfl
 obtain⟨i,hi1,hi2⟩:=Option.map_eq_some_iff.1 hinf;simp only[Prod.mk.injEq]at hi2;obtain⟨i1,i2,i3⟩:=hi2;have hold:(Builtin.firstCells i.size 0 (.slice none 0 0)).run Tryz.prog w.drew= .ok ([] :List Value).toArray w.drew:=run_firstCells_none w.drew i.size 0 0 0;have hrz:∀ty,(Builtin.append_ #[23,3] ty #[.slice none 0 0,.int .i64 n]).run Tryz.prog w= .ok (.slice (some ⟨w.heap.size,0,none⟩) n (grownCap w n 0 44))
   (w.drew.alloc (.cells (#[] ++Builtin.zeroCells #[.int .i64 0,.int .i64 0] n++Builtin.zeroCells #[.int .i64 0,.int .i64 0] (grownCap w n 0 44-n)) 44)):=fun ty=>by
  have h:=Lib.run_append_grow_zeros w 23 3 ty 44 i (.agg #[.int .i64 0,.int .i64 0]) .i64 .i64 Tryz.underlying23 Tryz.underlying3 hi1 i1 none 0 0 [] hold n h0 (by omega) (by omega) (by omega) (by rw[i3];omega)
   (by unfold Builtin.nextslicecap;rw[if_pos (by omega),i3];omega)
  rw[Nat.zero_add]at h;exact h
 have hGn:n<=grownCap w n 0 44:=grownCap_ge w _ _ _;have hGm:=grownCap_le_maxLen w n 0 44 (by unfold maxLen;omega)
 obtain⟨G,hG⟩:∃G,G=grownCap w n 0 44:=⟨_,rfl⟩;rw[<-hG]at hrz hGn hGm;have hG63:G<=9223372036854775807:=by unfold maxLen at hGm;omega
 have hzc:∀m,(Builtin.zeroCells #[.int .i64 0,.int .i64 0] m).size=m*2:=by intro m;unfold Builtin.zeroCells;simp
 obtain⟨cur,hcur⟩:∃cur,cur=(#[] ++Builtin.zeroCells #[.int .i64 0,.int .i64 0] n++Builtin.zeroCells #[.int .i64 0,.int .i64 0] (G-n):Array Value):=⟨_,rfl⟩;have hcs:cur.size=G*2:=by rw[hcur];simp[hzc];omega
 rw[<-hcur]at hrz;have hrow:(w.drew.alloc (.cells cur 44)).ownsRow w.heap.size 44 2 (.slice (some ⟨w.heap.size,0,none⟩) 0 G) 0 [] :=
  ⟨by simp,.inr ⟨w.heap.size,G,cur,rfl,Nat.le_refl _,Blk.new w.drew 44 cur,by omega,hGm,hcs,by simp⟩⟩
 have hbl:Below w.heap.size w (w.drew.alloc (.cells cur 44)):=((Below.refl _ _).drew).alloc (Nat.le_refl _) _;clear hold hinf hi1 i1 i2 i3 hcur hcs hzc hG hGm
 go_enter Tryz.func207,Tryz.ntmps207
 go_wp2_with (at_builtin;refine Lib.wpList_append_run _ rfl _ _ _ _ rfl _ _ rfl rfl _ _ (hrz _) ?_)
 all_goals
  go_ret
  exact⟨_,rfl,hrow,hbl⟩
theorem Vm{n:Nat}(h0:0<n)(hn:n<=100000):aEX Tryz.prog 207 [.int .i64 n] 44 2 [] 0 [] :=by
 refine⟨by kernel_rfl,by decide,fun C w vs hC h=> ?_⟩
 unfold bO at h;obtain⟨v,r,rfl,h1,h2⟩:=h;unfold aU at h1;unfold bO at h2;subst h1 h2;refine(aA9 n w h0 hn).mono ?_;rintro e w' ⟨v,rfl,⟨_,h3⟩,hb⟩;rcases h3 with⟨rfl,_⟩|⟨g,cap,cur,rfl,h4,h5,_,h6,h7,_⟩
 ·exact⟨_,[],none,0,rfl,hb,by unfold bO;rfl,.inl ⟨rfl,rfl,rfl,rfl,rfl⟩⟩
 ·exact⟨_,[],some g,cap,rfl,hb,by unfold bO;rfl,.inr ⟨g,cur,rfl,rfl,Nat.zero_le _,h4,h5,h7,Nat.zero_le _,h6,fun i x hi=>by simp at hi⟩⟩
def aEO:List SV->Option Nat
 |[.nil,.int .i64 (.ofNat n)] =>some n
 |_=>none
theorem Wz{s:List SV}{n:Nat}(h:aEO s=some n):s=[.nil,.int .i64 (n:Int)] :=by
 unfold aEO at h;split at h
 ·cases h;rfl
 ·cases h
def aHR:Con:=⟨Nat,aEO,fun n=>[0<n,n<=100000],.ownN 44 .V (fun _=>[])⟩
theorem aKn:aHR.Ok Tryz.prog 207:=by
 intro s n hd hp;rw[Wz hd];exact⟨[.int .i64 ((show Nat from n:Nat):Int)],rfl,Vm (hp _ List.mem_cons_self) (hp _ (List.mem_cons_of_mem _ List.mem_cons_self))⟩
end Go.Proofs.YtdaeofhdgabhjaaGreat
