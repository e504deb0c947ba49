/- Part 6 of what the statement stands on -/
import Derived.Test.YtdnhebjljnfjaaaGreatOV5
set_option linter.all false
set_option maxRecDepth 100000
set_option maxHeartbeats 8000000
open Go.Proofs.Tryz renaming prog->aG
open List renaming mem_cons->bc,not_mem_nil->dM,mem_map->cC,mem_range->dR,getD_eq_getElem?_getD->b8,getElem?_eq_getElem->c7,length_pos_of_mem->RA
open Bool renaming and_eq_true->bv
open Nat renaming le_refl->bA,lt_trichotomy->gn,dvd_gcd->DA,zero_le->cu
open Int renaming toNat_natCast->jZ,mul_comm->C3
open Go.RowKit
open Go.Proofs.YtdnhebjljnfjaaaGreat.Geo
open Go.Proofs.YtdnhebjljnfjaaaGreat.Geo renaming S->aBZ
namespace Go.Proofs.YtdnhebjljnfjaaaGreat
noncomputable section
def awX:Cx:=cxW wy
def JD:awX.Ok:=qQ (λf c h=>by cases h)
abbrev awG(l:List (Nat×EC)):d9:=wv awX (wR l) (wY aG) 100 9
def awR(l:List (Nat×EC))(f:Nat)(a:List SV):Option SV:=tq awX (awG l) (wY aG) 100 f a
def rI(l:List (Nat×EC)):Prop:=∀q∈l,q.2.c.Ok aG q.1
def rI.cons{l:List (Nat×EC)}{f:Nat}{e:EC}(h:e.c.Ok aG f)(hl:rI l):rI ((f,e)::l):=λq hq=>by
 rcases bc.1 hq with rfl|hq
 .exact h
 .exact hl q hq
def kw{l:List (Nat×EC)}(hl:rI l){f:Nat}{α:Type}{A:Arl α}(x0:α){t:α->Bool}{v:SV}(ht:∀x,t x=true->x=x0)(hv:isP v=true)(h:awR l f (A.enc x0)=some v):(EC.at A.dec t false v).c.Ok aG f:=
 X3 JD (GO JD (E4 hl) (FV _) 9) (FV _) x0 ht hv h
def awQ(n d:Int):SV:= .agg [.int .i64 n,.int .i64 d]
def awK(v:SV):SV:= .tup [v,.int .i64 0]
def MK:EC:=EC.at (a1 aPl).dec (λp=>decide (p=awP)) false (.lit true)
def WJ:MK.c.Ok aG 70:=kw (l:=[]) (λq hq=>by cases hq) awP (λx h=>of_decide_eq_true h) rfl (by kernel_rfl)
def xU:Arl (Int×Int×Unit):=ac aI (ac aI a0)
def uC(a b:Int)(x:Int×Int×Unit):Bool:=decide (x.1=a)&&decide (x.2.1=b)
def AX{a b:Int}(x:Int×Int×Unit)(h:uC a b x=true):x=(a,b,()):=by obtain⟨c,d,u⟩:=x;unfold uC at h;simp only[bv,decide_eq_true_eq]at h;obtain⟨rfl,rfl⟩:=h;rfl
def Zz:awR [] 142 (xU.enc (0,2,()))=some (awK (awQ 0 1)):=by kernel_rfl
def Zy:awR [] 142 (xU.enc (-4,-2,()))=some (awK (awQ 2 1)):=by kernel_rfl
def Zx:awR [] 142 (xU.enc (0,-2,()))=some (awK (awQ 0 1)):=by kernel_rfl
def JF:EC:=EC.pts xU.dec [(uC 0 2,awK (awQ 0 1)),(uC (-4) (-2),awK (awQ 2 1)),(uC 0 (-2),awK (awQ 0 1))]
def Ug:JF.c.Ok aG 142:=X5 λq hq=>by
 simp only[bc,dM,or_false]at hq;rcases hq with rfl|rfl|rfl
 .exact kw (l:=[]) (λq hq=>by cases hq) (0,2,()) AX rfl Zz
 .exact kw (l:=[]) (λq hq=>by cases hq) (-4,-2,()) AX rfl Zy
 .exact kw (l:=[]) (λq hq=>by cases hq) (0,-2,()) AX rfl Zx
def MM:EC:=EC.at (a1 (aL .V)).dec (λl=>decide (l=[⟨0,1⟩,⟨0,1⟩,⟨2,1⟩,⟨0,1⟩,⟨0,1⟩,⟨0,1⟩])) false (awK (awQ 2 1))
def WL:MM.c.Ok aG 28:=kw (l:=[]) (λq hq=>by cases hq) [⟨0,1⟩,⟨0,1⟩,⟨2,1⟩,⟨0,1⟩,⟨0,1⟩,⟨0,1⟩] (λx h=>of_decide_eq_true h) rfl (by kernel_rfl)
def awB:List (Nat×EC):=[(70,MK),(142,JF),(28,MM),(92,MJ),(97,MI),(163,JE)]
def wN:rI awB:= .cons WJ (.cons Ug (.cons WL (.cons WI (.cons WH (.cons Uf λq hq=>by cases hq)))))
def QU:Arl (Pl×Int×Unit):=ac aPl (ac aI a0)
def xT(n:Int)(x:Pl×Int×Unit):Bool:=decide (x.1=awP)&&decide (x.2.1=n)
def Hm{n:Int}(x:Pl×Int×Unit)(h:xT n x=true):x=(awP,n,()):=by obtain⟨c,d,u⟩:=x;unfold xT at h;simp only[bv,decide_eq_true_eq]at h;obtain⟨rfl,rfl⟩:=h;rfl
def MN:EC:=EC.at QU.dec (xT 1) false (awK (awQ 2 1))
def WM:MN.c.Ok aG 27:=kw wN (awP,1,()) Hm rfl (by kernel_rfl)
def ML:EC:=EC.at QU.dec (xT 1) false (awK (.agg [.lst .V awS.outer,.sl 0 []]))
def WK:ML.c.Ok aG 30:=kw wN (awP,1,()) Hm rfl (by kernel_rfl)
def aBQ:Arl (Pl×V×Unit):=ac aPl (ac aV a0)
def MO:EC:=EC.at aBQ.dec (λx=>decide (x.1=awP)&&decide (x.2.1=⟨1,1⟩)) false (.tup [.int .i64 1,.int .i64 2])
def WN:MO.c.Ok aG 22:=kw wN (awP,⟨1,1⟩,()) (λx h=>by obtain⟨c,d,u⟩:=x;simp only[bv,decide_eq_true_eq]at h;obtain⟨rfl,rfl⟩:=h;rfl) rfl (by kernel_rfl)
def aBR:Arl (Pl×Pl×Unit):=ac aPl (ac aPl a0)
def MP:EC:=EC.at aBR.dec (λx=>decide (x.1=awP)&&decide (x.2.1=awP)) false (.lit true)
def WO:MP.c.Ok aG 17:=kw wN (awP,awP,()) (λx h=>by obtain⟨c,d,u⟩:=x;simp only[bv,decide_eq_true_eq]at h;obtain⟨rfl,rfl⟩:=h;rfl) rfl (by kernel_rfl)
def awC:List (Nat×EC):=[(13,MQ),(27,MN),(30,ML),(22,MO),(17,MP)]
def Ym:rI awC:= .cons WP (.cons WM (.cons WK (.cons WN (.cons WO λq hq=>by cases hq))))
def aBS:awR awC 11 [] =some (.lit true):=by kernel_rfl
def QH:Con:=con a0 (λ_=>[]) (λ_=> .bool true)
def aBB:QH.Ok aG 11:=by
 intro xs u hd _;have e:=kw Ym (f:=11) (A:=a0) () (t:=λ_=>true) (λ_ _=>rfl) rfl aBS xs () (by have:a0.dec xs=some u:=hd;unfold EC.at;dsimp only;rw[this]) (λp hp=>(dM hp).elim)
 exact e
end
noncomputable def aAk:Tab:=ao [(11,QH),(13,P7)] Nj
def Y6:aAk.Ok aG:=ap Y1 ⟨aBB,Oh,trivial⟩
def Gj{a b t:Rat}(h0:0<=t)(h1:t<=1):(a<=b->a<=a+t*(b-a)/\a+t*(b-a)<=b)/\(b<=a->b<=a+t*(b-a)/\a+t*(b-a)<=a):=by
 have k:∀{x y:Rat},0<=x->0<=y->0<=x*y:=λhx hy=>Rat.mul_nonneg hx hy;constructor
 .intro h;have e1:=k h0 (show 0<=b-a by grind);have e2:=k (show 0<=1-t by grind) (show 0<=b-a by grind);constructor<;>grind
 .intro h;have e1:=k h0 (show 0<=a-b by grind);have e2:=k (show 0<=1-t by grind) (show 0<=a-b by grind);constructor<;>grind
def UB{s:S}{v:V}:eo s v=true↔((s.a.x<=v.x/\v.x<=s.b.x)\/(s.b.x<=v.x/\v.x<=s.a.x))/\((s.a.y<=v.y/\v.y<=s.b.y)\/(s.b.y<=v.y/\v.y<=s.a.y)):=by unfold eo;simp only[bv,decide_eq_true_eq];omega
def f7{s:S}(h:SgOk s){v:V}:onS s v=true↔onG s (rv v):=by
 unfold onS;rw[ru h,Bool.true_and,bv,UB,beq_iff_eq,zo];have cx:∀a b:Int,a<=b↔(a:Rat)<=b:=λa b=>by exact_mod_cast Iff.rfl
 constructor
 .rintro⟨⟨hx,hy⟩,hc⟩;rw[gQ h.ne];refine⟨(lZ s _).2 hc,?_⟩;have hl:=wb h.ne;have hc2:=(lZ s (rv v)).2 hc;rw[cx,cx,cx,cx]at hx hy;have ex:((rv s.a).x=(s.a.x:Rat)/\(rv s.a).y=(s.a.y:Rat))/\((rv s.b).x=(s.b.x:Rat)/\(rv s.b).y=(s.b.y:Rat))/\(rv v).x=(v.x:Rat)/\(rv v).y=(v.y:Rat):=⟨⟨rfl,rfl⟩,⟨rfl,rfl⟩,rfl,rfl⟩;generalize (s.a.x:Rat)=ax at*;generalize (s.a.y:Rat)=ay at*;generalize (s.b.x:Rat)=bx at*;generalize (s.b.y:Rat)=b_y at*;generalize (v.x:Rat)=vx at*;generalize (v.y:Rat)=vy at*;have key:∀p q c:Q2,ltQ p q->cr p q c=0->((p.x<=c.x/\c.x<=q.x)\/(q.x<=c.x/\c.x<=p.x))->p.y<=c.y/\c.y<=q.y->¬ltQ c p/\¬ltQ q c:=by
   intro p q c h1 h2 h3 h4;unfold ltQ cr at*;by_cases e:p.y=q.y
   .constructor<;>grind
   .constructor
    .rintro(h5|⟨h5,h6⟩)
     .grind
     .have:(q.y-p.y)*(c.x-p.x)=0:=by grind
      rcases Rat.mul_eq_zero.1 this with h7|h7<;>grind
    .rintro(h5|⟨h5,h6⟩)
     .grind
     .have:(q.y-p.y)*(c.x-q.x)=0:=by grind
      rcases Rat.mul_eq_zero.1 this with h7|h7<;>grind
  rcases zc s with⟨h1,h2⟩|⟨h1,h2⟩
  .rw[<-h1,<-h2]at hl hc2|-;have:(rv s.a).y<=(rv s.b).y:=by unfold ltQ at hl;grind
   exact key _ _ _ hl hc2 (by grind) (by grind)
  .rw[<-h1,<-h2]at hl hc2|-;have:(rv s.b).y<=(rv s.a).y:=by unfold ltQ at hl;grind
   exact key _ _ _ hl hc2 (by grind) (by grind)
 .rintro⟨t,h0,h1,h2,h3⟩;have bx:=Gj (a:=(s.a.x:Rat)) (b:=s.b.x) h0 h1;have b_y:=Gj (a:=(s.a.y:Rat)) (b:=s.b.y) h0 h1;have h2:(v.x:Rat)=s.a.x+t*(s.b.x-s.a.x):=h2;have h3:(v.y:Rat)=s.a.y+t*(s.b.y-s.a.y):=h3;refine⟨⟨?_,?_⟩,by unfold cr rv;dsimp only;grind⟩
  .rw[cx,cx,cx,cx,h2];have:(s.a.x:Rat)<=s.b.x\/(s.b.x:Rat)<=s.a.x:=by grind
   grind
  .rw[cx,cx,cx,cx,h3];have:(s.a.y:Rat)<=s.b.y\/(s.b.y:Rat)<=s.a.y:=by grind
   grind
section
variable {l:List S} (H:Sgs l)
include H
theorem Hr{a:Nat}(ha:a<(vsP l).length):POk (aP (vsP l) a):=(qK H (mX ha)).1
theorem Hs{c:Q2}(h:VX l c):∃a,a<(vsP l).length/\rp (aP (vsP l) a)=c:=by obtain⟨p,hp,e⟩:=(Ht H).2 h;obtain⟨a,ha,rfl⟩:=zP hp;exact⟨a,ha,e⟩
theorem Ap{i j:Nat}(hi:i<l.length)(hj:j<l.length)(hd:rD (aK l i) (aK l j)=0){c x p q:Q2}(h1:onG (aK l i) c)(h2:onG (aK l j) c)(hx:onG (aK l i) x)
  (hp:onG (aK l j) p) (hq:onG (aK l j) q) (h3:¬ltQ x p) (h4:¬ltQ q x):onG (aK l j) x:=by
 obtain⟨a1,a2,a3⟩:=(gQ (H i hi).ne).1 h1;obtain⟨b1,b2,b3⟩:=(gQ (H j hj).ne).1 h2;obtain⟨c1,c2,c3⟩:=(gQ (H i hi).ne).1 hx;obtain⟨d1,d2,d3⟩:=(gQ (H j hj).ne).1 hp;obtain⟨e1,e2,e3⟩:=(gQ (H j hj).ne).1 hq;rw[lZ]at a1 b1 c1;refine(gQ (H j hj).ne).2 ⟨?_,n7 d2 h3,n7 h4 e3⟩;rw[lZ];exact(wM (H i hi).ne (H j hj).ne hd (v:=c) a1 b1).1 c1
theorem LQ{i:Nat}(il:i<l.length){c:Q2}(hc:onG (aK l i) c)(hn:∀a,a<(vsP l).length->rp (aP (vsP l) a)≠c):∃a b,Adj l i a b/\ltQ (rp (aP (vsP l) a)) c/\ltQ c (rp (aP (vsP l) b)):=by
 obtain⟨c1,c2,c3⟩:=(gQ (H i il).ne).1 hc;have endV:∀x,(x=lo (aK l i)\/x=hi (aK l i))->∃a,a<(vsP l).length/\rp (aP (vsP l) a)=x/\onG (aK l i) x:=λx hx=>by
  have h:x=rv (aK l i).a\/x=rv (aK l i).b:=by
   rcases hx with rfl|rfl
   .exact Au _
   .exact Ax _
  obtain⟨a,ha,e⟩:=Hs H (c:=x) (.inl ⟨i,il,h⟩);refine⟨a,ha,e,?_⟩;rcases h with rfl|rfl
  .exact qh _
  .exact qg _
 obtain⟨a0,ha0,ea0,oa0⟩:=endV _ (.inl rfl);obtain⟨b0,hb0,eb0,ob0⟩:=endV _ (.inr rfl);have tri:∀a,a<(vsP l).length->ltQ (rp (aP (vsP l) a)) c\/ltQ c (rp (aP (vsP l) a)):=λa ha=>by
  rcases qE (rp (aP (vsP l) a)) c with h|h|h
  .exact .inl h
  .exact absurd h (hn a ha)
  .exact .inr h
 have la0:ltQ (rp (aP (vsP l) a0)) c:=by
  rcases tri a0 ha0 with h|h
  .exact h
  .rw[ea0]at h;exact absurd h c2
 have lb0:ltQ c (rp (aP (vsP l) b0)):=by
  rcases tri b0 hb0 with h|h
  .rw[eb0]at h;exact absurd h c3
  .exact h
 have Oa0:OnV l i a0:=by unfold OnV;rw[ea0];exact oa0
 have Ob0:OnV l i b0:=by unfold OnV;rw[eb0];exact ob0
 have gr:∀n,n<=(vsP l).length->(∃a,a<n/\OnV l i a/\ltQ (rp (aP (vsP l) a)) c)->∃a,a<n/\OnV l i a/\ltQ (rp (aP (vsP l) a)) c/\∀x,a<x->x<n->¬(OnV l i x/\ltQ (rp (aP (vsP l) x)) c):=by
  intro n;induction n with
  |zero=>rintro _ ⟨a,h,_⟩;omega
  |succ n ih=>
   rintro hl ⟨a,h1,h2,h3⟩;by_cases hh:OnV l i n/\ltQ (rp (aP (vsP l) n)) c
   .exact⟨n,by omega,hh.1,hh.2,λx h4 h5=>by omega⟩
   .obtain⟨b,k1,k2,k3,k4⟩:=ih (by omega) ⟨a,by
     rcases Nat.lt_or_ge a n with h|h
     .exact h
     .have:a=n:=by omega
      subst this;exact absurd ⟨h2,h3⟩ hh,h2,h3⟩
    refine⟨b,by omega,k2,k3,λx h4 h5=> ?_⟩;by_cases e:x=n
    .subst e;exact hh
    .exact k4 x h4 (by omega)
 obtain⟨a,g1,g2,g3,g4⟩:=gr _ (bA _) ⟨a0,ha0,Oa0,la0⟩;obtain⟨b,⟨k1,k2,k3⟩,k4⟩:=least (p:=λb=>b<(vsP l).length/\OnV l i b/\ltQ c (rp (aP (vsP l) b))) ⟨b0,hb0,Ob0,lb0⟩;have hab:a<b:=by
  rcases gn a b with h|h|h
  .exact h
  .subst h;exact absurd (fX g3 k3) fA
  .exact absurd (fX (fX g3 k3) (km H g1 h)) fA
 refine⟨a,b,⟨hab,k1,g2,k2,λx h1 h2 ho=> ?_⟩,g3,k3⟩;rcases tri x (by omega)with h|h
 .exact g4 x h1 (by omega) ⟨ho,h⟩
 .have:=k4 x ⟨by omega,ho,h⟩;omega
theorem Yq{i j a b:Nat}(hi:i<l.length)(hj:j<l.length){c:Q2}(A:Adj l j a b)(h1:ltQ (rp (aP (vsP l) a)) c)(h2:ltQ c (rp (aP (vsP l) b)))(hj2:onG (aK l j) c)
  (hn:∀a,a<(vsP l).length->rp (aP (vsP l) a)≠c) (hi2:onG (aK l i) c):Adj l i a b:=by
 have hd:rD (aK l i) (aK l j)=0:=by
  by_cases h:rD (aK l i) (aK l j)=0
  .exact h
  .obtain⟨x,hx,e⟩:=Hs H (c:=c) (.inr ⟨i,j,hi,hj,h,hi2,hj2⟩);exact absurd e (hn x hx)
 have hd':rD (aK l j) (aK l i)=0:=by rw[vl,hd];grind
 obtain⟨x,y,B,k1,k2⟩:=LQ H hi hi2 hn;have ha:a<(vsP l).length:=Nat.lt_trans A.lt A.bd;have hx:x<(vsP l).length:=Nat.lt_trans B.lt B.bd;have asy:∀{p q:Q2},ltQ p q->¬ltQ q p:=λh h'=>fA (fX h h');have e1:a=x:=by
  rcases gn a x with h|h|h
  .have l1:=km H hx h;have:OnV l j x:=Ap H hi hj hd hi2 hj2 B.oa A.oa A.ob (asy l1) (asy (fX k1 h2));have l2:x<b:=by
    rcases gn x b with h3|h3|h3
    .exact h3
    .subst h3;exact absurd (fX k1 h2) fA
    .exact absurd (fX (fX k1 h2) (km H hx h3)) fA
   exact absurd this (A.no x h l2)
  .exact h
  .have l1:=km H ha h;have:OnV l i a:=Ap H hj hi hd' hj2 hi2 A.oa B.oa B.ob (asy l1) (asy (fX h1 k2));have l2:a<y:=by
    rcases gn a y with h3|h3|h3
    .exact h3
    .subst h3;exact absurd (fX h1 k2) fA
    .exact absurd (fX (fX h1 k2) (km H ha h3)) fA
   exact absurd this (B.no a h l2)
 subst e1;have e2:b=y:=JN H hj hi hd' A B;subst e2;exact B
theorem BH{i j a b:Nat}(hi:i<l.length)(hj:j<l.length){c:Q2}(A:Adj l j a b)(h1:ltQ (rp (aP (vsP l) a)) c)(h2:ltQ c (rp (aP (vsP l) b)))(hj2:onG (aK l j) c)(B:Adj l i a b):onG (aK l i) c:=by
 have hd:rD (aK l j) (aK l i)=0:=by
  by_cases h:rD (aK l j) (aK l i)=0
  .exact h
  .have e1:=((qC h).1 ⟨A.oa,B.oa⟩).1;have e2:=((qC h).1 ⟨A.ob,B.ob⟩).1;have:=km H A.bd A.lt;rw[e1,e2]at this;exact absurd this fA
 have asy:∀{p q:Q2},ltQ p q->¬ltQ q p:=λh h'=>fA (fX h h');exact Ap H hj hi hd A.oa B.oa hj2 B.oa B.ob (asy h1) (asy h2)
end
def onL(l:List aBZ)(v:V)(k:Nat):List Int:=((List.range k).map λi:Nat=>(i:Int)).filter λi=>onS (aK l i.toNat) v
def FS(l:List aBZ)(v:V)(k:Nat):onL l v (k+1)=onL l v k++(if onS (aK l k) v=true then [(k:Int)]else []):=by
 unfold onL;rw[List.range_succ,List.map_append,List.filter_append]
 congr 1
 rw[List.map_singleton,List.filter_cons,List.filter_nil];rfl
def Gl(l:List aBZ)(v:V)(k:Nat):(onL l v k).length<=k:=by unfold onL;exact Nat.le_trans (List.length_filter_le _ _) (by simp)
def Gk{l:List aBZ}{v:V}{k i:Nat}(hi:i<k)(h:onS (aK l i) v=true):(i:Int)∈onL l v k:=by unfold onL;rw[List.mem_filter,cC];exact⟨⟨i,dR.2 hi,rfl⟩,h⟩
def VS{l:List aBZ}{v:V}{k:Nat}(h:∀i,i<k->onS (aK l i) v=false):onL l v k=[] :=by unfold onL;rw[List.filter_eq_nil_iff];intro x hx;obtain⟨i,hi,rfl⟩:=cC.1 hx;rw[show(Int.toNat ((i:Nat):Int))=i from rfl,h i (dR.1 hi)];decide
def Ir{α:Type}{q:α->Bool}{l:List α}(d:α)(h:0<=fI q l):fI q l<l.length/\q (l.getD (fI q l).toNat d)=true:=by
 unfold fI at*;cases e:l.findIdx? q with
 |none=>rw[e]at h;exact absurd h (by decide)
 |some i=>
  obtain⟨h1,h2,_⟩:=List.findIdx?_eq_some_iff_getElem.1 e;dsimp only;refine⟨by omega,?_⟩;rw[jZ,b8,c7 h1];exact h2
def Lf{α:Type}{q:α->Bool}{l:List α}(h:¬0<=fI q l):∀x∈l,q x=false:=by have:=oh q l;rw[decide_eq_false h]at this;intro x hx;have:=(List.any_eq_false.1 this.symm) x hx;simpa using this
structure CvL(l:List aBZ)(p:Pl)(v:V):Prop where
 k:(bo p v).1=1\/(bo p v).1=2\/(bo p v).1=3
 v1:(bo p v).1=1->0<(onL l v l.length).length/\0<=(bo p v).2/\(bo p v).2<p.vs.length/\aP p.vs (bo p v).2.toNat=bG v
 e2:(bo p v).1=2->0<(onL l v l.length).length/\0<=(bo p v).2/\(bo p v).2<p.es.length/\(aU p.es (bo p v).2.toNat).src=onL l v l.length
 f3:(bo p v).1=3->onL l v l.length=[]/\0<=(bo p v).2/\(bo p v).2<p.fs.length
def VK{p:Pt}(h:POk p){v:V}(hx:p.x=v.x*p.den)(hy:p.y=v.y*p.den):p=bG v:=by
 have hd:=h.den;have hval:=h.v;unfold c8 at hval;simp only[bv,beq_iff_eq]at hval;have d1:p.den.natAbs∣p.x.natAbs:=Int.natAbs_dvd_natAbs.2 ⟨v.x,by rw[hx,C3]⟩;have d2:p.den.natAbs∣p.y.natAbs:=Int.natAbs_dvd_natAbs.2 ⟨v.y,by rw[hy,C3]⟩;have d3:p.den.natAbs∣1:=hval.2▸DA (DA d1 d2) (Nat.dvd_refl _);have d4:p.den.natAbs=1:=Nat.dvd_one.1 d3;have d5:p.den=1:=by omega
 obtain⟨x,y,d⟩:=p;simp only at hx hy d5;subst d5;rw[Int.mul_one]at hx hy;subst hx hy;rfl
section
variable {l:List aBZ} (H:Sgs l) (B:BdOk l) {v:V} (hv:bP v 4000=true)
include H
theorem IM{i a b:Nat}(hi:i<l.length)(A:Adj l i a b)(h1:ltQ (rp (aP (vsP l) a)) (rv v))(h2:ltQ (rv v) (rp (aP (vsP l) b)))(ho:onG (aK l i) (rv v))
  (hn:∀a,a<(vsP l).length->rp (aP (vsP l) a)≠rv v):∀k,k<=l.length->eV l a b k=onL l v k
 |0,_=>rfl
 |k+1,hk=>by
  rw[FS];unfold eV;rw[IM hi A h1 h2 ho hn k (by omega)]
  congr 1
  have e:Adj l k a b↔onS (aK l k) v=true:=by rw[f7 (H k (by omega))];exact⟨λC=>BH H (by omega) hi A h1 h2 ho C,λC=>Yq H (by omega) hi A h1 h2 ho hn C⟩
  by_cases h:onS (aK l k) v=true
  .rw[if_pos h,if_pos (e.2 h)]
  .rw[if_neg h,if_neg (λhh=>h (e.1 hh))]
include B hv
theorem Yd:CvL l (co (aA l)) v:=by
 obtain⟨n1,n2,n3,n4⟩:=G7 B;have S:=Gg B H;have hP:=S.ok;have h0:¬(bP v 4000=false\/(co (aA l)).fs.length=0):=by
  rw[hv,n4];intro h;rcases h with h|h
  .cases h
  .omega
 have dv:(0:Int)<(bG v).den:=by show(0:Int)<1;decide
 have onE:∀i,i<l.length->(onS (aK l i) v=true↔onG (aK l i) (rv v)):=λi hi=>f7 (H i hi);by_cases k1:0<=fI (λu=>decide (bG v=u)) (co (aA l)).vs
 .have e:bo (co (aA l)) v=(1,fI (λu=>decide (bG v=u)) (co (aA l)).vs):=by unfold bo;rw[if_neg h0,if_pos k1]
  obtain⟨f1,f2⟩:=Ir (default:Pt) k1;refine⟨by rw[e];exact .inl rfl,λ_=> ?_,(λh=>by rw[e]at h;cases h),(λh=>by rw[e]at h;cases h)⟩;rw[e];dsimp only;generalize fI (λu=>decide (bG v=u)) (co (aA l)).vs=z at*;have hlt:z.toNat<(vsP l).length:=by rw[n2]at f1;omega
  have hat:aP (co (aA l)).vs z.toNat=bG v:=by rw[of_decide_eq_true f2];unfold aP;rw[b8,b8,c7 (by rw[n2];exact hlt)];rfl
  refine⟨?_,k1,f1,hat⟩;have hvx:VX l (rv v):=(Ht H).1 ⟨bG v,by rw[<-hat,n2];exact mX hlt,iT v⟩;have:∃i,i<l.length/\onG (aK l i) (rv v):=by
   rcases hvx with⟨i,hi,he⟩|⟨i,_,hi,_,_,ho,_⟩
   .refine⟨i,hi,?_⟩;rcases he with he|he<;>rw[he]
    .exact qh _
    .exact qg _
   .exact⟨i,hi,ho⟩
  obtain⟨i,hi,ho⟩:=this;exact RA (Gk hi ((onE i hi).2 ho))
 .have vd:∀a,a<(vsP l).length->(0:Int)<(aP (vsP l) a).den:=λa ha=>by have:=(Hr H ha).den;omega
  have nov:∀a,a<(vsP l).length->rp (aP (vsP l) a)≠rv v:=λa ha he=>by
   have h1:=Lf k1 (aP (vsP l) a) (by rw[n2];exact mX ha);have h2:=of_decide_eq_false h1;rw[<-iT]at he;have dP:=vd a ha;have c1:¬aW (bG v) (aP (vsP l) a)<0:=λh=>by rw[pw dv dP,he]at h;exact fA h
   have c2:¬aW (aP (vsP l) a) (bG v)<0:=λh=>by rw[pw dP dv,he]at h;exact fA h
   rw[mz]at c1 c2;exact h2 (VK (Hr H ha) (by
    show(aP (vsP l) a).x=v.x*(aP (vsP l) a).den;have d1:(bG v).den=1:=rfl;have d2:(bG v).x=v.x:=rfl;have d3:(bG v).y=v.y:=rfl;rw[d1,d2,d3]at c1 c2;omega) (by
    show(aP (vsP l) a).y=v.y*(aP (vsP l) a).den;have d1:(bG v).den=1:=rfl;have d2:(bG v).x=v.x:=rfl;have d3:(bG v).y=v.y:=rfl;rw[d1,d2,d3]at c1 c2;omega)).symm
  have bt:∀k,k<(esP l).length->(btP (co (aA l)) v (aU (co (aA l)).es k)=true↔∃a b i,EdAt l k a b i/\ltQ (rp (aP (vsP l) a)) (rv v)/\ltQ (rv v) (rp (aP (vsP l) b))/\onG (aK l i) (rv v)):=λk hk=>by
   obtain⟨a,b,i,E⟩:=pK H hk;have ea:=Nat.lt_trans E.adj.lt E.adj.bd;have eb:=E.adj.bd;have es:=A3 (l:=l) hk;unfold btP;rw[es,E.ed,n2,n3];dsimp only;simp only[bv,decide_eq_true_eq,jZ];rw[pw (vd a ea) dv,pw dv (vd b eb),iT,List.all_eq_true];constructor
   .rintro⟨h1,h2,h3⟩;refine⟨a,b,i,E,h2,h3,?_⟩;have:=h1 i (oJ.2 ⟨i,E.il,rfl,E.adj⟩);exact(onE i E.il).1 this
   .rintro⟨a',b',i',E',h2,h3,h4⟩;have q:=E.ed.symm.trans E'.ed;have q1:a=a':=by have:=congrArg Ed.fr q;simp only at this;omega
    have q2:b=b':=by have:=congrArg Ed.to q;simp only at this;omega
    subst q1 q2;refine⟨λx hx=> ?_,h2,h3⟩;obtain⟨j,hj,rfl,C⟩:=oJ.1 hx;exact(onE j hj).2 (BH H hj E'.il E'.adj h2 h3 h4 C)
  by_cases k2:0<=fI (λe=>btP (co (aA l)) v e) (co (aA l)).es
  .have e:bo (co (aA l)) v=(2,fI (λe=>btP (co (aA l)) v e) (co (aA l)).es):=by unfold bo;rw[if_neg h0,if_neg k1,if_pos k2]
   obtain⟨f1,f2⟩:=Ir (⟨0,0,0,0,[]⟩:Ed) k2;refine⟨by rw[e];exact .inr (.inl rfl),(λh=>by rw[e]at h;cases h),λ_=> ?_,(λh=>by rw[e]at h;cases h)⟩;rw[e];generalize fI (λe=>btP (co (aA l)) v e) (co (aA l)).es=z at*;have hz:z.toNat<(esP l).length:=by rw[<-n1];omega
   obtain⟨a,b,i,E,g1,g2,g3⟩:=(bt z.toNat hz).1 f2;have es:=IM H E.il E.adj g1 g2 g3 nov l.length (bA _);refine⟨?_,k2,f1,?_⟩
   .exact RA (Gk E.il ((onE i E.il).2 g3))
   .show(aU (co (aA l)).es z.toNat).src=_;rw[A3 hz,E.ed];exact es
  .have on0:onL l v l.length=[] :=VS λi hi=>by
    cases ho:onS (aK l i) v with
    |false=>rfl
    |true=>
     exfalso;have ho:=(onE i hi).1 ho;obtain⟨a,b,A,g1,g2⟩:=LQ H hi ho nov;obtain⟨k,hk,ek⟩:=Zl H hi A;have hm:aU (co (aA l)).es k∈(co (aA l)).es:=mY (by rw[n1];exact hk);have:=Lf k2 _ hm;obtain⟨a',b',i',E⟩:=pK H hk;have q:=ek.symm.trans E.ed;have q1:a=a':=by have:=congrArg Ed.fr q;simp only at this;omega
     have q2:b=b':=by have:=congrArg Ed.to q;simp only at this;omega
     subst q1 q2;rw[(bt k hk).2 ⟨a,b,i',E,g1,g2,BH H E.il hi A g1 g2 ho E.adj⟩]at this;cases this
   by_cases k3:bwP (co (aA l)) (bG v)<0
   .have e:bo (co (aA l)) v=(3,0):=by unfold bo;rw[if_neg h0,if_neg k1,if_neg k2,if_pos k3]
    refine⟨by rw[e];exact .inr (.inr rfl),(λh=>by rw[e]at h;cases h),(λh=>by rw[e]at h;cases h),λ_=>⟨on0,?_⟩⟩;rw[e,n4];exact⟨by show(0:Int)<=0;omega,by show(0:Int)<_;omega⟩
   .have e:bo (co (aA l)) v=(3,xN (co (aA l)) (bwP (co (aA l)) (bG v))):=by unfold bo;rw[if_neg h0,if_neg k1,if_neg k2,if_neg k3]
    refine⟨by rw[e];exact .inr (.inr rfl),(λh=>by rw[e]at h;cases h),(λh=>by rw[e]at h;cases h),λ_=>⟨on0,?_⟩⟩;rw[e];have Hh:=BB (p:=co (aA l)) (q:=bG v) (by omega);have He:=Hh.e;have hm:aU (co (aA l)).es ((bwP (co (aA l)) (bG v)).tdiv 2).toNat∈(co (aA l)).es:=mY (by omega);have F:=S.f.ed _ hm;unfold xN;dsimp only;split
    .exact⟨F.1,F.2.1⟩
    .exact⟨F.2.2.1,F.2.2.2.1⟩
end
noncomputable def c6q:Con:=con (ac (aL .S) (a1 aV)) (λ(_,_)=>[]) (λ(_,_)=> .bool true)
def k6q:c6q.Ok aG 6:=a8 (qQ Y6) (raw:=aq) (λ(l,v)=>[lp 10 31 l.length (λ_=>[]) [901] (λk=>[(7,.own 901 .I (onL l v k).length)]) (λk=>[(901,.row 3 .I (onL l v k))]),
  cnt 23 103 (onL l v l.length).length (λ_=>True)]
  ) (λ(_,_)=>⟨_,rfl⟩) λ(l,v) _=>au (q:=((!true)=true->false=true)/\
 ((!true)=false->((!decide (l.length<=24))=true->true=true)/\
  ((!decide (l.length<=24))=false->(0:Int)<=4000/\(4000:Int)<=1000000000000/\((!bP v 4000)=true->true=true)/\
   ((!bP v 4000)=false->l.length<=1000/\(fF l=0->BdOk l)/\(¬fF l=0->true=true)/\
    (¬(¬fF l=0)->(0=(0:Int)/\(onL l v 0).length=0/\onL l v 0=([] :List Int)/\(0:Nat)<=l.length)/\
     (∀x:Nat,x<=l.length->((x:Int)<l.length->ix (x:Int) l.length/\(onS (aK l x) v=true->(onL l v x).length=(onL l v x).length/\(onL l v x).length+[(x:Int)].length<=1000000/\aH ((x:Int)+1)/\(x:Int)+1=((x+1:Nat):Int)/\(onL l v x++[(x:Int)]).length=(onL l v (x+1)).length/\onL l v x++[(x:Int)] =onL l v (x+1)/\x+1<=l.length/\l.length-(x+1)<l.length-x)/\
       (onS (aK l x) v=false->aH ((x:Int)+1)/\(x:Int)+1=((x+1:Nat):Int)/\(onL l v x).length=(onL l v (x+1)).length/\onL l v x=onL l v (x+1)/\x+1<=l.length/\l.length-(x+1)<l.length-x))/\
      (¬(x:Int)<l.length->PlS (bf l)/\((bo (bf l) v).1=1->(0<((onL l v x).length:Int)->(0<=(bo (bf l) v).2->((bo (bf l) v).2<(bf l).vs.length->ix (bo (bf l) v).2 (bf l).vs.length/\decide ([(aP (bf l).vs (bo (bf l) v).2.toNat).x,(aP (bf l).vs (bo (bf l) v).2.toNat).y,(aP (bf l).vs (bo (bf l) v).2.toNat).den] =[(bG v).x,(bG v).y,(bG v).den])=true)/\
          (¬(bo (bf l) v).2<(bf l).vs.length->false=true))/\
         (¬0<=(bo (bf l) v).2->false=true))/\
        (¬0<((onL l v x).length:Int)->false=true))/\
       (¬(bo (bf l) v).1=1->((bo (bf l) v).1=2->((bo (bf l) v).2<0->false=true)/\
         (¬(bo (bf l) v).2<0->(((bf l).es.length:Int)<=(bo (bf l) v).2->false=true)/\
          (¬((bf l).es.length:Int)<=(bo (bf l) v).2->ix (bo (bf l) v).2 (bf l).es.length/\(¬((onL l v x).length:Int)=(aU (bf l).es (bo (bf l) v).2.toNat).src.length->false=true)/\
           (¬(¬((onL l v x).length:Int)=(aU (bf l).es (bo (bf l) v).2.toNat).src.length)->(0=(0:Int)/\(0:Nat)<=(onL l v l.length).length/\True)/\
            (∀x_1:Nat,x_1<=(onL l v l.length).length/\True->((x_1:Int)<(onL l v x).length->ix (bo (bf l) v).2 (bf l).es.length/\ix (x_1:Int) (aU (bf l).es (bo (bf l) v).2.toNat).src.length/\ix (x_1:Int) (onL l v x).length/\x_1<(onL l v x).length/\(¬aM (aU (bf l).es (bo (bf l) v).2.toNat).src x_1=aM (onL l v x) x_1->false=true)/\
              (¬(¬aM (aU (bf l).es (bo (bf l) v).2.toNat).src x_1=aM (onL l v x) x_1)->aH ((x_1:Int)+1)/\(x_1:Int)+1=((x_1+1:Nat):Int)/\x_1+1<=(onL l v l.length).length/\True/\(onL l v l.length).length-(x_1+1)<(onL l v l.length).length-x_1))/\
             (¬(x_1:Int)<(onL l v x).length->decide (0<((onL l v x).length:Int))=true))))))/\
        (¬(bo (bf l) v).1=2->((bo (bf l) v).1=3->(((onL l v x).length:Int)=0->(0<=(bo (bf l) v).2->decide ((bo (bf l) v).2<(bf l).fs.length)=true)/\
           (¬0<=(bo (bf l) v).2->false=true))/\
          (¬((onL l v x).length:Int)=0->false=true))/\
         (¬(bo (bf l) v).1=3->false=true)))))))))) (by kernel_rfl) (by
  refine⟨λh=>h,λ_=>⟨λ_=>rfl,λhl=>⟨by decide,by decide,λ_=>rfl,λhw=> ?_⟩⟩⟩;have hl:l.length<=24:=by simpa using hl
  have hw:bP v 4000=true:=by simpa using hw
  refine⟨by omega,λh=>AW (by omega) h,λ_=>rfl,λh0=> ?_⟩;have h0:=Decidable.not_not.1 h0;have C:PlS (bf l)/\CvL l (bf l) v:=by have B:=AW (by omega) h0;have e:bf l=co (aA l):=if_pos h0;rw[e];exact⟨Gg B (Ai h0),Yd (Ai h0) B hw⟩
  generalize bf l=p at*;obtain⟨S,C⟩:=C;refine⟨⟨rfl,rfl,rfl,cu _⟩,λx hx=>⟨λhlt=> ?_,λhge=> ?_⟩⟩
  .have hs:=FS l v x;have hn:=Gl l v x;refine⟨by unfold ix;omega,λh=> ?_,λh=> ?_⟩
   .rw[if_pos h]at hs;exact⟨rfl,by rw[List.length_singleton];omega,by unfold aH;omega,by omega,by rw[hs],hs.symm,by omega,by omega⟩
   .rw[if_neg (by rw[h];decide),List.append_nil]at hs;exact⟨by unfold aH;omega,by omega,by rw[hs],hs.symm,by omega,by omega⟩
  .obtain rfl:x=l.length:=by omega
   have hn:=Gl l v l.length;have K:=C.k;refine⟨S,λk1=> ?_,λk1=>⟨λk2=> ?_,λk2=>⟨λk3=> ?_,λk3=>by omega⟩⟩⟩
   .obtain⟨c1,c2,c3,c4⟩:=C.v1 k1;refine⟨λ_=>⟨λ_=>⟨λ_=>⟨by unfold ix;omega,?_⟩,λh=>(h c3).elim⟩,λh=>(h c2).elim⟩,λh=>by omega⟩;rw[c4];exact decide_eq_true rfl
   .obtain⟨c1,c2,c3,c4⟩:=C.e2 k2;refine⟨λh=>by omega,λ_=>⟨λh=>by omega,λ_=>⟨by unfold ix;omega,λh=>(h (by rw[c4])).elim,λ_=>⟨⟨rfl,cu _,trivial⟩,λy hy=>⟨λhlt=> ?_,λ_=>decide_eq_true (by omega)⟩⟩⟩⟩⟩;rw[c4];exact⟨by unfold ix;omega,by unfold ix;omega,by unfold ix;omega,by omega,λh=>(h rfl).elim,λ_=>⟨by unfold aH;omega,by omega,by omega,trivial,by omega⟩⟩
   .obtain⟨c1,c2,c3⟩:=C.f3 k3;refine⟨λ_=>⟨λ_=>decide_eq_true c3,λh=>(h c2).elim⟩,λh=>(h (by rw[c1];rfl)).elim⟩)
end Go.Proofs.YtdnhebjljnfjaaaGreat
