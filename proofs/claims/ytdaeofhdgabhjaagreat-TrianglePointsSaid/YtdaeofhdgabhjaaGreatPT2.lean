/- What the statements about triangulations stand on: contracts of functions, plain laws. Part 2 of 5, no condition of its own. (G1 G2 G3 G4 G5 G6 G7 G8 G9 N16 X1 X2 X3 X4 X5 X6 X7 X8 X9 X10 K1) -/
import Derived.Test.YtdaeofhdgabhjaaGreatPT1
import Derived.IntWalk
namespace Go.Proofs.YtdaeofhdgabhjaaGreat.Geo
structure V where
 x:Int
 y:Int
deriving DecidableEq,Inhabited
structure S where
 a:V
 b:V
deriving DecidableEq,Inhabited
def sub(p q:V):V:=⟨p.x-q.x,p.y-q.y⟩
def cross(p q:V):Int:=p.x*q.y-p.y*q.x
def sgn(n:Int):Int:=if 0<n then 1 else if n<0 then-1 else 0
def turn(a b c:V):Int:=sgn (cross (sub b a) (sub c a))
def bX(p q:V):Bool:=decide (p.y<q.y)||(p.y==q.y&&decide (p.x<q.x))
def aJ(p:V)(m:Int):Bool:=decide (-m<=p.x)&&decide (p.x<=m)&&decide (-m<=p.y)&&decide (p.y<=m)
def aK(s:S):Bool:=aJ s.a 4000&&aJ s.b 4000
def gJ(s:S)(p:V):Bool:=decide (min s.a.x s.b.x<=p.x)&&decide (p.x<=max s.a.x s.b.x)&&decide (min s.a.y s.b.y<=p.y)&&decide (p.y<=max s.a.y s.b.y)
def onS(s:S)(p:V):Bool:=aK s&&gJ s p&&turn s.a s.b p==0
theorem kI(n:Int):sgn n=0↔n=0:=by unfold sgn;grind
theorem yH(n:Int):0<sgn n↔0<n:=by unfold sgn;grind
theorem aEg(n:Int):sgn n<0↔n<0:=by unfold sgn;grind
theorem nZ(m n:Int):sgn m*sgn n<0↔(0<m/\n<0)\/(m<0/\0<n):=by unfold sgn;grind
def fV(x y:Int):Int:=if x<y then-1 else if y<x then 1 else 0
def fF(p q:V):Int:=if fV p.y q.y=0 then fV p.x q.x else fV p.y q.y
def pH(s t:S)(d:Int):Int:=
 let a0:=cross (sub t.a s.a) (sub t.b t.a)
 let b0:=cross (sub t.a s.a) (sub s.b s.a)
 let a:=if d<0 then-a0 else a0
 let b:=if d<0 then-b0 else b0
 let e:=if d<0 then-d else d
 if a<0\/e<a\/b<0\/e<b then 0 else if a=0\/a=e\/b=0\/b=e then 1 else 2
def loS(s:S):V:=if bX s.b s.a then s.b else s.a
def hiS(s:S):V:=if bX s.b s.a then s.a else s.b
def cM(s t:S):V:=if bX (loS s) (loS t)then loS t else loS s
def cT(s t:S):V:=if bX (hiS t) (hiS s)then hiS t else hiS s
def cN(s t:S):Int:=
 if !(aK s&&aK t)then 0
 else if cross (sub s.b s.a) (sub t.b t.a)≠0 then pH s t (cross (sub s.b s.a) (sub t.b t.a))
 else if s.a=s.b/\onS t s.a=true then 1
 else if t.a=t.b/\onS s t.a=true then 1
 else if s.a=s.b\/t.a=t.b\/turn s.a s.b t.a≠0 then 0
 else if fF (cM s t) (cT s t)=0 then 1
 else if fF (cM s t) (cT s t)= -1 then 3
 else 0
def bZ(s t:S)(p:V):Prop:=onS s p=true/\onS t p=true
structure MeetIs(s t:S)(k:Int):Prop where
 none:(aK s&&aK t)=false->k=0
 over:∀p q,p∈[s.a,s.b,t.a,t.b]->q∈[s.a,s.b,t.a,t.b]->p≠q->bZ s t p->bZ s t q->k=3
 touch:(aK s&&aK t)=true->(∀p q,p∈[s.a,s.b,t.a,t.b]->q∈[s.a,s.b,t.a,t.b]->bZ s t p->bZ s t q->p=q)->(∃p,p∈[s.a,s.b,t.a,t.b]/\bZ s t p)->k=1
 cross:(aK s&&aK t)=true->(∀p,p∈[s.a,s.b,t.a,t.b]->¬bZ s t p)->(turn s.a s.b t.a*turn s.a s.b t.b<0/\turn t.a t.b s.a*turn t.a t.b s.b<0)->k=2
 else_:(aK s&&aK t)=true->(∀p,p∈[s.a,s.b,t.a,t.b]->¬bZ s t p)->¬(turn s.a s.b t.a*turn s.a s.b t.b<0/\turn t.a t.b s.a*turn t.a t.b s.b<0)->k=0
theorem Dc(d b v w:Int)(hd:0<d)(h:d*w=b*v)(hv:v≠0):(min 0 v<=w/\w<=max 0 v)↔(0<=b/\b<=d):=by
 rcases Int.lt_or_gt_of_ne hv with hv|hv
 ·have e1:w<=0↔0<=b:=by
   rw[<-Int.mul_le_mul_left hd,Int.mul_zero,h];constructor
   ·intro h1;rcases Int.lt_or_le b 0 with h2|h2
    ·have:=Int.mul_pos_of_neg_of_neg h2 hv;omega
    ·exact h2
   ·intro h1;have:=Int.mul_nonneg h1 (show(0:Int)<= -v by omega);rw[Int.mul_neg]at this;omega
  have e2:v<=w↔b<=d:=by
   rw[<-Int.mul_le_mul_left hd,h];constructor
   ·intro h1;rcases Int.lt_or_le d b with h2|h2
    ·have:=Int.mul_lt_mul_of_neg_right h2 hv;omega
    ·exact h2
   ·intro h1;exact Int.mul_le_mul_of_nonpos_right h1 (by omega)
  omega
 ·have e1:0<=w↔0<=b:=by
   rw[<-Int.mul_le_mul_left hd,Int.mul_zero,h];constructor
   ·intro h1;rcases Int.lt_or_le b 0 with h2|h2
    ·have:=Int.mul_neg_of_neg_of_pos h2 hv;omega
    ·exact h2
   ·intro h1;exact Int.mul_nonneg h1 (by omega)
  have e2:w<=v↔b<=d:=by
   rw[<-Int.mul_le_mul_left hd,h];exact Int.mul_le_mul_right hv
  omega
theorem nO(s:S)(p:V)(d b:Int)(hd:0<d)(hx:d*(p.x-s.a.x)=b*(s.b.x-s.a.x))(hy:d*(p.y-s.a.y)=b*(s.b.y-s.a.y))(hv:s.a≠s.b):
  gJ s p=true↔(0<=b/\b<=d):=by
 obtain⟨⟨ax,ay⟩,⟨bx,b_y⟩⟩:=s;obtain⟨px,py⟩:=p;simp only[gJ,Bool.and_eq_true,decide_eq_true_eq]at*;simp only[ne_eq,V.mk.injEq,not_and]at hv;by_cases h1:bx-ax=0
 ·have h2:b_y-ay≠0:=by
   intro h2;exact hv (by omega) (by omega)
  rw[h1,Int.mul_zero]at hx;have h3:px-ax=0:=by
   rcases Int.mul_eq_zero.1 hx with h|h
   ·omega
   ·exact h
  have:=Dc d b _ _ hd hy h2;omega
 ·by_cases h2:b_y-ay=0
  ·rw[h2,Int.mul_zero]at hy;have h3:py-ay=0:=by
    rcases Int.mul_eq_zero.1 hy with h|h
    ·omega
    ·exact h
   have:=Dc d b _ _ hd hx h1;omega
  ·have e1:=Dc d b _ _ hd hx h1;have e2:=Dc d b _ _ hd hy h2;omega
theorem eR{s:S}{p:V}(hv:aK s=true):onS s p=true↔(gJ s p=true/\cross (sub s.b s.a) (sub p s.a)=0):=by
 unfold onS turn;rw[hv];simp only[Bool.true_and,Bool.and_eq_true,beq_iff_eq,kI]
theorem gX{s:S}(hv:aK s=true):onS s s.a=true:=by
 rw[eR hv];refine⟨?_,by simp[cross,sub]⟩
 simp[gJ];omega
theorem mZ{s:S}(hv:aK s=true):onS s s.b=true:=by
 rw[eR hv];refine⟨?_,by simp only[cross,sub];grind⟩
 simp[gJ];omega
theorem q1{d a b sa sb ta tb:Int}(h:d*(ta-sa)=a*(sb-sa)-b*(tb-ta))(e:a=0):d*(sa-ta)=b*(tb-ta):=by subst e;grind
theorem q2{d a b sa sb ta tb:Int}(h:d*(ta-sa)=a*(sb-sa)-b*(tb-ta))(e:a=d):d*(sb-ta)=b*(tb-ta):=by subst e;grind
theorem q3{d a b sa sb ta tb:Int}(h:d*(ta-sa)=a*(sb-sa)-b*(tb-ta))(e:b=0):d*(ta-sa)=a*(sb-sa):=by subst e;grind
theorem q4{d a b sa sb ta tb:Int}(h:d*(ta-sa)=a*(sb-sa)-b*(tb-ta))(e:b=d):d*(tb-sa)=a*(sb-sa):=by subst e;grind
theorem z13{d a b sa sb ta tb:Int}(h:d*(ta-sa)=a*(sb-sa)-b*(tb-ta))(e:a=0)(f:b=0):d*(ta-sa)=0:=by subst e f;grind
theorem z14{d a b sa sb ta tb:Int}(h:d*(ta-sa)=a*(sb-sa)-b*(tb-ta))(e:a=0)(f:b=d):d*(tb-sa)=0:=by subst e f;grind
theorem z23{d a b sa sb ta tb:Int}(h:d*(ta-sa)=a*(sb-sa)-b*(tb-ta))(e:a=d)(f:b=0):d*(ta-sb)=0:=by subst e f;grind
theorem z24{d a b sa sb ta tb:Int}(h:d*(ta-sa)=a*(sb-sa)-b*(tb-ta))(e:a=d)(f:b=d):d*(tb-sb)=0:=by subst e f;grind
theorem aCD(s t:S)(hs:aK s=true)(ht:aK t=true)(hd:cross (sub s.b s.a) (sub t.b t.a)≠0):
  MeetIs s t (pH s t (cross (sub s.b s.a) (sub t.b t.a))):=by
 have hsab:s.a≠s.b:=by intro h;apply hd;rw[h];simp[cross,sub]
 have htab:t.a≠t.b:=by intro h;apply hd;rw[h];simp[cross,sub]
 obtain⟨a0,ha0⟩:∃a,a=cross (sub t.a s.a) (sub t.b t.a):=⟨_,rfl⟩;obtain⟨b0,hb0⟩:∃a,a=cross (sub t.a s.a) (sub s.b s.a):=⟨_,rfl⟩;obtain⟨d0,hd0⟩:∃a,a=cross (sub s.b s.a) (sub t.b t.a):=⟨_,rfl⟩;have f1:cross (sub t.b t.a) (sub s.a t.a)=a0:=by rw[ha0];simp only[cross,sub];grind
 have f2:cross (sub t.b t.a) (sub s.b t.a)=a0-d0:=by rw[ha0,hd0];simp only[cross,sub];grind
 have f3:cross (sub s.b s.a) (sub t.a s.a)= -b0:=by rw[hb0];simp only[cross,sub];grind
 have f4:cross (sub s.b s.a) (sub t.b s.a)=d0-b0:=by rw[hb0,hd0];simp only[cross,sub];grind
 have gx:d0*(t.a.x-s.a.x)=a0*(s.b.x-s.a.x)-b0*(t.b.x-t.a.x):=by rw[ha0,hb0,hd0];simp only[cross,sub];grind
 have gy:d0*(t.a.y-s.a.y)=a0*(s.b.y-s.a.y)-b0*(t.b.y-t.a.y):=by rw[ha0,hb0,hd0];simp only[cross,sub];grind
 rw[<-hd0]at hd;obtain⟨a,b,d,hdp,hx,hy,hab⟩:∃a b d:Int,0<d/\d*(t.a.x-s.a.x)=a*(s.b.x-s.a.x)-b*(t.b.x-t.a.x)/\d*(t.a.y-s.a.y)=a*(s.b.y-s.a.y)-b*(t.b.y-t.a.y)/\((d0<0/\a= -a0/\b= -b0/\d= -d0)\/(¬d0<0/\a=a0/\b=b0/\d=d0)):=by
  by_cases h:d0<0
  ·exact⟨-a0,-b0,-d0,by omega,by simp only[Int.neg_mul];omega,by simp only[Int.neg_mul];omega,.inl ⟨h,rfl,rfl,rfl⟩⟩
  ·exact⟨a0,b0,d0,by omega,gx,gy,.inr ⟨h,rfl,rfl,rfl⟩⟩
 have hK:pH s t d0=if a<0\/d<a\/b<0\/d<b then 0 else if a=0\/a=d\/b=0\/b=d then 1 else 2:=by
  unfold pH;simp only[<-ha0,<-hb0];rcases hab with⟨h,rfl,rfl,rfl⟩|⟨h,rfl,rfl,rfl⟩<;>simp only[h,if_true,if_false]
 have c1:bZ s t s.a↔(a=0/\0<=b/\b<=d):=by
  unfold bZ;rw[eR ht,f1];have e:a0=0↔a=0:=by clear gx gy hx hy;omega
  rw[e];constructor
  ·rintro⟨_,h1,h2⟩;exact⟨h2,(nO t s.a d b hdp (q1 hx h2) (q1 hy h2) htab).1 h1⟩
  ·rintro⟨h2,h3⟩;exact⟨gX hs,(nO t s.a d b hdp (q1 hx h2) (q1 hy h2) htab).2 h3,h2⟩
 have c2:bZ s t s.b↔(a=d/\0<=b/\b<=d):=by
  unfold bZ;rw[eR ht,f2];have e:a0-d0=0↔a=d:=by clear gx gy hx hy;omega
  rw[e];constructor
  ·rintro⟨_,h1,h2⟩;exact⟨h2,(nO t s.b d b hdp (q2 hx h2) (q2 hy h2) htab).1 h1⟩
  ·rintro⟨h2,h3⟩;exact⟨mZ hs,(nO t s.b d b hdp (q2 hx h2) (q2 hy h2) htab).2 h3,h2⟩
 have c3:bZ s t t.a↔(b=0/\0<=a/\a<=d):=by
  unfold bZ;rw[eR hs,f3];have e: -b0=0↔b=0:=by clear gx gy hx hy;omega
  rw[e];constructor
  ·rintro⟨⟨h1,h2⟩,_⟩;exact⟨h2,(nO s t.a d a hdp (q3 hx h2) (q3 hy h2) hsab).1 h1⟩
  ·rintro⟨h2,h3⟩;exact⟨⟨(nO s t.a d a hdp (q3 hx h2) (q3 hy h2) hsab).2 h3,h2⟩,gX ht⟩
 have c4:bZ s t t.b↔(b=d/\0<=a/\a<=d):=by
  unfold bZ;rw[eR hs,f4];have e:d0-b0=0↔b=d:=by clear gx gy hx hy;omega
  rw[e];constructor
  ·rintro⟨⟨h1,h2⟩,_⟩;exact⟨h2,(nO s t.b d a hdp (q4 hx h2) (q4 hy h2) hsab).1 h1⟩
  ·rintro⟨h2,h3⟩;exact⟨⟨(nO s t.b d a hdp (q4 hx h2) (q4 hy h2) hsab).2 h3,h2⟩,mZ ht⟩
 have hT:(turn s.a s.b t.a*turn s.a s.b t.b<0/\turn t.a t.b s.a*turn t.a t.b s.b<0)↔(0<a/\a<d/\0<b/\b<d):=by
  unfold turn;rw[nZ,nZ,f1,f2,f3,f4];clear hx hy gx gy c1 c2 c3 c4 f1 f2 f3 f4 hK ha0 hb0 hd0;rcases hab with⟨h,rfl,rfl,rfl⟩|⟨h,rfl,rfl,rfl⟩
  ·constructor
   ·rintro⟨h1|h1,h2|h2⟩<;>omega
   ·rintro⟨h1,h2,h3,h4⟩;exact⟨.inl (by omega),.inr (by omega)⟩
  ·constructor
   ·rintro⟨h1|h1,h2|h2⟩<;>omega
   ·rintro⟨h1,h2,h3,h4⟩;exact⟨.inr (by omega),.inl (by omega)⟩
 rw[<-hd0,hK];clear ha0 hb0 gx gy;clear hK f1 f2 f3 f4;have hone:∀p q,p∈[s.a,s.b,t.a,t.b]->q∈[s.a,s.b,t.a,t.b]->bZ s t p->bZ s t q->p=q:=by
  have zz:∀x:Int,d*x=0->x=0:=fun x h=>by rcases Int.mul_eq_zero.1 h with h|h<;>omega
  have e13:bZ s t s.a->bZ s t t.a->s.a=t.a:=by
   rw[c1,c3];rintro⟨h1,_⟩ ⟨h2,_⟩;have h3:=zz _ (z13 hx h1 h2);have h4:=zz _ (z13 hy h1 h2);cases hsa:s.a;cases hta:t.a;simp only[hsa,hta]at h3 h4;simp;omega
  have e14:bZ s t s.a->bZ s t t.b->s.a=t.b:=by
   rw[c1,c4];rintro⟨h1,_⟩ ⟨h2,_⟩;have h3:=zz _ (z14 hx h1 h2);have h4:=zz _ (z14 hy h1 h2);cases hsa:s.a;cases hta:t.b;simp only[hsa,hta]at h3 h4;simp;omega
  have e23:bZ s t s.b->bZ s t t.a->s.b=t.a:=by
   rw[c2,c3];rintro⟨h1,_⟩ ⟨h2,_⟩;have h3:=zz _ (z23 hx h1 h2);have h4:=zz _ (z23 hy h1 h2);cases hsa:s.b;cases hta:t.a;simp only[hsa,hta]at h3 h4;simp;omega
  have e24:bZ s t s.b->bZ s t t.b->s.b=t.b:=by
   rw[c2,c4];rintro⟨h1,_⟩ ⟨h2,_⟩;have h3:=zz _ (z24 hx h1 h2);have h4:=zz _ (z24 hy h1 h2);cases hsa:s.b;cases hta:t.b;simp only[hsa,hta]at h3 h4;simp;omega
  have e12:bZ s t s.a->bZ s t s.b->False:=by rw[c1,c2];clear hx hy;omega
  have e34:bZ s t t.a->bZ s t t.b->False:=by rw[c3,c4];clear hx hy;omega
  intro p q hp hq h1 h2;simp only[List.mem_cons,List.not_mem_nil,or_false]at hp hq;rcases hp with rfl|rfl|rfl|rfl<;>rcases hq with rfl|rfl|rfl|rfl
  ·rfl
  ·exact(e12 h1 h2).elim
  ·exact e13 h1 h2
  ·exact e14 h1 h2
  ·exact(e12 h2 h1).elim
  ·rfl
  ·exact e23 h1 h2
  ·exact e24 h1 h2
  ·exact(e13 h2 h1).symm
  ·exact(e23 h2 h1).symm
  ·rfl
  ·exact(e34 h1 h2).elim
  ·exact(e14 h2 h1).symm
  ·exact(e24 h2 h1).symm
  ·exact(e34 h2 h1).elim
  ·rfl
 clear hx hy hd0 hab hd;have hno:(∀p,p∈[s.a,s.b,t.a,t.b]->¬bZ s t p)->¬bZ s t s.a/\¬bZ s t s.b/\¬bZ s t t.a/\¬bZ s t t.b:=
  fun h=>⟨h _ (by simp),h _ (by simp),h _ (by simp),h _ (by simp)⟩
 constructor
 ·intro h;rw[hs,ht]at h;cases h
 ·intro p q hp hq hne h1 h2;exact absurd (hone p q hp hq h1 h2) hne
 ·rintro _ _ ⟨p,hp,h⟩;simp only[List.mem_cons,List.not_mem_nil,or_false]at hp;rcases hp with rfl|rfl|rfl|rfl
  ·rw[c1]at h;rw[if_neg (by omega),if_pos (by omega)]
  ·rw[c2]at h;rw[if_neg (by omega),if_pos (by omega)]
  ·rw[c3]at h;rw[if_neg (by omega),if_pos (by omega)]
  ·rw[c4]at h;rw[if_neg (by omega),if_pos (by omega)]
 ·intro _ _ h;rw[hT]at h;rw[if_neg (by omega),if_neg (by omega)]
 ·intro _ h1 h;rw[hT]at h;have h2:=hno h1;rw[c1,c2,c3,c4]at h2;by_cases h3:a<0\/d<a\/b<0\/d<b
  ·rw[if_pos h3]
  ·exfalso;omega
def leV(p q:V):Prop:=p.y<q.y\/(p.y=q.y/\p.x<=q.x)
instance(p q:V):Decidable (leV p q):=by unfold leV;infer_instance
theorem kK(p:V):leV p p:= .inr ⟨rfl,Int.le_refl _⟩
theorem mD{p q r:V}(h1:leV p q)(h2:leV q r):leV p r:=by unfold leV at*;omega
theorem uH{p q:V}(h1:leV p q)(h2:leV q p):p=q:=by
 cases p;cases q;unfold leV at*;simp only[V.mk.injEq];simp only at h1 h2;omega
theorem oX(p q:V):leV p q\/leV q p:=by unfold leV;omega
theorem gG(p q:V):bX p q=true↔¬leV q p:=by unfold bX leV;simp;omega
theorem iA(p q:V):bX p q=false↔leV q p:=by
 rw[<-Bool.not_eq_true,gG];exact Decidable.not_not
theorem pB(p q:V):fF p q=0↔p=q:=by
 cases p;cases q;unfold fF fV;simp only[V.mk.injEq];grind
theorem Qr(p q:V):fF p q= -1↔bX p q=true:=by
 unfold fF fV bX;simp only[Bool.or_eq_true,Bool.and_eq_true,decide_eq_true_eq,beq_iff_eq];grind
theorem yT(p q:V):fF p q<0↔bX p q=true:=by
 unfold fF fV bX;simp only[Bool.or_eq_true,Bool.and_eq_true,decide_eq_true_eq,beq_iff_eq];grind
theorem aNW(s:S):leV (loS s) s.a/\leV (loS s) s.b/\leV s.a (hiS s)/\leV s.b (hiS s):=by
 unfold loS hiS;cases h:bX s.b s.a
 ·have:=(iA _ _).1 h;simp[this,kK]
 ·have h1:=(gG _ _).1 h;have h2:leV s.b s.a:=(oX s.b s.a).elim id (fun h=>absurd h h1)
  simp[h2,kK]
theorem Xw(s:S):(loS s=s.a/\hiS s=s.b)\/(loS s=s.b/\hiS s=s.a):=by
 unfold loS hiS;cases bX s.b s.a<;>simp
theorem Qv(s:S)(p:V)(hne:s.a≠s.b)(hc:cross (sub s.b s.a) (sub p s.a)=0):gJ s p=true↔(leV (loS s) p/\leV p (hiS s)):=by
 simp only[cross,sub]at hc;by_cases hy:s.b.y=s.a.y
 ·have hx:s.b.x≠s.a.x:=by
   intro hx;apply hne;cases hsa:s.a;cases hsb:s.b;simp only[hsa,hsb]at hx hy;simp[hx,hy]
  have hpy:p.y=s.a.y:=by
   have h0:s.b.y-s.a.y=0:=by omega
   rw[h0]at hc;have:(s.b.x-s.a.x)*(p.y-s.a.y)=0:=by omega
   rcases Int.mul_eq_zero.1 this with h|h<;>omega
  unfold loS hiS;cases h:bX s.b s.a
  ·have h1:=(iA _ _).1 h;simp only[gJ,leV,Bool.and_eq_true,decide_eq_true_eq]at*;simp only[Bool.false_eq_true,if_false];clear hc;omega
  ·have h1:=(gG _ _).1 h;simp only[gJ,leV,Bool.and_eq_true,decide_eq_true_eq]at*;simp only[if_true];clear hc;omega
 ·have hxy:p.y=s.a.y->p.x=s.a.x:=by
   intro h;have h0:p.y-s.a.y=0:=by omega
   rw[h0]at hc;have:(s.b.y-s.a.y)*(p.x-s.a.x)=0:=by omega
   rcases Int.mul_eq_zero.1 this with h|h<;>omega
  have hxz:p.y=s.b.y->p.x=s.b.x:=by
   intro h;rw[h]at hc;have:(s.b.y-s.a.y)*(p.x-s.b.x)=0:=by grind
   rcases Int.mul_eq_zero.1 this with h|h<;>omega
  rcases Int.lt_or_gt_of_ne hy with h|h
  ·have hb:=nO s p (s.a.y-s.b.y) (s.a.y-p.y) (by omega) (by grind) (by grind) hne
   rw[hb];have h1:bX s.b s.a=true:=by rw[gG];unfold leV;omega
   unfold loS hiS;rw[h1];simp only[if_true,leV];clear hb hc hne;omega
  ·have hb:=nO s p (s.b.y-s.a.y) (p.y-s.a.y) (by omega) (by grind) (by grind) hne
   rw[hb];have h1:bX s.b s.a=false:=by rw[iA];unfold leV;omega
   unfold loS hiS;rw[h1];simp only[Bool.false_eq_true,if_false,leV];clear hb hc hne;omega
theorem qS{s:S}(h:s.a=s.b){p:V}(hp:gJ s p=true):p=s.a:=by
 cases hsa:s.a;cases hsb:s.b;cases p;simp only[gJ,hsa,hsb,V.mk.injEq,Bool.and_eq_true,decide_eq_true_eq]at*;omega
theorem Cd(u v w:V)(h1:cross u v=0)(h2:cross v w=0)(hv:v≠⟨0,0⟩):cross u w=0:=by
 simp only[cross]at*;by_cases hx:v.x=0
 ·have hy:v.y≠0:=by intro hy;apply hv;cases v;simp at hx hy;simp[hx,hy]
  have:v.y*(u.x*w.y-u.y*w.x)=0:=by grind
  rcases Int.mul_eq_zero.1 this with h|h
  ·exact absurd h hy
  ·exact h
 ·have:v.x*(u.x*w.y-u.y*w.x)=0:=by grind
  rcases Int.mul_eq_zero.1 this with h|h
  ·exact absurd h hx
  ·exact h
theorem Sz{p q:V}(h:p≠q):sub q p≠⟨0,0⟩:=by
 intro h';apply h;cases p;cases q;simp only[sub,V.mk.injEq]at*;omega
theorem nM(s t:S):MeetIs s t (cN s t):=by
 unfold cN;by_cases hv:(aK s&&aK t)=true
 ·have hs:aK s=true:=by simp at hv;exact hv.1
  have ht:aK t=true:=by simp at hv;exact hv.2
  rw[if_neg (by rw[hv];simp)]
  by_cases hd:cross (sub s.b s.a) (sub t.b t.a)≠0
  ·rw[if_pos hd];exact aCD s t hs ht hd
  ·rw[if_neg hd];have hd0:cross (sub s.b s.a) (sub t.b t.a)=0:=by omega
   have hnv:∀k,(aK s&&aK t)=false->k=(0:Int):=by intro k h;rw[hv]at h;cases h
   have hside:¬(turn s.a s.b t.a*turn s.a s.b t.b<0/\turn t.a t.b s.a*turn t.a t.b s.b<0):=by
    rintro⟨h,_⟩;unfold turn at h;rw[nZ]at h;have e:cross (sub s.b s.a) (sub t.b s.a)=cross (sub s.b s.a) (sub t.a s.a)+cross (sub s.b s.a) (sub t.b t.a):=by simp only[cross,sub];grind
    omega
   have allone:∀z,(∀p,p∈[s.a,s.b,t.a,t.b]->bZ s t p->p=z)->bZ s t z->z∈[s.a,s.b,t.a,t.b]->MeetIs s t 1:=by
    intro z hz hzo hzm;refine⟨hnv 1,fun p q hp hq hne h1 h2=>absurd ((hz p hp h1).trans (hz q hq h2).symm) hne,fun _ _ _=>rfl,fun _ h=>absurd hzo (h z hzm),fun _ h=>absurd hzo (h z hzm)⟩
   have nothing:(∀p,p∈[s.a,s.b,t.a,t.b]->¬bZ s t p)->MeetIs s t 0:=by
    intro h;exact⟨fun _=>rfl,fun p _ hp _ _ h1 _=>absurd h1 (h p hp),fun _ _ ⟨p,hp,h1⟩=>absurd h1 (h p hp),fun _ _ h1=>absurd h1 hside,fun _ _ _=>rfl⟩
   by_cases h1:s.a=s.b/\onS t s.a=true
   ·rw[if_pos h1];exact allone s.a (fun p _ h=>qS h1.1 ((eR hs).1 h.1).1) ⟨gX hs,h1.2⟩ (by simp)
   ·rw[if_neg h1];by_cases h2:t.a=t.b/\onS s t.a=true
    ·rw[if_pos h2];exact allone t.a (fun p _ h=>qS h2.1 ((eR ht).1 h.2).1) ⟨h2.2,gX ht⟩ (by simp)
    ·rw[if_neg h2];by_cases h3:s.a=s.b\/t.a=t.b\/turn s.a s.b t.a≠0
     ·rw[if_pos h3];apply nothing;rintro p hp ⟨hps,hpt⟩;by_cases hsd:s.a=s.b
      ·have:=qS hsd ((eR hs).1 hps).1;rw[this]at hpt;exact h1 ⟨hsd,hpt⟩
      ·by_cases htd:t.a=t.b
       ·have:=qS htd ((eR ht).1 hpt).1;rw[this]at hps;exact h2 ⟨htd,hps⟩
       ·have h4:turn s.a s.b t.a≠0:=by
         rcases h3 with h|h|h
         ·exact absurd h hsd
         ·exact absurd h htd
         ·exact h
        have c1:=((eR hs).1 hps).2;have c2:=((eR ht).1 hpt).2;have hv0:=Sz htd;have c3:=Cd _ _ _ hd0 c2 hv0;apply h4;unfold turn;rw[kI];have e:cross (sub s.b s.a) (sub t.a s.a)=cross (sub s.b s.a) (sub p s.a)-cross (sub s.b s.a) (sub p t.a):=by simp only[cross,sub];grind
        omega
     ·rw[if_neg h3];have hsd:s.a≠s.b:=fun h=>h3 (.inl h)
      have htd:t.a≠t.b:=fun h=>h3 (.inr (.inl h))
      have hta:cross (sub s.b s.a) (sub t.a s.a)=0:=by
       have:turn s.a s.b t.a=0:=Decidable.byContradiction fun h=>h3 (.inr (.inr h))
       unfold turn at this;rwa[kI]at this
      have hl1:∀p,p∈[s.a,s.b,t.a,t.b]->cross (sub s.b s.a) (sub p s.a)=0:=by
       intro p hp;simp only[List.mem_cons,List.not_mem_nil,or_false]at hp;rcases hp with rfl|rfl|rfl|rfl
       ·simp[cross,sub]
       ·simp only[cross];grind
       ·exact hta
       ·have e:cross (sub s.b s.a) (sub t.b s.a)=cross (sub s.b s.a) (sub t.a s.a)+cross (sub s.b s.a) (sub t.b t.a):=by simp only[cross,sub];grind
        omega
      have hl2:∀p,p∈[s.a,s.b,t.a,t.b]->cross (sub t.b t.a) (sub p t.a)=0:=by
       intro p hp;have h5:=hl1 p hp;have e:cross (sub s.b s.a) (sub p t.a)=cross (sub s.b s.a) (sub p s.a)-cross (sub s.b s.a) (sub t.a s.a):=by simp only[cross,sub];grind
       have h6:cross (sub s.b s.a) (sub p t.a)=0:=by omega
       have h7:cross (sub t.b t.a) (sub s.b s.a)=0:=by
        have:cross (sub t.b t.a) (sub s.b s.a)= -cross (sub s.b s.a) (sub t.b t.a):=by simp only[cross,sub];grind
        omega
       exact Cd _ _ _ h7 h6 (Sz hsd)
      have hlo:leV (loS s) (cM s t)/\leV (loS t) (cM s t)/\(cM s t=loS s\/cM s t=loS t):=by
       unfold cM;cases h:bX (loS s) (loS t)
       ·have:=(iA _ _).1 h;simp[this,kK]
       ·have h':=(gG _ _).1 h;have:leV (loS s) (loS t):=(oX _ _).elim id (fun h=>absurd h h')
        simp[this,kK]
      have hhi:leV (cT s t) (hiS s)/\leV (cT s t) (hiS t)/\(cT s t=hiS s\/cT s t=hiS t):=by
       unfold cT;cases h:bX (hiS t) (hiS s)
       ·have:=(iA _ _).1 h;simp[this,kK]
       ·have h':=(gG _ _).1 h;have:leV (hiS t) (hiS s):=(oX _ _).elim id (fun h=>absurd h h')
        simp[this,kK]
      have hmem:∀p,(p=loS s\/p=hiS s\/p=loS t\/p=hiS t)->p∈[s.a,s.b,t.a,t.b] :=by
       intro p h;have h5:=Xw s;have h6:=Xw t;simp only[List.mem_cons,List.not_mem_nil,or_false];grind
      have hon:∀p,p∈[s.a,s.b,t.a,t.b]->(bZ s t p↔leV (cM s t) p/\leV p (cT s t)):=by
       intro p hp;unfold bZ;rw[eR hs,eR ht,Qv s p hsd (hl1 p hp),Qv t p htd (hl2 p hp)];constructor
       ·rintro⟨⟨⟨a1,a2⟩,_⟩,⟨b1,b2⟩,_⟩;refine⟨?_,?_⟩
        ·rcases hlo.2.2 with h|h<;>rw[h] <;>assumption
        ·rcases hhi.2.2 with h|h<;>rw[h] <;>assumption
       ·rintro⟨a1,a2⟩;exact⟨⟨⟨mD hlo.1 a1,mD a2 hhi.1⟩,hl1 p hp⟩,⟨mD hlo.2.1 a1,mD a2 hhi.2.1⟩,hl2 p hp⟩
      have mlo:cM s t∈[s.a,s.b,t.a,t.b] :=hmem _ (by rcases hlo.2.2 with h|h<;>simp[h])
      have mhi:cT s t∈[s.a,s.b,t.a,t.b] :=hmem _ (by rcases hhi.2.2 with h|h<;>simp[h])
      by_cases h5:fF (cM s t) (cT s t)=0
      ·rw[if_pos h5];have e:=(pB _ _).1 h5;refine allone (cM s t) ?_ ((hon _ mlo).2 ⟨kK _,by rw[e];exact kK _⟩) mlo
       intro p hp h;have h6:=(hon p hp).1 h;rw[<-e]at h6;exact uH h6.2 h6.1
      ·rw[if_neg h5];by_cases h6:fF (cM s t) (cT s t)= -1
       ·rw[if_pos h6];have h7:=(gG _ _).1 ((Qr _ _).1 h6);have h8:leV (cM s t) (cT s t):=(oX _ _).elim id (fun h=>absurd h h7)
        have o1:=(hon _ mlo).2 ⟨kK _,h8⟩;have o2:=(hon _ mhi).2 ⟨h8,kK _⟩;have hne:cM s t≠cT s t:=fun h=>h5 ((pB _ _).2 h)
        exact⟨fun h=>absurd h (by rw[hv];simp),fun _ _ _ _ _ _ _=>rfl,fun _ h _=>absurd (h _ _ mlo mhi o1 o2) hne,fun _ h=>absurd o1 (h _ mlo),fun _ h=>absurd o1 (h _ mlo)⟩
       ·rw[if_neg h6];apply nothing;intro p hp h;have h7:=(hon p hp).1 h;have h8:=mD h7.1 h7.2;have h9:¬bX (cM s t) (cT s t)=true:=fun h=>h6 ((Qr _ _).2 h)
        rw[gG]at h9;exact h5 ((pB _ _).2 (uH h8 (Decidable.not_not.1 h9)))
 ·have hv':(aK s&&aK t)=false:=by simpa using hv
  rw[if_pos (by rw[hv'];rfl)]
  have hv3:¬(aK s&&aK t)=true:=by rw[hv'];simp
  refine⟨fun _=>rfl,fun p q _ _ _ h1 _=> ?_,fun h=>absurd h hv3,fun h=>absurd h hv3,fun h=>absurd h hv3⟩
  exfalso;apply hv3;obtain⟨h1,h2⟩:=h1;unfold onS at h1 h2;simp only[Bool.and_eq_true]at h1 h2|-;exact⟨h1.1.1,h2.1.1⟩
def tM:List V->V->List V
 |[],p=>[p]
 |q::r,p=>if bX q p then q::tM r p else if q=p then q::r else p::q::r
def kT(l:List V):List V:=l.foldl tM []
theorem Pu(l:List V)(p x:V):x∈tM l p↔x=p\/x∈l:=by
 induction l with
 |nil=>simp[tM]
 |cons q r ih=>
  unfold tM;split
  ·simp only[List.mem_cons,ih];grind
  ·split
   ·rename_i h;subst h;simp
   ·simp only[List.mem_cons]
theorem Hp(l acc:List V)(x:V):x∈l.foldl tM acc↔x∈acc\/x∈l:=by
 induction l generalizing acc with
 |nil=>simp
 |cons q r ih=>rw[List.foldl_cons,ih,Pu];simp only[List.mem_cons];grind
theorem Rp(l:List V)(x:V):x∈kT l↔x∈l:=by unfold kT;rw[Hp];simp
theorem mH{p q r:V}(h1:bX p q=true)(h2:bX q r=true):bX p r=true:=by
 unfold bX at*;simp only[Bool.or_eq_true,Bool.and_eq_true,decide_eq_true_eq,beq_iff_eq]at*;omega
theorem mU(p:V):bX p p=false:=by unfold bX;simp
theorem vZ{p q:V}(h1:bX p q=false)(h2:p≠q):bX q p=true:=by
 rw[gG];intro h;exact h2 (uH h ((iA _ _).1 h1))
theorem Rv(l:List V)(p:V)(h:l.Pairwise (fun a b=>bX a b=true)):(tM l p).Pairwise (fun a b=>bX a b=true):=by
 induction l with
 |nil=>simp[tM]
 |cons q r ih=>
  rw[List.pairwise_cons]at h;unfold tM;split
  ·rename_i hq;rw[List.pairwise_cons];refine⟨?_,ih h.2⟩;intro x hx;rcases(Pu _ _ _).1 hx with rfl|hx
   ·exact hq
   ·exact h.1 x hx
  ·rename_i hq;split
   ·rw[List.pairwise_cons];exact h
   ·rename_i hne;have hpq:=vZ (by simpa using hq) hne
    rw[List.pairwise_cons,List.pairwise_cons];refine⟨?_,h⟩;intro x hx;rcases List.mem_cons.1 hx with rfl|hx
    ·exact hpq
    ·exact mH hpq (h.1 x hx)
theorem zT(l acc:List V)(h:acc.Pairwise (fun a b=>bX a b=true)):(l.foldl tM acc).Pairwise (fun a b=>bX a b=true):=by
 induction l generalizing acc with
 |nil=>exact h
 |cons q r ih=>exact ih _ (Rv acc q h)
theorem vB(l:List V):(kT l).Pairwise (fun a b=>bX a b=true):=zT l [] List.Pairwise.nil
def ends(s t:S):List V:=[s.a,s.b,t.a,t.b]
def gC(s t:S):List V:=kT ((ends s t).filter (fun p=>onS s p&&onS t p))
theorem uQ(s t:S)(p:V):p∈gC s t↔p∈ends s t/\bZ s t p:=by
 unfold gC bZ;rw[Rp,List.mem_filter];simp
def jH(s:S)(p:V):Int:=if !(aK s)|| !(aJ p 4000)then 0 else turn s.a s.b p
def dR(s t:S):Int:=
 if !(aK s&&aK t)then 0
 else if 1<(gC s t).length then 3
 else if(gC s t).length=1 then 1
 else if jH s t.a*jH s t.b<0/\jH t s.a*jH t s.b<0 then 2
 else 0
theorem oK(s t:S):cN s t=dR s t:=by
 have h:=nM s t;obtain⟨k,hk⟩:∃k,k=cN s t:=⟨_,rfl⟩;rw[<-hk]at h|-;clear hk;unfold dR;cases hv:(aK s&&aK t)with
 |false=>simp[h.none hv]
 |true=>
  have hs:aK s=true:=by simp at hv;exact hv.1
  have ht:aK t=true:=by simp at hv;exact hv.2
  have ws:=hs;have wt:=ht;unfold aK at ws wt;simp only[Bool.and_eq_true]at ws wt;simp only[Bool.not_true,Bool.false_eq_true,if_false,jH,hs,ht,ws,wt,Bool.or_self];have hp:=vB ((ends s t).filter (fun p=>onS s p&&onS t p))
  have hm:=uQ s t;rw[show kT ((ends s t).filter (fun p=>onS s p&&onS t p))=gC s t from rfl]at hp
  generalize gC s t=l at hp hm;match l,hp,hm with
  |[],_,hm=>
   have hno:∀p,p∈[s.a,s.b,t.a,t.b]->¬bZ s t p:=fun p hp ho=>by have:=(hm p).2 ⟨hp,ho⟩;cases this
   simp only[List.length_nil];rw[if_neg (by omega),if_neg (by omega)]
   by_cases hc:turn s.a s.b t.a*turn s.a s.b t.b<0/\turn t.a t.b s.a*turn t.a t.b s.b<0
   ·rw[if_pos hc];exact h.cross hv hno hc
   ·rw[if_neg hc];exact h.else_ hv hno hc
  |[z],_,hm=>
   simp only[List.length_singleton];rw[if_neg (by omega),if_pos trivial]
   have hz:=(hm z).1 (by simp)
   refine h.touch hv ?_ ⟨z,hz⟩;intro p q hp hq h1 h2;have e1:=(hm p).2 ⟨hp,h1⟩;have e2:=(hm q).2 ⟨hq,h2⟩;simp at e1 e2;rw[e1,e2]
  |z::y::r,hp,hm=>
   simp only[List.length_cons];rw[if_pos (by omega)]
   have hz:=(hm z).1 (by simp)
   have hy:=(hm y).1 (by simp)
   refine h.over z y hz.1 hy.1 ?_ hz.2 hy.2;intro e;rw[List.pairwise_cons]at hp;have:=hp.1 y (by simp)
   rw[e,mU]at this;cases this
end Go.Proofs.YtdaeofhdgabhjaaGreat.Geo
namespace Go.Proofs.YtdaeofhdgabhjaaGreat.Geo
abbrev aC:=List V
def nth(r:aC)(i:Nat):V:=r.getD i default
def nxt(r:aC)(i:Nat):V:=nth r ((i+1) % r.length)
def prv(r:aC)(i:Nat):V:=nth r ((i+r.length-1) % r.length)
def cO(r:aC)(i:Nat):S:=⟨nth r i,nxt r i⟩
def edges(r:aC):List S:=if r.length<2 then []else(List.range r.length).map (cO r)
def area(r:aC):Int:=((List.range r.length).map fun i=>cross (nth r i) (nxt r i)).sum
def near(r:aC):Bool:=r.all fun v=>aJ v 2000
def cB(r:aC):Bool:=
 decide (3<=r.length)&&decide (r.length<=40)&&near r&&decide (0<area r)&&
 ((List.range r.length).all fun i=>turn (prv r i) (nth r i) (nxt r i) !=0)&&
 ((List.range r.length).all fun i=>(List.range r.length).all fun k=>decide (k<=i)||k==i+1||(i==0&&k==r.length-1)||cN (cO r i) (cO r k)==0)
def dS(r:aC):Bool:=
 decide (3<=r.length)&&decide (r.length<=40)&&near r&&
 ((List.range r.length).all fun i=>turn (nth r i) (nth r ((i+1) % r.length)) (nth r ((i+2) % r.length)) !=0)&&
 ((List.range r.length).all fun i=>(List.range r.length).all fun k=>decide (k<=i)||
   (if k=i+1\/(i=0/\k=r.length-1)then dR (cO r i) (cO r k)==1 else dR (cO r i) (cO r k)==0))&&
 decide (0<area r)
theorem rM(a b c:V):turn a b c=turn b c a:=by
 unfold turn;congr 1;simp only[cross,sub];grind
theorem Iq(a b c:V):cross (sub b a) (sub c a)= -cross (sub a b) (sub c b):=by simp only[cross,sub];grind
theorem Pv(s t:S)(hs:aK s=true)(ht:aK t=true)(he:s.b=t.a)(hn:turn s.a s.b t.b≠0):cN s t=1:=by
 have h:=nM s t;have hb:bZ s t s.b:=⟨mZ hs,by rw[he];exact gX ht⟩
 refine h.touch (by rw[hs,ht];rfl) ?_ ⟨s.b,by simp,hb⟩
 have key:∀p,p∈[s.a,s.b,t.a,t.b]->bZ s t p->p=s.b:=by
  intro p hp ho;simp only[List.mem_cons,List.not_mem_nil,or_false]at hp;rcases hp with rfl|rfl|rfl|rfl
  ·exfalso;apply hn;have:=((eR ht).1 ho.2).2;rw[rM];unfold turn;rw[kI,he];exact this
  ·rfl
  ·exact he.symm
  ·exfalso;apply hn;have:=((eR hs).1 ho.1).2;unfold turn;rw[kI];exact this
 intro p q hp hq h1 h2;rw[key p hp h1,key q hq h2]
theorem hU(s t:S):cN s t=cN t s:=by
 have h1:=nM s t;have h2:=nM t s;have hmem:∀p,p∈[s.a,s.b,t.a,t.b] ↔p∈[t.a,t.b,s.a,s.b] :=by intro p;simp only[List.mem_cons,List.not_mem_nil,or_false];grind
 have hob:∀p,bZ s t p↔bZ t s p:=fun p=>And.comm
 cases hv:(aK s&&aK t)with
 |false=>rw[h1.none hv,h2.none (by rw[Bool.and_comm];exact hv)]
 |true=>
  have hv':(aK t&&aK s)=true:=by rw[Bool.and_comm];exact hv
  by_cases hx:∃p,p∈[s.a,s.b,t.a,t.b]/\bZ s t p
  ·by_cases hu:∀p q,p∈[s.a,s.b,t.a,t.b]->q∈[s.a,s.b,t.a,t.b]->bZ s t p->bZ s t q->p=q
   ·rw[h1.touch hv hu hx,h2.touch hv' (fun p q hp hq a b=>hu p q ((hmem p).2 hp) ((hmem q).2 hq) ((hob p).2 a) ((hob q).2 b))]
    obtain⟨p,hp,ho⟩:=hx;exact⟨p,(hmem p).1 hp,(hob p).1 ho⟩
   ·have:∃p q,p∈[s.a,s.b,t.a,t.b]/\q∈[s.a,s.b,t.a,t.b]/\p≠q/\bZ s t p/\bZ s t q:=by
     apply Classical.byContradiction;intro hno;apply hu;intro p q hp hq a b;apply Classical.byContradiction;intro hne;exact hno ⟨p,q,hp,hq,hne,a,b⟩
    obtain⟨p,q,hp,hq,hne,a,b⟩:=this;rw[h1.over p q hp hq hne a b,h2.over p q ((hmem p).1 hp) ((hmem q).1 hq) hne ((hob p).1 a) ((hob q).1 b)]
  ·have hno:∀p,p∈[s.a,s.b,t.a,t.b]->¬bZ s t p:=fun p hp ho=>hx ⟨p,hp,ho⟩
   have hno':∀p,p∈[t.a,t.b,s.a,s.b]->¬bZ t s p:=fun p hp ho=>hno p ((hmem p).2 hp) ((hob p).2 ho)
   by_cases hc:turn s.a s.b t.a*turn s.a s.b t.b<0/\turn t.a t.b s.a*turn t.a t.b s.b<0
   ·rw[h1.cross hv hno hc,h2.cross hv' hno' ⟨hc.2,hc.1⟩]
   ·rw[h1.else_ hv hno hc,h2.else_ hv' hno' (fun h=>hc ⟨h.2,h.1⟩)]
theorem dD{v:V}{m n:Int}(h:aJ v m=true)(hmn:m<=n):aJ v n=true:=by
 unfold aJ at*;simp only[Bool.and_eq_true,decide_eq_true_eq]at*;omega
theorem rR{r:aC}(h:near r=true)(i:Nat)(hi:i<r.length):aJ (nth r i) 2000=true:=by
 unfold near at h;rw[List.all_eq_true]at h;unfold nth;rw[List.getD_eq_getElem?_getD,List.getElem?_eq_getElem hi];exact h _ (List.getElem_mem hi)
theorem dQ{r:aC}(h:near r=true)(i:Nat)(hi:i<r.length):aK (cO r i)=true:=by
 unfold aK cO nxt;have h2:(i+1) % r.length<r.length:=Nat.mod_lt _ (by omega)
 simp only[Bool.and_eq_true];exact⟨dD (rR h i hi) (by omega),dD (rR h _ h2) (by omega)⟩
theorem eD{i n:Nat}(h:i<n):i % n=i:=Nat.mod_eq_of_lt h
theorem kJ{i n:Nat}(h1:n<=i)(h2:i<2*n):i % n=i-n:=by
 rw[Nat.mod_eq_sub_mod h1,Nat.mod_eq_of_lt (by omega)]
theorem Ag(r:aC)(hn:3<=r.length):
  ((List.range r.length).all fun i=>turn (prv r i) (nth r i) (nxt r i) !=0)=((List.range r.length).all fun i=>turn (nth r i) (nth r ((i+1) % r.length)) (nth r ((i+2) % r.length)) !=0):=by
 rw[Bool.eq_iff_iff,List.all_eq_true,List.all_eq_true];constructor
 ·intro h i hi;have hi:=List.mem_range.1 hi;have:=h ((i+1) % r.length) (List.mem_range.2 (Nat.mod_lt _ (by omega)))
  unfold prv nxt at this;by_cases h1:i+1<r.length
  ·rw[eD h1]at this|-;have e1:(i+1+r.length-1) % r.length=i:=by rw[show i+1+r.length-1=i+r.length from by omega,kJ (by omega) (by omega)];omega
   rw[e1]at this;exact this
  ·have e0:i+1=r.length:=by omega
   rw[e0,Nat.mod_self]at this|-;have e1:(0+r.length-1) % r.length=i:=by rw[eD (by omega)];omega
   have e2:(i+2) % r.length=(0+1) % r.length:=by rw[kJ (by omega) (by omega),eD (by omega)];omega
   rw[e1]at this;rw[e2];exact this
 ·intro h i hi;have hi:=List.mem_range.1 hi;have:=h ((i+r.length-1) % r.length) (List.mem_range.2 (Nat.mod_lt _ (by omega)))
  unfold prv nxt;by_cases h1:i=0
  ·subst h1;have e1:(0+r.length-1) % r.length=r.length-1:=by rw[eD (by omega)];omega
   rw[e1]at this|-;have e2:(r.length-1+1) % r.length=0:=by rw[show r.length-1+1=r.length from by omega,Nat.mod_self]
   have e3:(r.length-1+2) % r.length=(0+1) % r.length:=by rw[kJ (by omega) (by omega),eD (by omega)];omega
   rw[e2,e3]at this;exact this
  ·have e1:(i+r.length-1) % r.length=i-1:=by rw[kJ (by omega) (by omega)];omega
   rw[e1]at this|-;have e2:(i-1+1) % r.length=i:=by rw[show i-1+1=i from by omega];exact eD hi
   have e3:i-1+2=i+1:=by omega
   rw[e2,e3]at this;exact this
theorem rL(r:aC):cB r=dS r:=by
 unfold cB dS;by_cases h3:3<=r.length
 case neg=>simp[h3]
 by_cases hn:near r=true
 case neg=>simp[hn]
 rw[Ag r h3];cases ht:((List.range r.length).all fun i=>turn (nth r i) (nth r ((i+1) % r.length)) (nth r ((i+2) % r.length)) !=0)with
 |false=>simp
 |true=>
  have hpairs:((List.range r.length).all fun i=>(List.range r.length).all fun k=>decide (k<=i)||k==i+1||(i==0&&k==r.length-1)||cN (cO r i) (cO r k)==0)=
    ((List.range r.length).all fun i=>(List.range r.length).all fun k=>decide (k<=i)||
      (if k=i+1\/(i=0/\k=r.length-1)then dR (cO r i) (cO r k)==1 else dR (cO r i) (cO r k)==0)):=by
   have hturn:∀i,i<r.length->turn (nth r i) (nth r ((i+1) % r.length)) (nth r ((i+2) % r.length))≠0:=by
    intro i hi;rw[List.all_eq_true]at ht;have:=ht i (List.mem_range.2 hi);simpa using this
   have hpt:∀i k,i<r.length->k<r.length->(decide (k<=i)||k==i+1||(i==0&&k==r.length-1)||cN (cO r i) (cO r k)==0)=(decide (k<=i)||
     (if k=i+1\/(i=0/\k=r.length-1)then dR (cO r i) (cO r k)==1 else dR (cO r i) (cO r k)==0)):=by
    intro i k hi hk;rw[<-oK];by_cases hki:k<=i
    ·simp[hki]
    ·by_cases h1:k=i+1
     ·subst h1;have:=Pv (cO r i) (cO r (i+1)) (dQ hn i hi) (dQ hn _ hk) (by unfold cO nxt;simp[eD hk]) (by
       have:=hturn i hi;unfold cO nxt;exact this)
      simp[this]
     ·by_cases h2:i=0/\k=r.length-1
      ·obtain⟨rfl,rfl⟩:=h2;have e1:(r.length-1+1) % r.length=0:=by rw[show r.length-1+1=r.length from by omega,Nat.mod_self]
       have:=Pv (cO r (r.length-1)) (cO r 0) (dQ hn _ hk) (dQ hn _ hi) (by unfold cO nxt;simp only[e1]) (by
        have:=hturn (r.length-1) hk;have e3:(r.length-1+2) % r.length=(0+1) % r.length:=by rw[kJ (by omega) (by omega),eD (by omega)];omega
        rw[e1,e3]at this;unfold cO nxt;simp only[e1];exact this)
       rw[hU]at this;simp[this]
      ·have h3:(i==0&&k==r.length-1)=false:=by
        rw[<-Bool.not_eq_true,Bool.and_eq_true,beq_iff_eq,beq_iff_eq];exact h2
       have h4:(k==i+1)=false:=by rw[beq_eq_false_iff_ne];exact h1
       rw[if_neg (by omega),h3,h4]
       simp
   rw[Bool.eq_iff_iff];simp only[List.all_eq_true,List.mem_range];constructor
   ·intro h i hi k hk;rw[<-hpt i k hi hk];exact h i hi k hk
   ·intro h i hi k hk;rw[hpt i k hi hk];exact h i hi k hk
  rw[hpairs];simp only[Bool.and_true];grind
structure Pt where
 x:Int
 y:Int
 den:Int
deriving DecidableEq,Inhabited
def toV(p:Pt)(v:V):V:=⟨p.x-v.x*p.den,p.y-v.y*p.den⟩
def fK(s:S)(p:Pt):Int:=cross (sub s.b s.a) (toV p s.a)
def onP(s:S)(p:Pt):Bool:=
 fK s p==0&&(decide (min (toV p s.a).x (toV p s.b).x<=0)&&decide (0<=max (toV p s.a).x (toV p s.b).x))&&(decide (min (toV p s.a).y (toV p s.b).y<=0)&&decide (0<=max (toV p s.a).y (toV p s.b).y))
def gW(s:S)(p:Pt):Bool:=
 (decide (0<=(toV p s.a).y) !=decide (0<=(toV p s.b).y))&&(decide (0<=(toV p s.a).y)==decide (0<fK s p))
def onR(s:S)(p:Pt):Bool:=
 (decide (min s.a.x s.b.x*p.den<=p.x)&&decide (p.x<=max s.a.x s.b.x*p.den)&&decide (min s.a.y s.b.y*p.den<=p.y)&&decide (p.y<=max s.a.y s.b.y*p.den))&&sgn (fK s p)==0
def tQ(s:S)(p:Pt):Bool:=
 ((decide (s.a.y*p.den<=p.y)&&decide (p.y<s.b.y*p.den))&&decide (0<sgn (fK s p)))||((decide (s.b.y*p.den<=p.y)&&decide (p.y<s.a.y*p.den))&&decide (sgn (fK s p)<0))
theorem Xq(a b d:Int)(h:0<=d):min a b*d=min (a*d) (b*d):=by
 rcases Int.le_total a b with h1|h1
 ·rw[Int.min_eq_left h1,Int.min_eq_left (Int.mul_le_mul_of_nonneg_right h1 h)]
 ·rw[Int.min_eq_right h1,Int.min_eq_right (Int.mul_le_mul_of_nonneg_right h1 h)]
theorem Xv(a b d:Int)(h:0<=d):max a b*d=max (a*d) (b*d):=by
 rcases Int.le_total a b with h1|h1
 ·rw[Int.max_eq_right h1,Int.max_eq_right (Int.mul_le_mul_of_nonneg_right h1 h)]
 ·rw[Int.max_eq_left h1,Int.max_eq_left (Int.mul_le_mul_of_nonneg_right h1 h)]
theorem aBe(s:S)(p:Pt)(h:0<p.den):onP s p=onR s p:=by
 unfold onP onR toV;rw[Xq _ _ _ (by omega),Xv _ _ _ (by omega),Xq _ _ _ (by omega),Xv _ _ _ (by omega),Bool.eq_iff_iff]
 simp only[Bool.and_eq_true,decide_eq_true_eq,beq_iff_eq,kI];constructor
 ·rintro⟨⟨h1,h2,h3⟩,h4,h5⟩;exact⟨⟨⟨⟨by omega,by omega⟩,by omega⟩,by omega⟩,h1⟩
 ·rintro⟨⟨⟨⟨h1,h2⟩,h3⟩,h4⟩,h5⟩;exact⟨⟨h5,by omega,by omega⟩,by omega,by omega⟩
theorem Um(s:S)(p:Pt)(h0:fK s p=0)(ha:(toV p s.a).y<0)(hb:0<=(toV p s.b).y)(_hd:0<p.den):onP s p=true:=by
 have e:fK s p*p.den=(toV p s.a).x*(toV p s.b).y-(toV p s.a).y*(toV p s.b).x:=by unfold fK toV cross sub;grind
 rw[h0,Int.zero_mul]at e;unfold onP;rw[h0];generalize (toV p s.a).x=ax at*;generalize (toV p s.a).y=ay at*;generalize (toV p s.b).x=bx at*;generalize (toV p s.b).y=b_y at*;simp only[BEq.rfl,Bool.true_and,Bool.and_eq_true,decide_eq_true_eq];have hx:(min ax bx<=0/\0<=max ax bx):=by
  rcases Int.lt_or_le 0 ax with h1|h1
  ·have h2:bx<=0:=by
    rcases Int.lt_or_le 0 bx with h2|h2
    ·have p1:=Int.mul_neg_of_neg_of_pos ha h2;have p2:=Int.mul_nonneg (show 0<=ax by omega) hb
     omega
    ·exact h2
   omega
  ·rcases Int.lt_or_le ax 0 with h1|h1
   ·have h2:0<=bx:=by
     rcases Int.lt_or_le bx 0 with h2|h2
     ·have p1:=Int.mul_pos_of_neg_of_neg ha h2;have p2:=Int.mul_nonneg (show 0<= -ax by omega) hb
      rw[Int.neg_mul]at p2;omega
     ·exact h2
    omega
   ·omega
 refine⟨hx,by omega,by omega⟩
theorem aIb(s:S)(p:Pt)(h:0<p.den)(ho:onP s p=false):gW s p=tQ s p:=by
 have key:(toV p s.a).y<0->0<=(toV p s.b).y->fK s p≠0:=by
  intro h1 h2 h3;rw[Um s p h3 h1 h2 h]at ho;cases ho
 unfold gW tQ;rw[Bool.eq_iff_iff];simp only[Bool.and_eq_true,Bool.or_eq_true,decide_eq_true_eq,bne_iff_ne,ne_eq,beq_iff_eq,yH,aEg,decide_eq_decide];have ey1:(toV p s.a).y=p.y-s.a.y*p.den:=rfl;have ey2:(toV p s.b).y=p.y-s.b.y*p.den:=rfl;generalize (toV p s.a).y=ay at*;generalize (toV p s.b).y=b_y at*;generalize s.a.y*p.den=u at*;generalize s.b.y*p.den=v at*;generalize fK s p=q at*;by_cases h1:0<=ay
 ·by_cases h2:0<=b_y
  ·simp only[h1,h2];constructor
   ·intro h;exact absurd trivial h.1
   ·rintro(h|h)<;>omega
  ·constructor
   ·rintro⟨_,h3⟩;left;exact⟨⟨by omega,by omega⟩,h3.1 h1⟩
   ·rintro(⟨_,h3⟩|h3)
    ·exact⟨by omega,by omega⟩
    ·omega
 ·by_cases h2:0<=b_y
  ·have:=key (by omega) h2
   constructor
   ·rintro⟨_,h3⟩;right;refine⟨⟨by omega,by omega⟩,by omega⟩
   ·rintro(h3|⟨_,h3⟩)
    ·omega
    ·exact⟨by omega,by omega⟩
  ·simp only[h1,h2];constructor
   ·intro h;exact absurd trivial h.1
   ·rintro(h|h)<;>omega
def dI(p:Pt)(m:Int):Bool:=decide (1<=p.den)&&decide (p.den<=134217728)&&aJ ⟨p.x,p.y⟩ (m*p.den)
def cF(p:Pt):Bool:=dI p 4000&&(Nat.gcd (Nat.gcd p.x.natAbs p.y.natAbs) p.den.natAbs==1)
def eQ(p:Pt):List S->Bool->Int
 |[],ins=>if ins then 2 else 0
 |s::l,ins=>if onP s p then 1 else eQ p l (ins !=gW s p)
def sZ(p:Pt):List S->Bool->Int
 |[],ins=>if ins then 2 else 0
 |s::l,ins=>if onR s p then 1 else sZ p l (ins !=tQ s p)
theorem aEh(p:Pt)(h:0<p.den)(l:List S)(ins:Bool):eQ p l ins=sZ p l ins:=by
 induction l generalizing ins with
 |nil=>rfl
 |cons s l ih=>
  unfold eQ sZ;rw[<-aBe s p h];cases ho:onP s p with
  |true=>rfl
  |false=>rw[ih,aIb s p h ho]
def aP(r:aC)(p:Pt):Int:=if !(cB r)|| !(cF p)then 0 else eQ p (edges r) false
def dY(r:aC)(p:Pt):Int:=if !(dS r)|| !(cF p)then 0 else sZ p (edges r) false
theorem yU(r:aC)(p:Pt):aP r p=dY r p:=by
 unfold aP dY;rw[rL];cases hp:cF p with
 |false=>simp
 |true=>
  have:0<p.den:=by
   unfold cF dI at hp;simp only[Bool.and_eq_true,decide_eq_true_eq]at hp;omega
  rw[aEh p this]
def iD(v:V):Pt:=⟨v.x,v.y,1⟩
def bL(r:aC)(v:V):Int:=if !(aJ v 4000)then 0 else aP r (iD v)
def dN(r:aC)(v:V):Int:=if !(aJ v 8000)then 0 else dY r (iD v)
theorem lJ(v:V):cF (iD v)=aJ v 4000:=by
 unfold cF dI iD aJ;simp
theorem oS(r:aC)(v:V):bL r v=dN r v:=by
 unfold bL dN;rw[yU];cases h:aJ v 4000 with
 |true=>rw[dD h (by omega)]
 |false=>
  unfold dY;rw[lJ,h];simp
end Go.Proofs.YtdaeofhdgabhjaaGreat.Geo
namespace Go.Proofs.YtdaeofhdgabhjaaGreat.Geo
structure Shape where
 outer:aC
 holes:List aC
deriving DecidableEq,Inhabited
def aG(s:Shape):List aC:=s.outer::s.holes
def aD(l:List aC)(i:Nat):aC:=l.getD i []
def dU(a b:aC):Bool:=(edges a).all fun x=>(edges b).all fun y=>cN x y==0
def cR(r q:aC)(place:Int):Bool:=r.all fun v=>bL q v==place
def dL(s:Shape):Nat:=((aG s).map List.length).sum
def bV(s:Shape):Bool:=
 decide (s.holes.length<=6)&&(aG s).all cB&&decide (dL s<=80)&&
 ((List.range s.holes.length).all fun i=>cR (aD s.holes i) s.outer 2&&dU (aD s.holes i) s.outer&&
   ((List.range i).all fun k=>dU (aD s.holes i) (aD s.holes k)&&cR (aD s.holes i) (aD s.holes k) 0&&cR (aD s.holes k) (aD s.holes i) 0))
def iG(a b:aC):Bool:=(edges a).any fun x=>(edges b).any fun y=>dR x y !=0
def jD(a b:aC):Bool:=a.all fun v=>dN b v==2
def fO(a b:aC):Bool:=a.any fun v=>dN b v==2
def bD(s:Shape):Bool:=
 decide (s.holes.length<=6)&&dS s.outer&&
 ((List.range s.holes.length).all fun i=>dS (aD s.holes i)&& !iG (aD s.holes i) s.outer&&jD (aD s.holes i) s.outer&&
   ((List.range i).all fun k=> !iG (aD s.holes i) (aD s.holes k)&& !fO (aD s.holes i) (aD s.holes k)&& !fO (aD s.holes k) (aD s.holes i)))&&
 decide (dL s<=80)
theorem Si(a b:aC):dU a b= !iG a b:=by
 unfold dU iG;rw[List.not_any_eq_all_not]
 congr 1;funext x
 rw[List.not_any_eq_all_not]
 congr 1;funext y
 rw[oK];cases h:(dR x y==0)<;>simp_all
theorem oO{s t:S}{p:V}(hp:p∈[s.a,s.b,t.a,t.b])(ho:bZ s t p):cN s t≠0:=by
 have h:=nM s t;have hv:(aK s&&aK t)=true:=by
  obtain⟨h1,h2⟩:=ho;unfold onS at h1 h2;simp only[Bool.and_eq_true]at h1 h2|-;exact⟨h1.1.1,h2.1.1⟩
 by_cases hu:∀p q,p∈[s.a,s.b,t.a,t.b]->q∈[s.a,s.b,t.a,t.b]->bZ s t p->bZ s t q->p=q
 ·rw[h.touch hv hu ⟨p,hp,ho⟩];decide
 ·have:∃p q,p∈[s.a,s.b,t.a,t.b]/\q∈[s.a,s.b,t.a,t.b]/\p≠q/\bZ s t p/\bZ s t q:=by
   apply Classical.byContradiction;intro hno;apply hu;intro p q hp hq a b;apply Classical.byContradiction;intro hne;exact hno ⟨p,q,hp,hq,hne,a,b⟩
  obtain⟨p,q,hp,hq,hne,a,b⟩:=this;rw[h.over p q hp hq hne a b];decide
theorem mem_edges{r:aC}{s:S}:s∈edges r↔2<=r.length/\∃i,i<r.length/\s=cO r i:=by
 unfold edges;split
 ·simp;omega
 ·simp only[List.mem_map,List.mem_range];constructor
  ·rintro⟨i,hi,rfl⟩;exact⟨by omega,i,hi,rfl⟩
  ·rintro⟨_,i,hi,rfl⟩;exact⟨i,hi,rfl⟩
theorem fU{r:aC}{v:V}:v∈r↔∃i,i<r.length/\v=nth r i:=by
 unfold nth;constructor
 ·intro h;obtain⟨i,hi,e⟩:=List.getElem_of_mem h;exact⟨i,hi,by rw[List.getD_eq_getElem?_getD,List.getElem?_eq_getElem hi];exact e.symm⟩
 ·rintro⟨i,hi,rfl⟩;rw[List.getD_eq_getElem?_getD,List.getElem?_eq_getElem hi];exact List.getElem_mem hi
structure VR(r:aC):Prop where
 three:3<=r.length
 most:r.length<=40
 near:near r=true
 area:0<area r
 turn:∀i,i<r.length->turn (prv r i) (nth r i) (nxt r i)≠0
 turn':∀i,i<r.length->Geo.turn (nth r i) (nth r ((i+1) % r.length)) (nth r ((i+2) % r.length))≠0
 apart:∀i k,i<k->k<r.length->k≠i+1->¬(i=0/\k=r.length-1)->cN (cO r i) (cO r k)=0
theorem cL(r:aC):cB r=true↔VR r:=by
 constructor
 ·intro h;unfold cB at h;simp only[Bool.and_eq_true,decide_eq_true_eq,List.all_eq_true,List.mem_range]at h;obtain⟨⟨⟨⟨⟨h1,h2⟩,h3⟩,h4⟩,h5⟩,h6⟩:=h;refine⟨h1,h2,h3,h4,fun i hi=>by simpa using h5 i hi,fun i hi=> ?_,fun i k hik hk h7 h8=> ?_⟩
  ·have:=Ag r h1;have e:((List.range r.length).all fun i=>Geo.turn (prv r i) (nth r i) (nxt r i) !=0)=true:=by
    rw[List.all_eq_true];intro i hi;exact h5 i (List.mem_range.1 hi)
   rw[this,List.all_eq_true]at e;simpa using e i (List.mem_range.2 hi)
  ·have:=h6 i (by omega) k hk
   simp only[Bool.or_eq_true,decide_eq_true_eq,beq_iff_eq,Bool.and_eq_true]at this;omega
 ·rintro⟨h1,h2,h3,h4,h5,_,h6⟩;unfold cB;simp only[Bool.and_eq_true,decide_eq_true_eq,List.all_eq_true,List.mem_range];refine⟨⟨⟨⟨⟨h1,h2⟩,h3⟩,h4⟩,fun i hi=>by simpa using h5 i hi⟩,fun i _ k hk=> ?_⟩
  simp only[Bool.or_eq_true,decide_eq_true_eq,beq_iff_eq,Bool.and_eq_true];by_cases c1:k<=i
  ·exact .inl (.inl (.inl c1))
  ·by_cases c2:k=i+1
   ·exact .inl (.inl (.inr c2))
   ·by_cases c3:i=0/\k=r.length-1
    ·exact .inl (.inr c3)
    ·exact .inr (h6 i k (by omega) hk c2 c3)
theorem aCd{p:Pt}{l:List S}{ins:Bool}(h:eQ p l ins=1):∃s∈l,onP s p=true:=by
 induction l generalizing ins with
 |nil=>unfold eQ at h;split at h<;>omega
 |cons s l ih=>
  unfold eQ at h;cases ho:onP s p with
  |true=>exact⟨s,by simp,ho⟩
  |false=>
   rw[ho]at h;obtain⟨x,hx,h2⟩:=ih h;exact⟨x,List.mem_cons_of_mem _ hx,h2⟩
theorem Gb(p:Pt)(l:List S)(ins:Bool):eQ p l ins=0\/eQ p l ins=1\/eQ p l ins=2:=by
 induction l generalizing ins with
 |nil=>unfold eQ;split<;>simp
 |cons s l ih=>unfold eQ;split;simp;exact ih _
theorem rC(r:aC)(v:V):bL r v=0\/bL r v=1\/bL r v=2:=by
 unfold bL aP;split
 ·simp
 ·split
  ·simp
  ·exact Gb _ _ _
theorem Ep(s:S)(v:V):onP s (iD v)=true↔(gJ s v=true/\cross (sub s.b s.a) (sub v s.a)=0):=by
 unfold onP fK toV iD gJ;simp only[Int.mul_one,Bool.and_eq_true,beq_iff_eq,decide_eq_true_eq];rw[show(⟨v.x-s.a.x,v.y-s.a.y⟩:V)=sub v s.a from rfl]
 constructor
 ·rintro⟨⟨h1,h2,h3⟩,h4,h5⟩;exact⟨⟨⟨⟨by omega,by omega⟩,by omega⟩,by omega⟩,h1⟩
 ·rintro⟨⟨⟨⟨h1,h2⟩,h3⟩,h4⟩,h5⟩;exact⟨⟨h5,by omega,by omega⟩,by omega,by omega⟩
theorem Bq{r:aC}{v:V}(h:bL r v=1):∃s∈edges r,onS s v=true:=by
 unfold bL aP at h;split at h
 ·omega
 ·split at h
  ·omega
  ·rename_i h2;obtain⟨s,hs,ho⟩:=aCd h;refine⟨s,hs,?_⟩;have hv:VR r:=by rw[<-cL];simp at h2;exact h2.1
   obtain⟨_,i,hi,rfl⟩:=mem_edges.1 hs;rw[eR (dQ hv.near i hi)];exact(Ep _ _).1 ho
theorem kQ{a b:aC}(ha:VR a)(h:dU a b=true){v:V}(hv:v∈a){s:S}(hs:s∈edges b)(ho:onS s v=true):False:=by
 obtain⟨i,hi,rfl⟩:=fU.1 hv;have hm:cO a i∈edges a:=mem_edges.2 ⟨by have:=ha.three;omega,i,hi,rfl⟩
 unfold dU at h;rw[List.all_eq_true]at h;have h1:=h _ hm;rw[List.all_eq_true]at h1;have h2:=h1 _ hs;refine oO (s:=cO a i) (t:=s) (p:=nth a i) (by simp[cO]) ⟨?_,ho⟩ (by simpa using h2)
 exact gX (s:=cO a i) (dQ ha.near i hi)
theorem kP(a b:aC):dU a b=dU b a:=by
 unfold dU;rw[Bool.eq_iff_iff];simp only[List.all_eq_true,beq_iff_eq];constructor
 ·intro h y hy x hx;rw[hU];exact h x hx y hy
 ·intro h x hx y hy;rw[hU];exact h y hy x hx
theorem mP{a b:aC}(ha:VR a)(h:dU a b=true):cR a b 0= !fO a b:=by
 unfold cR fO;rw[List.not_any_eq_all_not,Bool.eq_iff_iff];simp only[List.all_eq_true];constructor
 ·intro h1 v hv;have:=h1 v hv;rw[<-oS];simp only[beq_iff_eq]at this;rw[this];rfl
 ·intro h1 v hv;have:=h1 v hv;rw[<-oS]at this;rcases rC b v with e|e|e
  ·rw[e];rfl
  ·exfalso;obtain⟨s,hs,ho⟩:=Bq e;exact kQ ha h hv hs ho
  ·rw[e]at this;cases this
theorem fQ{l:List aC}{i:Nat}(h:i<l.length):aD l i∈l:=by
 unfold aD;rw[List.getD_eq_getElem?_getD,List.getElem?_eq_getElem h];exact List.getElem_mem h
theorem mQ{l:List aC}{r:aC}(h:r∈l):∃i,i<l.length/\r=aD l i:=by
 obtain⟨i,hi,e⟩:=List.getElem_of_mem h;exact⟨i,hi,by unfold aD;rw[List.getD_eq_getElem?_getD,List.getElem?_eq_getElem hi];exact e.symm⟩
structure VS(s:Shape):Prop where
 few:s.holes.length<=6
 outer:VR s.outer
 hole:∀i,i<s.holes.length->VR (aD s.holes i)
 corners:dL s<=80
 ins:∀i,i<s.holes.length->cR (aD s.holes i) s.outer 2=true
 apo:∀i,i<s.holes.length->dU (aD s.holes i) s.outer=true
 aph:∀i k,k<i->i<s.holes.length->dU (aD s.holes i) (aD s.holes k)=true
 out1:∀i k,k<i->i<s.holes.length->cR (aD s.holes i) (aD s.holes k) 0=true
 out2:∀i k,k<i->i<s.holes.length->cR (aD s.holes k) (aD s.holes i) 0=true
theorem fR(s:Shape):bV s=true↔VS s:=by
 unfold bV;simp only[Bool.and_eq_true,decide_eq_true_eq,List.all_eq_true,List.mem_range];constructor
 ·rintro⟨⟨⟨h1,h2⟩,h3⟩,h4⟩;exact⟨h1,(cL _).1 (h2 _ (by simp[aG])),fun i hi=>(cL _).1 (h2 _ (by simp[aG];exact .inr (fQ hi))),h3,fun i hi=>(h4 i hi).1.1,fun i hi=>(h4 i hi).1.2,fun i k hk hi=>((h4 i hi).2 k hk).1.1,fun i k hk hi=>((h4 i hi).2 k hk).1.2,fun i k hk hi=>((h4 i hi).2 k hk).2⟩
 ·rintro⟨h1,h2,h3,h4,h5,h6,h7,h8,h9⟩;refine⟨⟨⟨h1,?_⟩,h4⟩,fun i hi=>⟨⟨h5 i hi,h6 i hi⟩,fun k hk=>⟨⟨h7 i k hk hi,h8 i k hk hi⟩,h9 i k hk hi⟩⟩⟩
  intro r hr;unfold aG at hr;rcases List.mem_cons.1 hr with rfl|hr
  ·exact(cL _).2 h2
  ·obtain⟨i,hi,rfl⟩:=mQ hr;exact(cL _).2 (h3 i hi)
theorem mB(s:Shape):bV s=bD s:=by
 rw[Bool.eq_iff_iff,fR];unfold bD;simp only[Bool.and_eq_true,decide_eq_true_eq,List.all_eq_true,List.mem_range,<-Si];constructor
 ·rintro⟨h1,h2,h3,h4,h5,h6,h7,h8,h9⟩;refine⟨⟨⟨h1,by rw[<-rL];exact(cL _).2 h2⟩,fun i hi=>⟨⟨⟨by rw[<-rL];exact(cL _).2 (h3 i hi),h6 i hi⟩,?_⟩,fun k hk=>⟨⟨h7 i k hk hi,?_⟩,?_⟩⟩⟩,h4⟩
  ·have:=h5 i hi;unfold cR at this;unfold jD;rw[List.all_eq_true]at this|-;intro v hv;rw[<-oS];exact this v hv
  ·rw[<-mP (h3 i hi) (h7 i k hk hi)];exact h8 i k hk hi
  ·rw[<-mP (h3 k (by omega)) (by rw[kP];exact h7 i k hk hi)];exact h9 i k hk hi
 ·rintro⟨⟨⟨h1,h2⟩,h3⟩,h4⟩;have hr:∀i,i<s.holes.length->VR (aD s.holes i):=fun i hi=>by have:=(h3 i hi).1.1.1;rw[<-rL]at this;exact(cL _).1 this
  refine⟨h1,by rw[<-rL]at h2;exact(cL _).1 h2,hr,h4,fun i hi=> ?_,fun i hi=>(h3 i hi).1.1.2,fun i k hk hi=>((h3 i hi).2 k hk).1.1,fun i k hk hi=> ?_,fun i k hk hi=> ?_⟩
  ·have:=(h3 i hi).1.2;unfold jD at this;unfold cR;rw[List.all_eq_true]at this|-;intro v hv;rw[oS];exact this v hv
  ·rw[mP (hr i hi) ((h3 i hi).2 k hk).1.1];exact((h3 i hi).2 k hk).1.2
  ·rw[mP (hr k (by omega)) (by rw[kP];exact((h3 i hi).2 k hk).1.1)];exact((h3 i hi).2 k hk).2
end Go.Proofs.YtdaeofhdgabhjaaGreat.Geo
namespace Go.Proofs.YtdaeofhdgabhjaaGreat.Geo
def bM(r:aC):Nat->Nat
 |0=>0
 |n+1=>if bX (nth r n) (nth r (bM r n))then n else bM r n
def cH(r:aC):Nat:=bM r r.length
def dP(r:aC):aC:=r.drop (cH r)++r.take (cH r)
theorem xG(r:aC)(n:Nat)(h:0<n):bM r n<n:=by
 induction n with
 |zero=>omega
 |succ n ih=>
  unfold bM;split
  ·omega
  ·rcases Nat.eq_zero_or_pos n with rfl|h0
   ·simp[bM]
   ·have:=ih h0;omega
theorem nH(r:aC)(n i:Nat)(hi:i<n):leV (nth r (bM r n)) (nth r i):=by
 induction n with
 |zero=>omega
 |succ n ih=>
  unfold bM;split
  ·rename_i h;have h:=(gG _ _).1 h;have h':leV (nth r n) (nth r (bM r n)):=(oX _ _).elim id (fun x=>absurd x h)
   by_cases e:i=n
   ·subst e;exact kK _
   ·exact mD h' (ih (by omega))
  ·rename_i h;have h:=(iA _ _).1 (by simpa using h)
   by_cases e:i=n
   ·subst e;exact h
   ·exact ih (by omega)
theorem wP(r:aC)(n i:Nat)(hi:i<bM r n):bX (nth r (bM r n)) (nth r i)=true:=by
 induction n with
 |zero=>simp[bM]at hi
 |succ n ih=>
  unfold bM at hi|-;split
  ·rename_i h;rw[if_pos h]at hi;rw[gG];have h1:=(gG _ _).1 h;intro h2;exact h1 (mD (nH r n i hi) h2)
  ·rename_i h;rw[if_neg h]at hi;exact ih hi
theorem iI{r:aC}(h:0<r.length):cH r<r.length:=xG r _ h
theorem aDF{r:aC}{k:Nat}(hk:k<r.length)(h1:∀i,i<r.length->leV (nth r k) (nth r i))(h2:∀i,i<k->nth r i≠nth r k):k=cH r:=by
 have a:=iI (r:=r) (by omega)
 have b:=nH r r.length k hk;have e:nth r k=nth r (cH r):=uH (h1 _ a) b;rcases Nat.lt_trichotomy k (cH r)with h|h|h
 ·have:=wP r r.length k h;rw[show bM r r.length=cH r from rfl,<-e,mU]at this;cases this
 ·exact h
 ·exact absurd e.symm (h2 _ h)
theorem xO(r:aC):(dP r).Perm r:=by
 unfold dP;refine List.perm_append_comm.trans ?_;rw[List.take_append_drop]
theorem eH(r:aC):(dP r).length=r.length:=(xO r).length_eq
theorem vT{r:aC}{i:Nat}(hi:i<r.length):nth (dP r) i=nth r ((i+cH r) % r.length):=by
 have hk:=iI (r:=r) (by omega)
 unfold dP nth;rw[List.getD_eq_getElem?_getD,List.getD_eq_getElem?_getD]
 congr 1
 by_cases h:i<r.length-cH r
 ·rw[List.getElem?_append_left (by simp;omega),List.getElem?_drop,eD (by omega)]
  congr 1;omega
 ·rw[List.getElem?_append_right (by simp;omega),List.getElem?_take_of_lt (by simp;omega),kJ (by omega) (by omega)]
  congr 1;simp;omega
theorem oG(r:aC)(s:S):s∈edges (dP r)↔s∈edges r:=by
 rw[mem_edges,mem_edges,eH];constructor
 ·rintro⟨h2,i,hi,rfl⟩;have hk:=iI (r:=r) (by omega)
  refine⟨h2,(i+cH r) % r.length,Nat.mod_lt _ (by omega),?_⟩
  unfold cO nxt;rw[eH,vT hi,vT (Nat.mod_lt _ (by omega)),Nat.mod_add_mod,Nat.mod_add_mod]
  congr 3;omega
 ·rintro⟨h2,i,hi,rfl⟩;have hk:=iI (r:=r) (by omega)
  refine⟨h2,(i+(r.length-cH r)) % r.length,Nat.mod_lt _ (by omega),?_⟩
  unfold cO nxt;rw[eH,vT (Nat.mod_lt _ (by omega)),vT (Nat.mod_lt _ (by omega)),Nat.mod_add_mod,Nat.mod_add_mod]
  have e1:(i+(r.length-cH r)+cH r) % r.length=i:=by
   rw[show i+(r.length-cH r)+cH r=i+r.length from by omega,Nat.add_mod_right,eD hi]
  have e2:(i+(r.length-cH r)+1+cH r) % r.length=(i+1) % r.length:=by
   rw[show i+(r.length-cH r)+1+cH r=i+1+r.length from by omega,Nat.add_mod_right]
  rw[e1,Nat.add_assoc _ 1 (cH r),Nat.mod_add_mod,<-Nat.add_assoc _ 1 (cH r),e2]
theorem VR.touch{r:aC}(h:VR r){i k:Nat}(hi:i<r.length)(hk:k<r.length)(ho:onS (cO r k) (nth r i)=true):i=k\/i=(k+1) % r.length:=by
 have h3:=h.three;have hb:onS (cO r i) (nth r i)=true:=gX (s:=cO r i) (dQ h.near i hi);have hj:(i+r.length-1) % r.length<r.length:=Nat.mod_lt _ (by omega)
 have hje:((i+r.length-1) % r.length+1) % r.length=i:=by
  rw[Nat.mod_add_mod,show i+r.length-1+1=i+r.length from by omega,Nat.add_mod_right,eD hi]
 have hb2:onS (cO r ((i+r.length-1) % r.length)) (nth r i)=true:=by
  have:=mZ (s:=cO r ((i+r.length-1) % r.length)) (dQ h.near _ hj);unfold cO nxt at this;simp only[hje]at this;unfold cO nxt;rw[hje];exact this
 have meetsE:∀j,j<r.length->onS (cO r j) (nth r i)=true->(nth r i=nth r j\/nth r i=nxt r j)->j=k\/(j+1) % r.length=k\/(k+1) % r.length=j:=by
  intro j hj hoj hend;rcases Nat.lt_trichotomy j k with hlt|he|hgt
  ·by_cases h1:k=j+1
   ·right;left;rw[eD (by omega)];exact h1.symm
   ·by_cases h2:j=0/\k=r.length-1
    ·right;right;rw[h2.2,h2.1,show r.length-1+1=r.length from by omega,Nat.mod_self]
    ·exfalso;have:=h.apart j k hlt hk h1 h2;exact oO (s:=cO r j) (t:=cO r k) (p:=nth r i) (by rcases hend with e|e<;>simp[cO,e]) ⟨hoj,ho⟩ this
  ·exact .inl he
  ·by_cases h1:j=k+1
   ·right;right;rw[eD (by omega)];exact h1.symm
   ·by_cases h2:k=0/\j=r.length-1
    ·right;left;rw[h2.2,h2.1,show r.length-1+1=r.length from by omega,Nat.mod_self]
    ·exfalso;have:=h.apart k j hgt hj h1 h2;exact oO (s:=cO r k) (t:=cO r j) (p:=nth r i) (by rcases hend with e|e<;>simp[cO,e]) ⟨ho,hoj⟩ this
 have c1:=meetsE i hi hb (.inl rfl);rcases c1 with e|e|e
 ·exact .inl e
 ·
  have c2:=meetsE _ hj hb2 (.inr (by unfold nxt;rw[hje]))
  rcases c2 with e2|e2|e2
  ·right;rw[<-e2,hje]
  ·left;rw[hje]at e2;exact e2
  ·
   exfalso;have hk1:(k+1) % r.length=(i+2) % r.length:=by rw[<-e,Nat.mod_add_mod]
   have hn3:r.length=3:=by
    rw[hk1]at e2;by_cases hz:i=0
    ·subst hz;rw[eD (show 0+r.length-1<r.length by omega),eD (show 0+2<r.length by omega)]at e2
     omega
    ·rw[kJ (show r.length<=i+r.length-1 by omega) (by omega)]at e2
     by_cases hz2:i+2<r.length
     ·rw[eD hz2]at e2;omega
     ·rw[kJ (by omega) (by omega)]at e2;omega
   apply h.turn' i hi;have:=((eR (dQ h.near k hk)).1 ho).2;rw[rM];unfold Geo.turn;rw[kI];unfold cO nxt at this;simp only at this;rw[e,<-hk1];exact this
 ·exact .inr e.symm
theorem VR.inj{r:aC}(h:VR r){i k:Nat}(hi:i<r.length)(hk:k<r.length)(he:nth r i=nth r k):i=k:=by
 have h3:=h.three;have ho:onS (cO r k) (nth r i)=true:=by rw[he];exact gX (s:=cO r k) (dQ h.near k hk)
 rcases h.touch hi hk ho with e|e
 ·exact e
 ·
  exfalso;have ho2:onS (cO r i) (nth r k)=true:=by rw[<-he];exact gX (s:=cO r i) (dQ h.near i hi)
  have ht:=h.turn' k hk;apply ht;rw[<-e,he];unfold Geo.turn;rw[kI];simp[cross,sub]
theorem VR.nodup{r:aC}(h:VR r):r.Nodup:=by
 rw[List.nodup_iff_pairwise_ne,List.pairwise_iff_getElem];intro i j hi hj hij e;have:=h.inj hi hj (by unfold nth;rw[List.getD_eq_getElem?_getD,List.getD_eq_getElem?_getD,List.getElem?_eq_getElem hi,List.getElem?_eq_getElem hj];simpa using e)
 omega
theorem VR.Is{r:aC}(h:VR r){v:V}(hv:v∈r){s:S}(hs:s∈edges r)(ho:onS s v=true):v=s.a\/v=s.b:=by
 obtain⟨i,hi,rfl⟩:=fU.1 hv;obtain⟨_,k,hk,rfl⟩:=mem_edges.1 hs;rcases h.touch hi hk ho with e|e
 ·left;rw[e];rfl
 ·right;rw[e];rfl
def bJ(s:Shape):List V:=(aG s).flatten
def aQ(s:Shape):List S:=(aG s).flatMap edges
theorem VS.ring{s:Shape}(h:VS s){r:aC}(hr:r∈aG s):VR r:=by
 unfold aG at hr;rcases List.mem_cons.1 hr with rfl|hr
 ·exact h.outer
 ·obtain⟨i,hi,rfl⟩:=mQ hr;exact h.hole i hi
theorem VS.pair{s:Shape}(h:VS s):(aG s).Pairwise (fun a b=>dU a b=true):=by
 unfold aG;rw[List.pairwise_cons];refine⟨fun r hr=> ?_,?_⟩
 ·obtain⟨i,hi,rfl⟩:=mQ hr;rw[kP];exact h.apo i hi
 ·rw[List.pairwise_iff_getElem];intro i k hi hk hik;have:=h.aph k i hik hk;unfold aD at this;rw[List.getD_eq_getElem?_getD,List.getD_eq_getElem?_getD,List.getElem?_eq_getElem hi,List.getElem?_eq_getElem hk]at this;rw[kP];exact this
theorem Gh:∀(l:List aC),(∀r∈l,VR r)->l.Pairwise (fun a b=>dU a b=true)->∀v∈l.flatten,∀e∈l.flatMap edges,onS e v=true->v=e.a\/v=e.b
 |[],_,_,v,hv,_,_,_=>by simp at hv
 |r::l,hr,hp,v,hv,e,he,ho=>by
  rw[List.pairwise_cons]at hp;rw[List.flatten_cons,List.mem_append]at hv;rw[List.flatMap_cons,List.mem_append]at he;rcases hv with hv|hv<;>rcases he with he|he
  ·exact(hr r (by simp)).Is hv he ho
  ·rw[List.mem_flatMap]at he;obtain⟨q,hq,he⟩:=he;exact(kQ (hr r (by simp)) (hp.1 q hq) hv he ho).elim
  ·rw[List.mem_flatten]at hv;obtain⟨q,hq,hv⟩:=hv;exact(kQ (hr q (by simp[hq])) (by rw[kP];exact hp.1 q hq) hv he ho).elim
  ·exact Gh l (fun x hx=>hr x (by simp[hx])) hp.2 v hv e he ho
theorem Gi:∀(l:List aC),(∀r∈l,VR r)->l.Pairwise (fun a b=>dU a b=true)->l.flatten.Nodup
 |[],_,_=>by simp
 |r::l,hr,hp=>by
  rw[List.pairwise_cons]at hp;rw[List.flatten_cons,List.nodup_append];refine⟨(hr r (by simp)).nodup,Gi l (fun x hx=>hr x (by simp[hx])) hp.2,?_⟩
  rintro a ha b hb rfl;rw[List.mem_flatten]at hb;obtain⟨q,hq,hb⟩:=hb;have hvq:=hr q (by simp[hq])
  obtain⟨i,hi,rfl⟩:=fU.1 hb;exact kQ (hr r (by simp)) (hp.1 q hq) ha (mem_edges.2 ⟨by have:=hvq.three;omega,i,hi,rfl⟩) (gX (s:=cO q i) (dQ hvq.near i hi))
theorem VS.touch{s:Shape}(h:VS s){v:V}(hv:v∈bJ s){e:S}(he:e∈aQ s)(ho:onS e v=true):v=e.a\/v=e.b:=
 Gh _ (fun _ hr=>h.ring hr) h.pair v hv e he ho
theorem VS.nodup{s:Shape}(h:VS s):(bJ s).Nodup:=Gi _ (fun _ hr=>h.ring hr) h.pair
end Go.Proofs.YtdaeofhdgabhjaaGreat.Geo
namespace Go.Proofs.YtdaeofhdgabhjaaGreat.Geo
def xR:List aC->aC->List aC
 |[],h=>[h]
 |q::l,h=>if bX (nth q 0) (nth h 0)then q::xR l h else h::q::l
def xX(l:List aC):List aC:=l.foldl xR []
def cD(s:Shape):Shape:=⟨dP s.outer,xX (s.holes.map dP)⟩
theorem Ju(l:List aC)(h:aC):(xR l h).Perm (h::l):=by
 induction l with
 |nil=>exact List.Perm.refl _
 |cons q l ih=>
  unfold xR;split
  ·exact(List.Perm.cons q ih).trans (List.Perm.swap h q l)
  ·exact List.Perm.refl _
theorem Cl(l acc:List aC):(l.foldl xR acc).Perm (acc++l):=by
 induction l generalizing acc with
 |nil=>simp
 |cons q l ih=>
  rw[List.foldl_cons];refine(ih _).trans ?_;refine((Ju acc q).append_right l).trans ?_;rw[List.cons_append];exact List.perm_middle.symm
theorem iH(l:List aC):(xX l).Perm l:=by
 unfold xX;have:=Cl l [];rwa[List.nil_append]at this
def leH(a b:aC):Prop:=leV (nth a 0) (nth b 0)
theorem Ry(l:List aC)(h:aC)(hl:l.Pairwise leH):(xR l h).Pairwise leH:=by
 induction l with
 |nil=>simp[xR]
 |cons q l ih=>
  rw[List.pairwise_cons]at hl;unfold xR;split
  ·rename_i hq;rw[List.pairwise_cons];refine⟨fun x hx=> ?_,ih hl.2⟩
   have hx:=(Ju l h).subset hx;rcases List.mem_cons.1 hx with rfl|hx
   ·exact(oX _ _).elim id (fun e=>absurd e ((gG _ _).1 hq))
   ·exact hl.1 x hx
  ·rename_i hq;have hq:=(iA _ _).1 (by simpa using hq)
   rw[List.pairwise_cons,List.pairwise_cons];refine⟨fun x hx=> ?_,hl⟩
   rcases List.mem_cons.1 hx with rfl|hx
   ·exact hq
   ·exact mD hq (hl.1 x hx)
theorem zV(l acc:List aC)(h:acc.Pairwise leH):(l.foldl xR acc).Pairwise leH:=by
 induction l generalizing acc with
 |nil=>exact h
 |cons q l ih=>exact ih _ (Ry acc q h)
theorem Mz(l:List aC):(xX l).Pairwise leH:=zV l [] List.Pairwise.nil
theorem mX:∀(l:List aC),l.flatten.Nodup->∀a∈l,∀b∈l,∀x,x∈a->x∈b->a=b
 |[],_,a,ha,_,_,_,_,_=>by cases ha
 |r::l,h,a,ha,b,hb,x,hxa,hxb=>by
  rw[List.flatten_cons,List.nodup_append]at h;obtain⟨h1,h2,h3⟩:=h;rcases List.mem_cons.1 ha with ea|ha'<;>rcases List.mem_cons.1 hb with eb|hb'
  ·rw[ea,eb]
  ·rw[ea]at hxa;exact(h3 x hxa x (List.mem_flatten.2 ⟨_,hb',hxb⟩) rfl).elim
  ·rw[eb]at hxb;exact(h3 x hxb x (List.mem_flatten.2 ⟨_,ha',hxa⟩) rfl).elim
  ·exact mX l h2 a ha' b hb' x hxa hxb
theorem qW(l:List aC):((l.map dP).flatten).Perm l.flatten:=by
 induction l with
 |nil=>exact List.Perm.refl _
 |cons r l ih=>
  rw[List.map_cons,List.flatten_cons,List.flatten_cons];exact(xO r).append ih
theorem kO(s:Shape):(bJ (cD s)).Perm (bJ s):=by
 unfold bJ aG cD;simp only[List.flatten_cons];refine(xO _).append ?_;exact((iH _).flatten).trans (qW _)
theorem Bk(s:Shape)(e:S):e∈aQ (cD s)↔e∈aQ s:=by
 unfold aQ aG cD;simp only[List.flatMap_cons,List.mem_append,List.mem_flatMap,oG];constructor
 ·rintro(h|⟨r,hr,he⟩)
  ·exact .inl h
  ·have hr:=(iH _).subset hr;obtain⟨q,hq,rfl⟩:=List.mem_map.1 hr;exact .inr ⟨q,hq,(oG q e).1 he⟩
 ·rintro(h|⟨r,hr,he⟩)
  ·exact .inl h
  ·refine .inr ⟨dP r,(iH _).symm.subset (List.mem_map.2 ⟨r,hr,rfl⟩),(oG r e).2 he⟩
def fW(p:Pt):List aC->Int->Int
 |[],w=>w
 |h::l,w=>if aP h p=2 then 0 else if aP h p=1 then 1 else fW p l w
def dA(s:Shape)(p:Pt):Int:=
 if !(bV s)then 0 else if aP s.outer p≠2 then aP s.outer p else fW p s.holes 2
def nC(p:Pt):List aC->Int->Int
 |[],w=>w
 |h::l,w=>if dY h p=2 then 0 else if dY h p=1 then 1 else nC p l w
def eJ(s:Shape)(p:Pt):Int:=if !(bD s)then 0 else nC p s.holes (dY s.outer p)
theorem Qd(p:Pt)(l:List aC)(w:Int):fW p l w=nC p l w:=by
 induction l with
 |nil=>rfl
 |cons h l ih=>unfold fW nC;rw[yU,ih]
theorem Uw(p:Pt)(l:List aC)(w:Int):nC p l w=2->w=2:=by
 induction l with
 |nil=>exact id
 |cons h l ih=>unfold nC;split;omega;split;omega;exact ih
theorem Fq(s:Shape)(p:Pt):(dA s p==2)=(eJ s p==2):=by
 unfold dA eJ;rw[mB,yU];cases bD s with
 |false=>rfl
 |true=>
  simp only[Bool.not_true,Bool.false_eq_true,if_false];by_cases h:dY s.outer p=2
  ·rw[if_neg (by omega),h,Qd]
  ·rw[if_pos h,Bool.eq_iff_iff,beq_iff_eq,beq_iff_eq];exact⟨fun e=>absurd e h,fun e=>absurd (Uw _ _ _ e) h⟩
def dO(c:S):Pt:=
 if(c.a.x+c.b.x).tmod 2=0/\(c.a.y+c.b.y).tmod 2=0 then⟨(c.a.x+c.b.x).tdiv 2,(c.a.y+c.b.y).tdiv 2,1⟩else⟨c.a.x+c.b.x,c.a.y+c.b.y,2⟩
def jG(l:List V):Int:=(l.map V.x).sum
def jF(l:List V):Int:=(l.map V.y).sum
def lR(l:List V):Pt:=
 let g:Int:=Nat.gcd (Nat.gcd (jG l).natAbs (jF l).natAbs) l.length
 ⟨(jG l).tdiv g,(jF l).tdiv g,(l.length:Int).tdiv g⟩
theorem jI(x:Int)(k:Nat):x.tmod k=0↔k∣x.natAbs:=by
 rw[<-Int.dvd_iff_tmod_eq_zero,Int.ofNat_dvd_left]
theorem Uo(a b:V):lR [a,b] =dO ⟨a,b⟩:=by
 unfold lR dO jG jF;simp only[List.map_cons,List.map_nil,List.sum_cons,List.sum_nil,Int.add_zero,List.length_cons,List.length_nil];generalize a.x+b.x=x;generalize a.y+b.y=y;have hd:Nat.gcd (Nat.gcd x.natAbs y.natAbs) 2∣2:=Nat.gcd_dvd_right _ _;have hle:=Nat.le_of_dvd (by omega) hd
 have hpos:0<Nat.gcd (Nat.gcd x.natAbs y.natAbs) 2:=Nat.gcd_pos_of_pos_right _ (by omega)
 by_cases h:x.tmod 2=0/\y.tmod 2=0
 ·have e:Nat.gcd (Nat.gcd x.natAbs y.natAbs) 2=2:=Nat.gcd_eq_right (Nat.dvd_gcd ((jI x 2).1 h.1) ((jI y 2).1 h.2));rw[if_pos h,show(0+1+1:Nat)=2 from rfl,e]
  rfl
 ·have e:Nat.gcd (Nat.gcd x.natAbs y.natAbs) 2=1:=by
   rcases Nat.lt_or_ge (Nat.gcd (Nat.gcd x.natAbs y.natAbs) 2) 2 with h1|h1
   ·omega
   ·exfalso;have e2:Nat.gcd (Nat.gcd x.natAbs y.natAbs) 2=2:=by omega
    have d1:2∣Nat.gcd x.natAbs y.natAbs:=by
     have:=Nat.gcd_dvd_left (Nat.gcd x.natAbs y.natAbs) 2;rwa[e2]at this
    exact h ⟨(jI x 2).2 (Nat.dvd_trans d1 (Nat.gcd_dvd_left _ _)),(jI y 2).2 (Nat.dvd_trans d1 (Nat.gcd_dvd_right _ _))⟩
  rw[if_neg h,show(0+1+1:Nat)=2 from rfl,e]
  simp
def dB(a b c:V):Pt:=
 if(a.x+b.x+c.x).tmod 3=0/\(a.y+b.y+c.y).tmod 3=0 then⟨(a.x+b.x+c.x).tdiv 3,(a.y+b.y+c.y).tdiv 3,1⟩else⟨a.x+b.x+c.x,a.y+b.y+c.y,3⟩
theorem Gl(a b c:V):lR [a,b,c] =dB a b c:=by
 unfold lR dB jG jF;simp only[List.map_cons,List.map_nil,List.sum_cons,List.sum_nil,Int.add_zero,List.length_cons,List.length_nil];rw[<-Int.add_assoc,<-Int.add_assoc];generalize a.x+b.x+c.x=x;generalize a.y+b.y+c.y=y;have hd:Nat.gcd (Nat.gcd x.natAbs y.natAbs) 3∣3:=Nat.gcd_dvd_right _ _;have hle:=Nat.le_of_dvd (by omega) hd
 have hpos:0<Nat.gcd (Nat.gcd x.natAbs y.natAbs) 3:=Nat.gcd_pos_of_pos_right _ (by omega)
 have h13:Nat.gcd (Nat.gcd x.natAbs y.natAbs) 3=1\/Nat.gcd (Nat.gcd x.natAbs y.natAbs) 3=3:=by
  generalize Nat.gcd (Nat.gcd x.natAbs y.natAbs) 3=g at*;obtain⟨q,hq⟩:=hd;match g,hle,hpos with
  |1,_,_=>exact .inl rfl
  |2,_,_=>omega
  |3,_,_=>exact .inr rfl
 by_cases h:x.tmod 3=0/\y.tmod 3=0
 ·have e:Nat.gcd (Nat.gcd x.natAbs y.natAbs) 3=3:=Nat.gcd_eq_right (Nat.dvd_gcd ((jI x 3).1 h.1) ((jI y 3).1 h.2));rw[if_pos h,show(0+1+1+1:Nat)=3 from rfl,e]
  rfl
 ·have e:Nat.gcd (Nat.gcd x.natAbs y.natAbs) 3=1:=by
   rcases h13 with h1|e2
   ·exact h1
   ·exfalso;have d1:3∣Nat.gcd x.natAbs y.natAbs:=by
     have:=Nat.gcd_dvd_left (Nat.gcd x.natAbs y.natAbs) 3;rwa[e2]at this
    exact h ⟨(jI x 3).2 (Nat.dvd_trans d1 (Nat.gcd_dvd_left _ _)),(jI y 3).2 (Nat.dvd_trans d1 (Nat.gcd_dvd_right _ _))⟩
  rw[if_neg h,show(0+1+1+1:Nat)=3 from rfl,e]
  simp
end Go.Proofs.YtdaeofhdgabhjaaGreat.Geo
namespace Go.Proofs.YtdaeofhdgabhjaaGreat.Geo
def Aa(s t:S):Bool:=s.a==t.a||s.a==t.b||s.b==t.a||s.b==t.b
def cJ(s t:S):Bool:=cN s t==0||(cN s t==1&&Aa s t)
def fX(s:Shape)(c:S):Bool:=(aQ s).all (fun e=>cJ e c)&&dA s (dO c)==2
def Lh(d e:S):Bool:=
 if dR d e=2\/dR d e=3 then false
 else if dR d e=1 then(nth (gC d e) 0==d.a||nth (gC d e) 0==d.b)else true
def sG(s:Shape)(c:S):Bool:=(aQ s).all (fun e=>Lh c e)&&(c.a !=c.b&&eJ s (lR [c.a,c.b])==2)
theorem Cb(s t:S):cN s t=0\/cN s t=1\/cN s t=2\/cN s t=3:=by
 unfold cN pH;simp only
 repeat' split
 all_goals simp
theorem Ah{s t:S}(h:cN s t=1):(aK s=true/\aK t=true)/\∃z,z∈ends s t/\bZ s t z/\(∀p,p∈ends s t->bZ s t p->p=z)/\gC s t=[z] :=by
 rw[oK]at h;have hm:=uQ s t;unfold dR at h;split at h
 ·omega
 ·rename_i hv;split at h
  ·omega
  ·split at h
   ·rename_i h1;refine⟨by simp at hv;exact hv,?_⟩
    match hc:gC s t,h1 with
    |[z],_=>
     rw[hc]at hm;have hz:=(hm z).1 (by simp)
     exact⟨z,hz.1,hz.2,fun p hp ho=>by have:=(hm p).2 ⟨hp,ho⟩;simpa using this,rfl⟩
   ·split at h<;>omega
theorem aCr{s t:S}(h:cN s t=3):∃p q,p≠q/\p∈ends s t/\q∈ends s t/\bZ s t p/\bZ s t q:=by
 rw[oK]at h;have hm:=uQ s t;have hs:=vB ((ends s t).filter (fun p=>onS s p&&onS t p))
 rw[show kT ((ends s t).filter (fun p=>onS s p&&onS t p))=gC s t from rfl]at hs
 unfold dR at h;split at h
 ·omega
 ·split at h
  ·rename_i h1;match hc:gC s t,h1 with
   |z::y::r,_=>
    rw[hc]at hm hs;have hz:=(hm z).1 (by simp)
    have hy:=(hm y).1 (by simp)
    refine⟨z,y,?_,hz.1,hy.1,hz.2,hy.2⟩;rintro rfl;rw[List.pairwise_cons]at hs;have:=hs.1 z (by simp)
    rw[mU]at this;cases this
  ·split at h
   ·omega
   ·split at h<;>omega
theorem gO(s t:S)(p:V):p∈ends s t↔p=s.a\/p=s.b\/p=t.a\/p=t.b:=by unfold ends;simp
theorem sQ(s t:S):Aa s t=true↔(s.a=t.a\/s.a=t.b\/s.b=t.a\/s.b=t.b):=by unfold Aa;simp[or_assoc]
theorem Kd{s:Shape}(h:VS s){c e:S}(ha:c.a∈bJ s)(hb:c.b∈bJ s)(he:e∈aQ s):cJ e c=Lh c e:=by
 unfold cJ Lh;rw[hU e c,<-oK];rcases Cb c e with hk|hk|hk|hk
 ·rw[hk];simp
 ·rw[if_neg (by omega),if_pos hk,hk]
  obtain⟨⟨vc,ve⟩,z,hz,ho,hu,hcom⟩:=Ah hk;rw[hcom];rw[show nth [z] 0=z from rfl]
  rw[Bool.eq_iff_iff];simp only[Bool.or_eq_true,beq_iff_eq,Bool.and_eq_true,sQ];constructor
  ·rintro(h1|⟨_,h1⟩)
   ·omega
   ·rcases h1 with h1|h1|h1|h1
    ·left;exact(hu c.a (by rw[gO];simp) ⟨gX vc,by rw[<-h1];exact gX ve⟩).symm
    ·right;exact(hu c.b (by rw[gO];simp) ⟨mZ vc,by rw[<-h1];exact gX ve⟩).symm
    ·left;exact(hu c.a (by rw[gO];simp) ⟨gX vc,by rw[<-h1];exact mZ ve⟩).symm
    ·right;exact(hu c.b (by rw[gO];simp) ⟨mZ vc,by rw[<-h1];exact mZ ve⟩).symm
  ·rintro(h1|h1)
   ·right;refine⟨trivial,?_⟩;have:=h.touch ha he (by rw[<-h1];exact ho.2)
    rcases this with e1|e1
    ·exact .inl e1.symm
    ·exact .inr (.inr (.inl e1.symm))
   ·right;refine⟨trivial,?_⟩;have:=h.touch hb he (by rw[<-h1];exact ho.2)
    rcases this with e1|e1
    ·exact .inr (.inl e1.symm)
    ·exact .inr (.inr (.inr e1.symm))
 ·rw[hk];simp
 ·rw[hk];simp
theorem Ff{s:Shape}(h:VS s){c:S}(ha:c.a∈bJ s)(hb:c.b∈bJ s)(hne:c.a≠c.b):fX s c=sG s c:=by
 unfold fX sG;rw[Uo,Fq];have e1:((aQ s).all fun e=>cJ e c)=((aQ s).all fun e=>Lh c e):=by
  rw[Bool.eq_iff_iff,List.all_eq_true,List.all_eq_true];constructor
  ·intro h1 e he;rw[<-Kd h ha hb he];exact h1 e he
  ·intro h1 e he;rw[Kd h ha hb he];exact h1 e he
 rw[e1];have e2:(c.a !=c.b)=true:=by simpa using hne
 rw[e2,Bool.true_and]
theorem uY{s:Shape}(h:VS s){c:S}(hc:fX s c=true){p:V}(hp:p∈bJ s)(ho:onS c p=true):p=c.a\/p=c.b:=by
 unfold bJ at hp;rw[List.mem_flatten]at hp;obtain⟨r,hr,hpr⟩:=hp;have hvr:=h.ring hr;obtain⟨i,hi,rfl⟩:=fU.1 hpr;have he:cO r i∈aQ s:=List.mem_flatMap.2 ⟨r,hr,mem_edges.2 ⟨by have:=hvr.three;omega,i,hi,rfl⟩⟩
 have ve:=dQ hvr.near i hi;unfold fX at hc;rw[Bool.and_eq_true,List.all_eq_true]at hc;have ht:=hc.1 _ he;have hob:bZ (cO r i) c (nth r i):=⟨gX (s:=cO r i) ve,ho⟩;have hnz:=oO (s:=cO r i) (t:=c) (p:=nth r i) (by simp[cO]) hob
 unfold cJ at ht;simp only[Bool.or_eq_true,beq_iff_eq,Bool.and_eq_true,sQ]at ht;rcases ht with ht|⟨ht,hsh⟩
 ·exact absurd ht hnz
 ·obtain⟨⟨_,vc⟩,z,_,_,hu,_⟩:=Ah ht;have e1:=hu (nth r i) (by rw[gO];simp[cO]) hob
  rw[e1];rcases hsh with h1|h1|h1|h1
  ·left;exact(hu c.a (by rw[gO];simp) ⟨by rw[<-h1];exact gX ve,gX vc⟩).symm
  ·right;exact(hu c.b (by rw[gO];simp) ⟨by rw[<-h1];exact gX ve,mZ vc⟩).symm
  ·left;exact(hu c.a (by rw[gO];simp) ⟨by rw[<-h1];exact mZ ve,gX vc⟩).symm
  ·right;exact(hu c.b (by rw[gO];simp) ⟨by rw[<-h1];exact mZ ve,mZ vc⟩).symm
theorem Se{s:Shape}(h:VS s){c d:S}(hc:fX s c=true)(hd:fX s d=true)(c1:c.a∈bJ s)(c2:c.b∈bJ s)(d1:d.a∈bJ s)(d2:d.b∈bJ s)
  (hne:¬((c.a=d.a/\c.b=d.b)\/(c.a=d.b/\c.b=d.a))):cJ c d=(dR d c !=2):=by
 rw[<-oK,hU d c];unfold cJ;have hends:∀p,p∈ends c d->bZ c d p->(p=c.a\/p=c.b)/\(p=d.a\/p=d.b):=by
  intro p hp ho;have hpv:p∈bJ s:=by rcases(gO _ _ _).1 hp with rfl|rfl|rfl|rfl<;>assumption
  exact⟨uY h hc hpv ho.1,uY h hd hpv ho.2⟩
 rcases Cb c d with hk|hk|hk|hk
 ·rw[hk];rfl
 ·rw[hk];have:Aa c d=true:=by
   obtain⟨_,z,hz,ho,_,_⟩:=Ah hk;obtain⟨h1,h2⟩:=hends z hz ho;rw[sQ];grind
  rw[this];rfl
 ·rw[hk];rfl
 ·exfalso;obtain⟨p,q,hpq,hp,hq,op,oq⟩:=aCr hk;have h1:=hends p hp op;have h2:=hends q hq oq;grind
end Go.Proofs.YtdaeofhdgabhjaaGreat.Geo
namespace Go.Proofs.YtdaeofhdgabhjaaGreat.Geo
def eZ(v:List V)(p:Nat×Nat):S:=⟨nth v p.1,nth v p.2⟩
def xU(s:Shape)(v:List V)(acc:List (Nat×Nat))(i k:Nat):List (Nat×Nat):=
 if !(acc.any fun d=> !(cJ ⟨nth v i,nth v k⟩ (eZ v d)))&&fX s ⟨nth v i,nth v k⟩then acc++[(i,k)]else acc
def rowP(s:Shape)(v:List V)(acc:List (Nat×Nat))(i:Nat):Nat->List (Nat×Nat)
 |0=>acc
 |m+1=>xU s v (rowP s v acc i m) i (i+1+m)
def cU(s:Shape)(v:List V):Nat->List (Nat×Nat)
 |0=>[]
 |i+1=>rowP s v (cU s v i) i (v.length-(i+1))
def cZ(s:Shape)(v:List V):List (Nat×Nat):=cU s v v.length
def Ny(s:Shape)(v:List V)(acc:List S)(i k:Nat):List S:=
 if sG s ⟨nth v i,nth v k⟩&&(acc.all fun d=>dR d ⟨nth v i,nth v k⟩ !=2)then acc++[⟨nth v i,nth v k⟩]else acc
def Yk(s:Shape)(v:List V)(acc:List S)(i:Nat):Nat->List S
 |0=>acc
 |m+1=>Ny s v (Yk s v acc i m) i (i+1+m)
def Ad(s:Shape)(v:List V):Nat->List S
 |0=>[]
 |i+1=>Yk s v (Ad s v i) i (v.length-(i+1))
def rI(s:Shape)(v:List V):List S:=Ad s v v.length
theorem gT{v:List V}{i:Nat}(h:i<v.length):nth v i∈v:=fU.2 ⟨i,h,rfl⟩
theorem eV{v:List V}(hn:v.Nodup){i k:Nat}(hi:i<v.length)(hk:k<v.length)(e:nth v i=nth v k):i=k:=by
 unfold nth at e;rw[List.getD_eq_getElem?_getD,List.getD_eq_getElem?_getD,List.getElem?_eq_getElem hi,List.getElem?_eq_getElem hk]at e;simp only[Option.getD_some]at e;rw[List.nodup_iff_pairwise_ne,List.pairwise_iff_getElem]at hn;rcases Nat.lt_trichotomy i k with h|h|h
 ·exact absurd e (hn i k hi hk h)
 ·exact h
 ·exact absurd e.symm (hn k i hk hi h)
structure Found(s:Shape)(v:List V)(acc:List (Nat×Nat))(i k:Nat):Prop where
 lt:∀p∈acc,p.1<p.2/\p.2<v.length
 ahead:∀p∈acc,p.1<i\/(p.1=i/\p.2<k)
 chord:∀p∈acc,fX s (eZ v p)=true
 apart:acc.Pairwise fun p q=>dR (eZ v p) (eZ v q)≠2
theorem Vj{s:Shape}(h:VS s){v:List V}(hv:∀x∈v,x∈bJ s)(hn:v.Nodup){acc:List (Nat×Nat)}{i k:Nat}(hF:Found s v acc i k)(hik:i<k)(hk:k<v.length)(hc:fX s ⟨nth v i,nth v k⟩=true):
  (!(acc.any fun d=> !(cJ ⟨nth v i,nth v k⟩ (eZ v d))))=((acc.map (eZ v)).all fun d=>dR d ⟨nth v i,nth v k⟩ !=2):=by
 rw[List.any_eq_not_all_not,Bool.not_not,List.all_map,Bool.eq_iff_iff,List.all_eq_true,List.all_eq_true];have key:∀d∈acc,cJ ⟨nth v i,nth v k⟩ (eZ v d)=(dR (eZ v d) ⟨nth v i,nth v k⟩ !=2):=by
  intro d hd;obtain⟨h1,h2⟩:=hF.lt d hd;refine Se h hc (hF.chord d hd) (hv _ (gT (by omega))) (hv _ (gT hk)) (hv _ (gT (by omega))) (hv _ (gT (by omega))) ?_
  rintro(⟨e1,e2⟩|⟨e1,e2⟩)
  ·have a1:=eV hn (by omega) (by omega) e1
   have a2:=eV hn (by omega) (by omega) e2
   rcases hF.ahead d hd with h3|h3<;>omega
  ·have a1:=eV hn (by omega) (by omega) e1
   have a2:=eV hn (by omega) (by omega) e2
   omega
 constructor
 ·intro hh d hd;have:=hh d hd;rw[Bool.not_not,key d hd]at this;exact this
 ·intro hh d hd;rw[Bool.not_not,key d hd];exact hh d hd
theorem aEd{s:Shape}(h:VS s){v:List V}(hv:∀x∈v,x∈bJ s)(hn:v.Nodup){acc:List (Nat×Nat)}{i k:Nat}(hF:Found s v acc i k)(hik:i<k)(hk:k<v.length):
  (xU s v acc i k).map (eZ v)=Ny s v (acc.map (eZ v)) i k/\Found s v (xU s v acc i k) i (k+1):=by
 have hne:nth v i≠nth v k:=fun e=>by have:=eV hn (by omega) hk e;omega
 have hce:=Ff h (c:=⟨nth v i,nth v k⟩) (hv _ (gT (by omega))) (hv _ (gT hk)) hne
 unfold xU Ny;cases hc:fX s ⟨nth v i,nth v k⟩with
 |false=>
  rw[hc]at hce;rw[<-hce];simp only[Bool.and_false,Bool.false_and,Bool.false_eq_true,if_false];exact⟨by trivial,hF.lt,fun p hp=>by have:=hF.ahead p hp;omega,hF.chord,hF.apart⟩
 |true=>
  rw[hc]at hce;rw[<-hce,Vj h hv hn hF hik hk hc,Bool.and_true,Bool.true_and];by_cases hx:((acc.map (eZ v)).all fun d=>dR d ⟨nth v i,nth v k⟩ !=2)=true
  ·rw[if_pos hx,if_pos hx];refine⟨by rw[List.map_append];rfl,?_,?_,?_,?_⟩
   ·intro p hp;rcases List.mem_append.1 hp with hp|hp
    ·exact hF.lt p hp
    ·obtain rfl:=List.mem_singleton.1 hp;exact⟨hik,hk⟩
   ·intro p hp;rcases List.mem_append.1 hp with hp|hp
    ·have:=hF.ahead p hp;omega
    ·obtain rfl:=List.mem_singleton.1 hp;right;exact⟨rfl,by simp⟩
   ·intro p hp;rcases List.mem_append.1 hp with hp|hp
    ·exact hF.chord p hp
    ·obtain rfl:=List.mem_singleton.1 hp;exact hc
   ·rw[List.pairwise_append];refine⟨hF.apart,List.pairwise_singleton _ _,?_⟩;intro p hp q hq;obtain rfl:=List.mem_singleton.1 hq;rw[List.all_map,List.all_eq_true]at hx;have:=hx p hp;simp only[Function.comp,bne_iff_ne]at this;exact this
  ·rw[if_neg hx,if_neg hx];exact⟨rfl,hF.lt,fun p hp=>by have:=hF.ahead p hp;omega,hF.chord,hF.apart⟩
theorem aHU{s:Shape}(h:VS s){v:List V}(hv:∀x∈v,x∈bJ s)(hn:v.Nodup){acc:List (Nat×Nat)}{i:Nat}(hF:Found s v acc i (i+1))(m:Nat)(hm:i+1+m<=v.length):
  (rowP s v acc i m).map (eZ v)=Yk s v (acc.map (eZ v)) i m/\Found s v (rowP s v acc i m) i (i+1+m):=by
 induction m with
 |zero=>exact⟨rfl,hF⟩
 |succ m ih=>
  obtain⟨h1,h2⟩:=ih (by omega)
  unfold rowP Yk;rw[<-h1];exact aEd h hv hn h2 (by omega) (by omega)
theorem aL5{s:Shape}(h:VS s){v:List V}(hv:∀x∈v,x∈bJ s)(hn:v.Nodup)(i:Nat)(hi:i<=v.length):
  (cU s v i).map (eZ v)=Ad s v i/\Found s v (cU s v i) i (i+1):=by
 induction i with
 |zero=>exact⟨rfl,⟨by simp[cU],by simp[cU],by simp[cU],by simp[cU]⟩⟩
 |succ i ih=>
  obtain⟨h1,h2⟩:=ih (by omega)
  unfold cU Ad;rw[<-h1];obtain⟨h3,h4⟩:=aHU h hv hn h2 (v.length-(i+1)) (by omega)
  exact⟨h3,h4.lt,fun p hp=>by have:=h4.ahead p hp;omega,h4.chord,h4.apart⟩
theorem Mk{s:Shape}(h:VS s){v:List V}(hv:∀x∈v,x∈bJ s)(hn:v.Nodup):(cZ s v).map (eZ v)=rI s v/\Found s v (cZ s v) v.length (v.length+1):=
 aL5 h hv hn _ (Nat.le_refl _)
end Go.Proofs.YtdaeofhdgabhjaaGreat.Geo
namespace Go.Proofs.YtdaeofhdgabhjaaGreat.Geo
abbrev Tab:=Nat->Nat->Bool
def pG(t:Tab)(i k:Nat):Tab:=fun a b=>if(a=i/\b=k)\/(a=k/\b=i)then true else t a b
def rH(t:Tab)(n at_:Nat):Nat->Tab
 |0=>t
 |m+1=>pG (rH t n at_ m) (at_+m) (at_+(m+1) % n)
def jS(t:Tab)(at_:Nat):List aC->Tab
 |[] =>t
 |r::l=>jS (rH t r.length at_ r.length) (at_+r.length) l
def lK(l:List (Nat×Nat)):Tab:=l.foldl (fun t p=>pG t p.1 p.2) (fun _ _=>false)
def gU(s:Shape)(v:List V):Tab:=jS (lK (cZ s v)) 0 (aG (cD s))
theorem Uj(l:List (Nat×Nat))(t:Tab)(a b:Nat):l.foldl (fun t p=>pG t p.1 p.2) t a b=true↔(t a b=true\/(a,b)∈l\/(b,a)∈l):=by
 induction l generalizing t with
 |nil=>simp
 |cons p l ih=>
  rw[List.foldl_cons,ih];obtain⟨p1,p2⟩:=p;unfold pG;simp only[List.mem_cons,Prod.mk.injEq];by_cases h:(a=p1/\b=p2)\/(a=p2/\b=p1)
  ·rw[if_pos h];simp;grind
  ·rw[if_neg h];grind
theorem Zu(t:Tab)(n at_ m a b:Nat):rH t n at_ m a b=true↔(t a b=true\/∃q,q<m/\((a=at_+q/\b=at_+(q+1) % n)\/(b=at_+q/\a=at_+(q+1) % n))):=by
 induction m with
 |zero=>simp[rH]
 |succ m ih=>
  unfold rH pG;by_cases h:(a=at_+m/\b=at_+(m+1) % n)\/(a=at_+(m+1) % n/\b=at_+m)
  ·rw[if_pos h];refine⟨fun _=> .inr ⟨m,by omega,?_⟩,fun _=>rfl⟩
   rcases h with h|h
   ·exact .inl h
   ·exact .inr ⟨h.2,h.1⟩
  ·rw[if_neg h,ih];constructor
   ·rintro(h1|⟨q,hq,h1⟩)
    ·exact .inl h1
    ·exact .inr ⟨q,by omega,h1⟩
   ·rintro(h1|⟨q,hq,h1⟩)
    ·exact .inl h1
    ·by_cases e:q=m
     ·subst e;exfalso;apply h;rcases h1 with h1|h1
      ·exact .inl h1
      ·exact .inr ⟨h1.2,h1.1⟩
     ·exact .inr ⟨q,by omega,h1⟩
theorem Cj{l m:List V}{i:Nat}(h:i<l.length):nth (l++m) i=nth l i:=by
 unfold nth;rw[List.getD_eq_getElem?_getD,List.getD_eq_getElem?_getD,List.getElem?_append_left h]
theorem Bj{l m:List V}{i:Nat}:nth (l++m) (l.length+i)=nth m i:=by
 unfold nth;rw[List.getD_eq_getElem?_getD,List.getD_eq_getElem?_getD,List.getElem?_append_right (by omega),Nat.add_sub_cancel_left]
theorem Gc:∀(L:List aC) (pre:List V) (t:Tab),(pre++L.flatten).Nodup->(∀r∈L,2<=r.length)->∀a b,a<(pre++L.flatten).length->b<(pre++L.flatten).length->
  (jS t pre.length L a b=true↔(t a b=true\/∃e∈L.flatMap edges,(e.a=nth (pre++L.flatten) a/\e.b=nth (pre++L.flatten) b)\/(e.a=nth (pre++L.flatten) b/\e.b=nth (pre++L.flatten) a)))
 |[],pre,t,_,_,a,b,_,_=>by simp[jS]
 |r::L,pre,t,hn,h2,a,b,ha,hb=>by
  have hr2:=h2 r (by simp)
  have e0:pre++(r::L).flatten=(pre++r)++L.flatten:=by rw[List.flatten_cons,List.append_assoc]
  rw[e0]at hn ha hb|-;unfold jS;have ih:=Gc L (pre++r) (rH t r.length pre.length r.length) hn (fun x hx=>h2 x (by simp[hx])) a b ha hb
  rw[List.length_append]at ih;rw[ih,Zu,List.flatMap_cons];have hin:∀q,q<r.length->nth ((pre++r)++L.flatten) (pre.length+q)=nth r q:=by
   intro q hq;rw[Cj (by simp;omega),Bj]
  have hlt:∀q,q<r.length->pre.length+q<((pre++r)++L.flatten).length:=by intro q hq;simp;omega
  have hmod:∀q,(q+1) % r.length<r.length:=fun q=>Nat.mod_lt _ (by omega)
  constructor
  ·rintro((h|⟨q,hq,h⟩)|⟨e,he,h⟩)
   ·exact .inl h
   ·refine .inr ⟨cO r q,List.mem_append_left _ (mem_edges.2 ⟨hr2,q,hq,rfl⟩),?_⟩;rcases h with⟨rfl,rfl⟩|⟨rfl,rfl⟩
    ·left;rw[hin q hq,hin _ (hmod q)];exact⟨rfl,rfl⟩
    ·right;rw[hin q hq,hin _ (hmod q)];exact⟨rfl,rfl⟩
   ·exact .inr ⟨e,List.mem_append_right _ he,h⟩
  ·rintro(h|⟨e,he,h⟩)
   ·exact .inl (.inl h)
   ·rcases List.mem_append.1 he with he|he
    ·obtain⟨_,q,hq,rfl⟩:=mem_edges.1 he;left;right;refine⟨q,hq,?_⟩;have e1:(cO r q).a=nth ((pre++r)++L.flatten) (pre.length+q):=(hin q hq).symm;have e2:(cO r q).b=nth ((pre++r)++L.flatten) (pre.length+(q+1) % r.length):=(hin _ (hmod q)).symm;rw[e1,e2]at h;rcases h with⟨h1,h2⟩|⟨h1,h2⟩
     ·left;exact⟨(eV hn (hlt q hq) ha h1).symm,(eV hn (hlt _ (hmod q)) hb h2).symm⟩
     ·right;exact⟨(eV hn (hlt q hq) hb h1).symm,(eV hn (hlt _ (hmod q)) ha h2).symm⟩
    ·exact .inr ⟨e,he,h⟩
def yL(l:List S)(a b:V):Bool:=l.any fun e=>(e.a==a&&e.b==b)||(e.a==b&&e.b==a)
theorem aAk{s:Shape}(h:VS s){i k:Nat}(hi:i<(bJ (cD s)).length)(hk:k<(bJ (cD s)).length):
  gU s (bJ (cD s)) i k=yL (rI s (bJ (cD s))++aQ s) (nth (bJ (cD s)) i) (nth (bJ (cD s)) k):=by
 have hn:(bJ (cD s)).Nodup:=(kO s).nodup_iff.2 h.nodup;have hv:∀x∈bJ (cD s),x∈bJ s:=fun x hx=>(kO s).subset hx
 obtain⟨hd,hF⟩:=Mk h hv hn;have h2:∀r∈aG (cD s),2<=r.length:=by
  intro r hr;unfold aG cD at hr;rcases List.mem_cons.1 hr with rfl|hr
  ·rw[eH];have:=h.outer.three;omega
  ·obtain⟨q,hq,rfl⟩:=List.mem_map.1 ((iH _).subset hr);rw[eH];have:=(h.ring (show q∈aG s by simp[aG,hq])).three;omega
 have hr:=Gc (aG (cD s)) [] (lK (cZ s (bJ (cD s)))) (by rw[List.nil_append];exact hn) h2 i k (by rw[List.nil_append];exact hi) (by rw[List.nil_append];exact hk)
 rw[List.nil_append,List.length_nil]at hr;rw[Bool.eq_iff_iff];unfold gU;rw[hr];unfold yL;rw[List.any_eq_true,<-hd];unfold lK;rw[Uj];simp only[Bool.false_eq_true,false_or,List.mem_append,Bool.or_eq_true,Bool.and_eq_true,beq_iff_eq];have hm:∀e,e∈(aG (cD s)).flatMap edges↔e∈aQ s:=fun e=>Bk s e
 constructor
 ·rintro((hp|hp)|⟨e,he,hx⟩)
  ·exact⟨eZ _ (i,k),.inl (List.mem_map.2 ⟨_,hp,rfl⟩),.inl ⟨rfl,rfl⟩⟩
  ·exact⟨eZ _ (k,i),.inl (List.mem_map.2 ⟨_,hp,rfl⟩),.inr ⟨rfl,rfl⟩⟩
  ·exact⟨e,.inr ((hm e).1 he),hx⟩
 ·rintro⟨e,he|he,hx⟩
  ·obtain⟨p,hp,rfl⟩:=List.mem_map.1 he;obtain⟨l1,l2⟩:=hF.lt p hp;left;rcases hx with⟨x1,x2⟩|⟨x1,x2⟩
   ·left;have a1:=eV hn (by omega) hi x1
    have a2:=eV hn (by omega) hk x2
    rw[<-a1,<-a2];exact hp
   ·right;have a1:=eV hn (by omega) hk x1
    have a2:=eV hn (by omega) hi x2
    rw[<-a1,<-a2];exact hp
  ·exact .inr ⟨e,(hm e).2 he,hx⟩
end Go.Proofs.YtdaeofhdgabhjaaGreat.Geo
namespace Go.Proofs.YtdaeofhdgabhjaaGreat.Geo
def cY:aC->aC->Int
 |[],[] =>0
 |[],_::_=> -1
 |_::_,[] =>1
 |a::l,b::m=>if fF a b≠0 then fF a b else cY l m
theorem Kf(x y:Int):fV x y= -fV y x:=by unfold fV;grind
theorem aAG(p q:V):fF p q= -fF q p:=by
 unfold fF;rw[Kf p.y,Kf p.x];grind
theorem iC:∀(l m:aC),cY l m= -cY m l
 |[],[] =>rfl
 |[],_::_=>rfl
 |_::_,[] =>rfl
 |a::l,b::m=>by
  unfold cY;have:=aAG a b;by_cases h:fF a b=0
  ·rw[if_neg (by omega),if_neg (by omega)];exact iC l m
  ·rw[if_pos h,if_pos (by omega)];exact this
theorem oQ:∀(l m:aC),cY l m=0->l=m
 |[],[],_=>rfl
 |[],_::_,h=>by unfold cY at h;omega
 |_::_,[],h=>by unfold cY at h;omega
 |a::l,b::m,h=>by
  unfold cY at h;by_cases h0:fF a b=0
  ·rw[if_neg (by omega)]at h
   rw[(pB a b).1 h0,oQ l m h]
  ·rw[if_pos h0]at h;exact absurd h h0
theorem Nk(l:aC):cY l l=0:=by have:=iC l l;omega
theorem Vk{p q r:V}(h1:fF p q<0)(h2:fF q r<0):fF p r<0:=by
 rw[yT]at*;exact mH h1 h2
theorem rD:∀(l m n:aC),cY l m<0->cY m n<0->cY l n<0
 |[],[],_,h,_=>by unfold cY at h;omega
 |[],_::_,[],_,h=>by unfold cY at h;omega
 |[],_::_,_::_,_,_=>by unfold cY;omega
 |_::_,[],_,h,_=>by unfold cY at h;omega
 |_::_,_::_,[],_,h=>by unfold cY at h;omega
 |a::l,b::m,c::n,h1,h2=>by
  unfold cY at*;by_cases e1:fF a b=0
  ·rw[if_neg (by omega)]at h1
   have:=(pB a b).1 e1;subst this;by_cases e2:fF a c=0
   ·rw[if_neg (by omega)]at h2|-;exact rD l m n h1 h2
   ·rw[if_pos e2]at h2|-;exact h2
  ·rw[if_pos e1]at h1;by_cases e2:fF b c=0
   ·have:=(pB b c).1 e2;subst this;rw[if_pos (by omega)];exact h1
   ·rw[if_pos e2]at h2;have:=Vk h1 h2;rw[if_pos (by omega)];exact this
def jV(a b:aC):Prop:=cY a b<=0
theorem Rq{a b:aC}(h1:jV a b)(h2:jV b a):a=b:=by
 unfold jV at*;apply oQ;have:=iC a b;omega
theorem zP{a b c:aC}(h1:jV a b)(h2:jV b c):jV a c:=by
 unfold jV at*;by_cases e1:cY a b=0
 ·rw[oQ _ _ e1];exact h2
 ·by_cases e2:cY b c=0
  ·rw[<-oQ _ _ e2];exact h1
  ·have:=rD a b c (by omega) (by omega);omega
def Kq:List aC->aC->List aC
 |[],r=>[r]
 |q::l,r=>if cY q r<0 then q::Kq l r else r::q::l
theorem Jt(l:List aC)(r:aC):(Kq l r).Perm (r::l):=by
 induction l with
 |nil=>exact List.Perm.refl _
 |cons q l ih=>
  unfold Kq;split
  ·exact(List.Perm.cons q ih).trans (List.Perm.swap r q l)
  ·exact List.Perm.refl _
theorem Rx(l:List aC)(r:aC)(hl:l.Pairwise jV):(Kq l r).Pairwise jV:=by
 induction l with
 |nil=>simp[Kq]
 |cons q l ih=>
  rw[List.pairwise_cons]at hl;unfold Kq;split
  ·rename_i hq;rw[List.pairwise_cons];refine⟨fun x hx=> ?_,ih hl.2⟩
   have hx:=(Jt l r).subset hx;rcases List.mem_cons.1 hx with rfl|hx
   ·unfold jV;omega
   ·exact hl.1 x hx
  ·rename_i hq;have hq':jV r q:=by unfold jV;have:=iC r q;omega
   rw[List.pairwise_cons,List.pairwise_cons];refine⟨fun x hx=> ?_,hl⟩
   rcases List.mem_cons.1 hx with rfl|hx
   ·exact hq'
   ·exact zP hq' (hl.1 x hx)
theorem Ck(l acc:List aC):(l.foldl Kq acc).Perm (acc++l):=by
 induction l generalizing acc with
 |nil=>simp
 |cons q l ih=>
  rw[List.foldl_cons];refine(ih _).trans ?_;refine((Jt acc q).append_right l).trans ?_;rw[List.cons_append];exact List.perm_middle.symm
theorem zU(l acc:List aC)(h:acc.Pairwise jV):(l.foldl Kq acc).Pairwise jV:=by
 induction l generalizing acc with
 |nil=>exact h
 |cons q l ih=>exact ih _ (Rx acc q h)
def xV(l:List aC):List aC:=l.foldl Kq []
theorem lV(l:List aC):(xV l).Perm l:=by
 unfold xV;have:=Ck l [];rwa[List.nil_append]at this
theorem My{l m:List aC}(hp:m.Perm l)(hs:m.Pairwise jV):m=xV l:=
 List.Perm.eq_of_pairwise (fun _ _ _ _ h1 h2=>Rq h1 h2) hs (zU l [] List.Pairwise.nil) (hp.trans (lV l).symm)
def cX(r:aC):aC:=if cB r then dP r else []
def kA(a b c:V):aC:=if turn a b c<0 then cX [a,c,b]else cX [a,b,c]
def gZ(s:Shape)(v:List V)(i j k:Nat):Bool:=
 turn (nth v i) (nth v j) (nth v k) !=0&&
 ((List.range v.length).all fun n=> !(n !=i&&n !=j&&n !=k&&bL (kA (nth v i) (nth v j) (nth v k)) (nth v n) !=0))&&
 dA s (dB (nth v i) (nth v j) (nth v k))==2
theorem If{a b c:V}(ha:aJ a 2000=true)(hb:aJ b 2000=true)(hc:aJ c 2000=true):near [a,b,c] =true:=by
 unfold near;simp[ha,hb,hc]
theorem aHi(a b c:V):area [a,b,c] =cross (sub b a) (sub c a):=by
 have e:area [a,b,c] =cross a b+(cross b c+(cross c a+0)):=by
  unfold area;simp[List.range_succ,nth,nxt]
 rw[e];simp only[cross,sub];grind
theorem zX{a b c:V}(hn:near [a,b,c] =true):cB [a,b,c] =true↔0<turn a b c:=by
 rw[cL];constructor
 ·intro h;have:=h.area;rw[aHi]at this;unfold turn;rw[yH];exact this
 ·intro h;have hp:0<cross (sub b a) (sub c a):=by unfold turn at h;rwa[yH]at h
  have t1:turn b c a≠0:=by rw[<-rM];omega
  have t2:turn c a b≠0:=by rw[rM];omega
  refine⟨by simp,by simp,hn,by rw[aHi];exact hp,?_,?_,?_⟩
  ·intro i hi;match i,hi with
   |0,_=>simpa[prv,nth,nxt]using t2
   |1,_=>
    have:turn a b c≠0:=by omega
    simpa[prv,nth,nxt]using this
   |2,_=>simpa[prv,nth,nxt]using t1
  ·intro i hi;match i,hi with
   |0,_=>
    have:turn a b c≠0:=by omega
    simpa[prv,nth,nxt]using this
   |1,_=>simpa[prv,nth,nxt]using t1
   |2,_=>simpa[prv,nth,nxt]using t2
  ·intro i k h1 h2 h3 h4;simp at h2 h4;omega
theorem Zx{l m:List V}(h:l.Perm m):jG l=jG m:=by
 unfold jG;induction h with
 |nil=>rfl
 |cons x _ ih=>simp[ih]
 |swap x y l=>simp only[List.map_cons,List.sum_cons];omega
 |trans _ _ h1 h2=>exact h1.trans h2
theorem Zw{l m:List V}(h:l.Perm m):jF l=jF m:=by
 unfold jF;induction h with
 |nil=>rfl
 |cons x _ ih=>simp[ih]
 |swap x y l=>simp only[List.map_cons,List.sum_cons];omega
 |trans _ _ h1 h2=>exact h1.trans h2
theorem Nd{l m:List V}(h:l.Perm m):lR l=lR m:=by
 unfold lR;rw[Zx h,Zw h,h.length_eq]
theorem oT(a b c:V):turn a c b= -turn a b c:=by
 unfold turn;have:cross (sub c a) (sub b a)= -cross (sub b a) (sub c a):=by simp only[cross,sub];grind
 rw[this];unfold sgn;grind
end Go.Proofs.YtdaeofhdgabhjaaGreat.Geo
namespace Go.Proofs.YtdaeofhdgabhjaaGreat
open Go.RowKit
def iV(r:List Geo.V):List PV:=r.flatMap fun v=>[.int .i64 v.x,.int .i64 v.y]
def Sn(l:List Geo.S):List PV:=l.flatMap fun s=>[.int .i64 s.a.x,.int .i64 s.a.y,.int .i64 s.b.x,.int .i64 s.b.y]
def fL(r:List Geo.V):PV:= .sl r.length (iV r)
def Ie(l:List Geo.S):PV:= .sl l.length (Sn l)
def jT(l:List Geo.aC):PV:= .sl l.length (l.map fL)
def gK(s:Geo.Shape):PV:= .agg [fL s.outer,jT s.holes]
def tI{α:Type}(m:Nat)(enc:List α->List PV)(e:α->List PV):Prop:=∀l,enc l=l.flatMap e/\∀x,(e x).length=m
section
variable {α:Type} {m:Nat} {enc:List α->List PV} {e:α->List PV}
theorem tI.length(h:tI m enc e)(l:List α):(enc l).length=l.length*m:=by
 rw[(h l).1];induction l with
 |nil=>simp
 |cons x l ih=>simp only[List.flatMap_cons,List.length_append,ih,(h []).2 x,List.length_cons,Nat.add_mul];omega
theorem tI.append(h:tI m enc e)(l k:List α):enc (l++k)=enc l++enc k:=by rw[(h _).1,(h l).1,(h k).1,List.flatMap_append]
theorem tI.at(h:tI m enc e)(l:List α)(i:Nat)(hi:i<l.length):((enc l).drop (i*m)).take m=e l[i] :=by
 have h1:l=l.take i++l[i] ::l.drop (i+1):=by rw[List.getElem_cons_drop];simp
 have h2:enc l=enc (l.take i)++(e l[i] ++enc (l.drop (i+1))):=by
  conv=>lhs;rw[h1]
  rw[h.append,(h (l[i] ::_)).1,List.flatMap_cons,<-(h _).1]
 have h3:=h.length (l.take i);rw[List.length_take,Nat.min_eq_left (by omega)]at h3
 rw[h2,<-h3,List.drop_left,<-(h []).2 l[i],List.take_left]
theorem tI.take(h:tI m enc e)(l:List α)(k:Nat):(enc l).take (k*m)=enc (l.take k):=by
 by_cases hk:k<=l.length
 ·have h3:=h.length (l.take k);rw[List.length_take,Nat.min_eq_left hk]at h3
  conv=>lhs;rw[<-List.take_append_drop k l,h.append,<-h3,List.take_left]
 ·rw[List.take_of_length_le (by rw[h.length];exact Nat.mul_le_mul_right _ (by omega)),List.take_of_length_le (by omega)]
theorem tI.drop(h:tI m enc e)(l:List α)(k:Nat):(enc l).drop (k*m)=enc (l.drop k):=by
 by_cases hk:k<=l.length
 ·have h3:=h.length (l.take k);rw[List.length_take,Nat.min_eq_left hk]at h3
  conv=>lhs;rw[<-List.take_append_drop k l,h.append,<-h3,List.drop_left]
 ·have e1:l.drop k=[] :=List.drop_eq_nil_of_le (by omega)
  rw[e1,List.drop_eq_nil_of_le (by rw[h.length];exact Nat.mul_le_mul_right _ (by omega)),(h []).1];rfl
end
theorem Ic:tI 2 iV fun v=>[.int .i64 v.x,.int .i64 v.y] :=fun _=>⟨rfl,fun _=>rfl⟩
theorem aL3:tI 4 Sn fun s=>[.int .i64 s.a.x,.int .i64 s.a.y,.int .i64 s.b.x,.int .i64 s.b.y] :=fun _=>⟨rfl,fun _=>rfl⟩
def aDZ(l:List (Nat×Nat)):List PV:=l.flatMap fun p=>[.int .i64 p.1,.int .i64 p.2]
theorem aL4:tI 2 aDZ fun p=>[.int .i64 (p.1:Int),.int .i64 (p.2:Int)] :=fun _=>⟨rfl,fun _=>rfl⟩
theorem nth_eq{v:List Geo.V}{i:Nat}(h:i<v.length):Geo.nth v i=v[i] :=by
 unfold Geo.nth;rw[List.getD_eq_getElem?_getD,List.getElem?_eq_getElem h];rfl
theorem aEN{v:List Geo.V}{i:Nat}(h:i<v.length):((iV v).drop (i*2)).take 2=[.int .i64 (Geo.nth v i).x,.int .i64 (Geo.nth v i).y] :=by
 rw[nth_eq h];exact Ic.at v i h
theorem aEO{l:List (Nat×Nat)}{i:Nat}(h:i<l.length):((aDZ l).drop (i*2)).take 2=[.int .i64 (l[i].1:Int),.int .i64 (l[i].2:Int)] :=aL4.at l i h
theorem Ae{k:Nat}(h:k<=1000000):IntKind.i64.wrap ((k:Int)+1)=((k+1:Nat):Int):=by
 rw[IntWalk.i64_in _ (by omega)];omega
theorem Ed{k:Nat}(h:k<=1000000):IntKind.i64.wrap (k:Int)=(k:Int):=by
 rw[IntWalk.i64_in _ (by omega)]
theorem aCU:Dz Tryz.prog 44 2:=by
 intro xs ys x y w hx hy;match xs,ys,hx,hy with
 |[a,b],[c,d],_,_=>
  have h1:=aMn a b c d w;refine⟨?_,?_⟩
  ·simp only[List.map_cons,List.map_nil];simp[eqGuard,h1]
  ·simp only[List.map_cons,List.map_nil];simp[eqGuard];rw[run_neq_struct];rw[run_eql_struct]at h1;revert h1;generalize Sem.run Tryz.prog (Op.equalIn 10000 44 (Value.agg #[Value.int IntKind.i64 a,Value.int IntKind.i64 b]) (Value.agg #[Value.int IntKind.i64 c,Value.int IntKind.i64 d])) w=R;intro h1;cases R with
   |ok q w'=>
    simp[Result.andThen]at h1;obtain⟨rfl,rfl⟩:=h1;simp[Result.andThen];cases h2:(a==c)<;>cases h3:(b==d)<;>simp_all
   |_=>simp[Result.andThen]at h1
def bC(l:List Geo.S)(i:Nat):Geo.S:=l.getD i default
def tL(l:List (Nat×Nat))(i:Nat):Nat×Nat:=l.getD i default
def Ns(l:List Int)(i:Nat):Int:=l.getD i 0
def aMN(l:List Bool)(i:Nat):Bool:=l.getD i false
theorem yN{α:Type}{l:List α}{i:Nat}{d:α}(h:i<l.length):l.getD i d=l[i] :=by rw[List.getD_eq_getElem?_getD,List.getElem?_eq_getElem h];rfl
theorem gA{l:List Geo.S}{i:Nat}(h:i<l.length):bC l i=l[i] :=yN h
theorem jY{l:List Geo.aC}{i:Nat}(h:i<l.length):Geo.aD l i=l[i] :=yN h
theorem Ma{l:List (Nat×Nat)}{i:Nat}(h:i<l.length):tL l i=l[i] :=yN h
theorem Pp{l:List Geo.S}{i:Nat}(h:i<l.length):bC l i∈l:=by rw[gA h];exact List.getElem_mem h
section
variable {α:Type} {m:Nat} {enc:List α->List PV} {e:α->List PV}
theorem tI.sub(h:tI m enc e)(l:List α){k:Nat}(hk:k<l.length)(j n:Nat)(hj:j+n<=m):((enc l).drop (k*m+j)).take n=((e l[k]).drop j).take n:=by
 have h1:=h.at l k hk;have h2:(((enc l).drop (k*m)).drop j).take n=((((enc l).drop (k*m)).take m).drop j).take n:=by
  rw[List.drop_take,List.take_take]
  congr 1;omega
 rw[List.drop_drop]at h2;rw[h2,h1]
theorem tI.get(h:tI m enc e)(l:List α){k:Nat}(hk:k<l.length)(j:Nat)(hj:j<m):(enc l)[k*m+j]? =(e l[k])[j]? :=by
 have h1:=h.at l k hk;rw[<-h1,List.getElem?_take,if_pos hj,List.getElem?_drop]
end
section
variable {α:Type} {m:Nat} {enc:List α->List PV} {e:α->List PV}
end
end Go.Proofs.YtdaeofhdgabhjaaGreat
namespace Go.Proofs.YtdaeofhdgabhjaaGreat
open Go.RowKit
inductive Fm:Type 1
 |tt
 |stuck (n:Nat)
 |need (p:Prop) (f:Fm)
 |imp (p:Prop) (f:Fm)
 |both (f g:Fm)
 |all (X:Type) (f:X->Fm)
 |ex (X:Type) (f:X->Fm)
def Fm.isTT:Fm->Bool
 | .tt=>true
 |_=>false
def Fm.holds:Fm->Prop
 | .tt=>True
 | .stuck _=>False
 | .need p f=>(match f.isTT with|true=>p|false=>p/\f.holds)
 | .imp p f=>p->f.holds
 | .both f g=>(match f.isTT,g.isTT with|true,_=>g.holds|false,true=>f.holds|false,false=>f.holds/\g.holds)
 | .all X f=>∀x:X,(f x).holds
 | .ex X f=>∃x:X,(f x).holds
theorem Fm.aA5{f:Fm}(h:f.isTT=true):f.holds:=by cases f<;>first|trivial|cases h
theorem Fm.Un{p:Prop}{f:Fm}(h:(Fm.need p f).holds):p/\f.holds:=by
 unfold Fm.holds at h;split at h
 ·rename_i e;exact⟨h,Fm.aA5 e⟩
 ·exact h
theorem Fm.nK{f g:Fm}(h:(Fm.both f g).holds):f.holds/\g.holds:=by
 unfold Fm.holds at h;split at h
 ·rename_i e;exact⟨Fm.aA5 e,h⟩
 ·rename_i e;exact⟨h,Fm.aA5 e⟩
 ·exact h
def Do:List Prop->Fm->Fm
 |[],f=>f
 |p::l,f=> .need p (Do l f)
theorem mG:∀{l:List Prop} {f:Fm},(Do l f).holds->(∀p∈l,p)/\f.holds
 |[],f,h=>⟨fun p hp=>(by cases hp),h⟩
 |q::l,f,h=>by
  obtain⟨h1,h2⟩:=Fm.Un h;obtain⟨h3,h4⟩:=mG h2;exact⟨fun p hp=>by rcases List.mem_cons.1 hp with rfl|hp;exact h1;exact h3 p hp,h4⟩
def Nw:List Prop->Prop
 |[] =>True
 |[p] =>p
 |p::l=>p/\Nw l
theorem fB:∀{l:List Prop},Nw l↔∀p∈l,p
 |[] =>⟨fun _ p hp=>(by cases hp),fun _=>trivial⟩
 |[p] =>⟨fun h q hq=>(by rw[List.mem_singleton.1 hq];exact h),fun h=>h p List.mem_cons_self⟩
 |p::q::l=>by
  show p/\Nw (q::l)↔_;rw[fB];exact⟨fun h r hr=>by rcases List.mem_cons.1 hr with rfl|hr;exact h.1;exact h.2 r hr,fun h=>⟨h p List.mem_cons_self,fun r hr=>h r (List.mem_cons_of_mem _ hr)⟩⟩
def aHv(l:List Prop)(f:Fm):Fm:=match l with
 |[] =>f
 |p::l=> .imp (Nw (p::l)) f
theorem Gt{l:List Prop}{f:Fm}(h:(aHv l f).holds)(hl:∀p∈l,p):f.holds:=by
 cases l with
 |nil=>exact h
 |cons p l=>exact(h:Nw (p::l)->_) (fB.2 hl)
inductive LT where
 |V|S|R|I|B|P
deriving DecidableEq
@[reducible] def LT.ty : LT → Type
  | .V => Geo.V
  | .S => Geo.S
  | .R => Geo.aC
  | .I => Int
  | .B => Bool
  | .P => Nat × Nat
def LT.w:LT->Nat
 | .V=>2
 | .S=>4
 | .R=>1
 | .I=>1
 | .B=>1
 | .P=>2
def LT.rowP:(t:LT)->t.ty->List PV
 | .V=>fun v=>[.int .i64 v.x,.int .i64 v.y]
 | .S=>fun s=>[.int .i64 s.a.x,.int .i64 s.a.y,.int .i64 s.b.x,.int .i64 s.b.y]
 | .R=>fun r=>[.sl r.length (iV r)]
 | .I=>fun n=>[.int .i64 n]
 | .B=>fun b=>[.bool b]
 | .P=>fun p=>[.int .i64 p.1,.int .i64 p.2]
def LT.enc(t:LT)(l:List t.ty):List PV:=l.flatMap t.rowP
theorem LT.wide(t:LT):tI t.w t.enc t.rowP:=fun _=>⟨rfl,fun x=>by cases t<;>rfl⟩
theorem LT.aA4(t:LT):0<t.w:=by cases t<;>decide
def LT.nth:(t:LT)->List t.ty->Nat->t.ty
 | .V=>Geo.nth
 | .S=>bC
 | .R=>Geo.aD
 | .I=>Ns
 | .B=>aMN
 | .P=>tL
theorem LT.nth_eq(t:LT)(l:List t.ty){i:Nat}(h:i<l.length):t.nth l i=l[i] :=by
 cases t
 ·exact Go.Proofs.YtdaeofhdgabhjaaGreat.nth_eq h
 ·exact gA h
 ·exact jY h
 ·exact yN h
 ·exact yN h
 ·exact Ma h
inductive SV where
 |any|undef|nil
 |int (k:IntKind) (n:Int)
 |bool (b:Bool)
 |lit (b:Bool)
 |prop (p:Prop) (d:Decidable p)
 |str (s:ByteArray)
 |agg (l:List SV)
 |tup (l:List SV)
 |lst (t:LT) (l:List t.ty)
 |sl (n:Nat) (cells:List SV)
 |pe (t:LT) (l:List t.ty) (i off:Nat)
 |pro (cells:List SV) (off:Nat)
 |fn (f:Nat) (first caps:List SV)
 |fnp (f:Nat) (first caps:List SV)
 |clo1 (pv:PV) (t:LT) (q:t.ty->Bool) (dom:t.ty->Prop)
 |clo2 (pv:PV) (t:LT) (q:t.ty->t.ty->Int) (dom:t.ty->t.ty->Prop)
 |ptr (s off:Nat)
 |pte (s:Nat) (t:LT) (i off:Nat)
 |own (s:Nat) (t:LT) (n:Nat)
 |owns (s:Nat) (t:LT) (o n:Nat)
 |ownx (s n:Nat)
 |ptb (F:Nat->Bool) (n off:Nat)
def aDI(n:Nat)(F:Nat->Bool):List PV:=(List.range n).map fun k=> .bool (F k)
theorem aB6(F:Nat->Bool){n k:Nat}(h:k<n):(aDI n F)[k]? =some (.bool (F k)):=by
 unfold aDI;rw[List.getElem?_map,List.getElem?_range h];rfl
def qJ(l:List AV):AV:=match cR l with|some q=> .p (.tup q)|none=> .tup l
mutual
def SV.av:SV->AV
 | .any=> .any
 | .undef=> .undef
 | .nil=> .nil
 | .int k n=> .p (.int k n)
 | .bool b=> .p (.bool b)
 | .lit b=> .p (.bool b)
 | .prop p d=> .p (.bool (@decide p d))
 | .str s=> .p (.str s)
 | .agg l=>iK (avs l)
 | .tup l=>qJ (avs l)
 | .lst t l=> .p (.sl l.length (t.enc l))
 | .sl n cs=>(match cR (avs cs)with|some q=> .p (.sl n q)|none=> .any)
 | .pe t l i off=> .p (.pro (t.enc l) (i*t.w+off))
 | .pro cs off=>(match cR (avs cs)with|some q=> .p (.pro q off)|none=> .any)
 | .fn f a b=> .fn (.func f) (avs a) (avs b)
 | .fnp f a b=>(match cR (avs a),cR (avs b)with|some x,some y=> .p (.fn (.func f) x y)|_,_=> .any)
 | .clo1 pv _ _ _=> .p pv
 | .clo2 pv _ _ _=> .p pv
 | .ptr s off=> .ptr s off
 | .pte s t i off=> .ptr s (i*t.w+off)
 | .own s _ n=> .own s 0 n
 | .owns s t o n=> .own s (o*t.w) n
 | .ownx s n=> .own s 0 n
 | .ptb F n off=> .p (.pro (aDI n F) off)
def avs:List SV->List AV
 |[] =>[]
 |x::l=>x.av::avs l
end
theorem lD:∀l:List SV,avs l=l.map SV.av
 |[] =>rfl
 |x::l=>by rw[avs,lD l];rfl
theorem fY(l:List SV):(avs l).length=l.length:=by rw[lD,List.length_map]
theorem nL(l m:List SV):avs (l++m)=avs l++avs m:=by rw[lD,lD,lD,List.map_append]
theorem Fo(l:List SV)(k:Nat):avs (l.drop k)=(avs l).drop k:=by rw[lD,lD,List.map_drop]
theorem Fl(l:List SV)(k:Nat):avs (l.take k)=(avs l).take k:=by rw[lD,lD,List.map_take]
theorem Dd(l:List SV)(k:Nat):(avs l)[k]? =(l[k]?).map SV.av:=by rw[lD,List.getElem?_map]
theorem aE3(l:List SV)(k:Nat)(x:SV):avs (l.set k x)=(avs l).set k x.av:=by rw[lD,lD,List.map_set]
def LT.row:(t:LT)->t.ty->List SV
 | .V=>fun v=>[.int .i64 v.x,.int .i64 v.y]
 | .S=>fun s=>[.int .i64 s.a.x,.int .i64 s.a.y,.int .i64 s.b.x,.int .i64 s.b.y]
 | .R=>fun r=>[.lst .V r]
 | .I=>fun n=>[.int .i64 n]
 | .B=>fun b=>[.bool b]
 | .P=>fun p=>[.int .i64 p.1,.int .i64 p.2]
theorem LT.Tj(t:LT)(x:t.ty):avs (t.row x)=(t.rowP x).map .p:=by
 cases t<;>rfl
def LT.dec:(t:LT)->List SV->Option t.ty
 | .V,[.int .i64 x,.int .i64 y] =>some ⟨x,y⟩
 | .S,[.int .i64 a,.int .i64 b,.int .i64 c,.int .i64 d] =>some ⟨⟨a,b⟩,⟨c,d⟩⟩
 | .R,[.lst .V r] =>some r
 | .R,[.nil] =>none
 | .I,[.int .i64 n] =>some n
 | .B,[.bool b] =>some b
 | .B,[.lit b] =>some b
 | .B,[.prop p d] =>some (@decide p d)
 | .P,[.int .i64 (.ofNat a),.int .i64 (.ofNat b)] =>some (a,b)
 |_,_=>none
theorem LT.Li{t:LT}{cs:List SV}{x:t.ty}(h:t.dec cs=some x):avs cs=(t.rowP x).map .p:=by
 unfold LT.dec at h;split at h<;>first|(cases h;done)|(cases h;rfl)
def LT.decs(t:LT):Nat->List SV->Option (List t.ty)
 |0,[] =>some []
 |0,_=>none
 |n+1,cs=>match t.dec (cs.take t.w),t.decs n (cs.drop t.w)with
  |some x,some l=>some (x::l)
  |_,_=>none
theorem LT.vK{t:LT}:∀{n:Nat} {cs:List SV} {l:List t.ty},t.decs n cs=some l->l.length=n/\avs cs=(t.enc l).map .p
 |0,[],l,h=>by simp only[LT.decs,Option.some.injEq]at h;subst h;exact⟨rfl,rfl⟩
 |0,_::_,l,h=>by simp[LT.decs]at h
 |n+1,cs,l,h=>by
  unfold LT.decs at h;split at h
  ·rename_i x l' h1 h2;cases h;obtain⟨h3,h4⟩:=LT.vK h2;have h5:=LT.Li h1;refine⟨by simp[h3],?_⟩
   have h6:avs cs=avs (cs.take t.w)++avs (cs.drop t.w):=by rw[<-nL,List.take_append_drop]
   rw[h6,h5,h4];simp only[LT.enc,List.flatMap_cons,List.map_append]
  ·cases h
theorem dC:∀l:List PV,cR (l.map .p)=some l
 |[] =>rfl
 |x::l=>by simp only[List.map_cons,cR,dC l,Option.map_some]
theorem pW(l:List PV):iK (l.map .p)= .p (.agg l):=by unfold iK;rw[dC]
theorem LT.sub(t:LT)(l:List t.ty){i:Nat}(h:i<l.length)(off m:Nat)(hm:off+m<=t.w):
  ((t.enc l).drop (i*t.w+off)).take m=((t.rowP (t.nth l i)).drop off).take m:=by
 rw[LT.nth_eq t l h];exact t.wide.sub l h off m hm
theorem LT.get(t:LT)(l:List t.ty){i:Nat}(h:i<l.length)(off:Nat)(hm:off<t.w):
  (t.enc l)[i*t.w+off]? =(t.rowP (t.nth l i))[off]? :=by
 have h1:=congrArg (fun l=>l[0]?) (LT.sub t l h off 1 (by omega))
 simpa[List.getElem?_take,List.getElem?_drop]using h1
def svK:Value->SV
 | .int k n=> .int k n
 | .bool b=> .lit b
 | .string s=> .str s
 | .slice none 0 0=> .nil
 |_=> .any
theorem aBt(v:Value):(svK v).av=jX v:=by
 unfold svK;split<;>simp only[SV.av,jX]
theorem Lr:∀vs:List Value,avs (vs.map svK)=vs.map jX
 |[] =>rfl
 |v::vs=>by simp only[List.map_cons,avs,aBt,Lr vs]
def svC:Value->SV
 | .agg cs=>if cs.toList.all (·.oneCell')=true then .agg (cs.toList.map svK)else .any
 | .tuple vs=>if vs.toList=[]then .undef else .any
 |v=>svK v
theorem aHL(v:Value):(svC v).av=kW v:=by
 unfold svC;split
 ·split<;>rename_i h<;>simp only[kW,SV.av,Lr,h] <;>rfl
 ·split<;>rename_i h<;>simp only[kW,SV.av,h,if_true,if_false]
 ·rename_i h1 h2;rw[aBt];unfold kW;split<;>simp_all
abbrev Frm:=List (Nat×SV)
def Frm.at:Frm->Nat->SV
 |[],_=> .undef
 |(d,v)::F,t=>match Nat.beq t d with|true=>v|false=>Frm.at F t
theorem Frm.nP(d:Nat)(v:SV)(F:Frm)(t:Nat):Frm.at ((d,v)::F) t=if t=d then v else Frm.at F t:=by
 conv=>lhs;unfold Frm.at
 split
 ·rename_i h;rw[if_pos (Nat.eq_of_beq_eq_true h)]
 ·rename_i h;rw[if_neg (Nat.ne_of_beq_eq_false h)]
def Frm.av(n:Nat)(F:Frm):List AV:=(List.range n).map fun t=>(F.at t).av
theorem Frm.lI(n:Nat)(F:Frm):(F.av n).length=n:=by simp[Frm.av]
theorem Frm.vM{n:Nat}{F:Frm}{t:Nat}(h:t<n):(F.av n).getD t .any=(F.at t).av:=by
 unfold Frm.av;rw[List.getD_eq_getElem?_getD,List.getElem?_map,List.getElem?_range h];rfl
theorem Frm.aIm{n:Nat}{F:Frm}{d:Nat}{v:SV}(h:d<n):iX (F.av n) (some d) v.av=Frm.av n ((d,v)::F):=by
 unfold iX;apply List.ext_getElem?;intro i;rw[List.getElem?_set];by_cases hi:i<n
 ·by_cases e:d=i
  ·subst e;rw[if_pos rfl,if_pos (by rw[Frm.lI];exact h)]
   unfold Frm.av;rw[List.getElem?_map,List.getElem?_range h,Option.map_some,Frm.nP,if_pos rfl]
  ·rw[if_neg e];unfold Frm.av;rw[List.getElem?_map,List.getElem?_map,List.getElem?_range hi,Option.map_some,Option.map_some,Frm.nP,if_neg (fun h=>e h.symm)]
 ·have h1:(Frm.av n ((d,v)::F))[i]? =none:=List.getElem?_eq_none (by rw[Frm.lI];omega)
  have h2:(F.av n)[i]? =none:=List.getElem?_eq_none (by rw[Frm.lI];omega)
  rw[h1];by_cases e:d=i
  ·omega
  ·rw[if_neg e,h2]
def Ik(n:Nat)(F:Frm):Operand->SV
 | .tmp t=>(match Nat.blt t n with|true=>F.at t|false=> .any)
 | .const v=>svC v
 | .func f=> .fnp f [] []
 | .global _=> .any
theorem Qk{n:Nat}{F:Frm}(x:Operand):(Ik n F x).av=eG (F.av n) x:=by
 cases x with
 |tmp t=>
  show(match Nat.blt t n with|true=>F.at t|false=>SV.any).av=(F.av n).getD t .any
  cases h:Nat.blt t n with
  |true=>rw[Frm.vM (by simp[Nat.blt]at h;omega)]
  |false=>
   have h2:¬(t+1<=n):=fun hh=>by
    have:=Nat.ble_eq_true_of_le hh;rw[show Nat.blt t n=Nat.ble (t+1) n from rfl]at h
    rw[h]at this;cases this
   rw[List.getD_eq_getElem?_getD,List.getElem?_eq_none (by rw[Frm.lI];exact Nat.le_of_not_lt h2)];rfl
 |const v=>exact aHL v
 |func f=>rfl
 |global g=>rfl
inductive SOb where
 |box (ty:TypeId) (cells:List SV)
 |row (ty:TypeId) (t:LT) (l:List t.ty)
 |arr (ty esz:Nat) (cells:List SV)
def SOb.ob:SOb->Ob
 | .box ty cs=>⟨ty,0,avs cs⟩
 | .row ty t l=>⟨ty,t.w,(t.enc l).map .p⟩
 | .arr ty esz cs=>⟨ty,esz,avs cs⟩
abbrev dG:=List (Nat×Option SOb)
def dG.sto(L:dG):Sto:=L.map fun q=>(q.1,q.2.map SOb.ob)
def dG.at:dG->Nat->Option SOb
 |[],_=>none
 |(k,x)::L,s=>match Nat.beq s k with|true=>x|false=>dG.at L s
theorem dG.look(L:dG)(s:Nat):look L.sto s=(L.at s).map SOb.ob:=by
 induction L with
 |nil=>rfl
 |cons q L ih=>
  obtain⟨k,x⟩:=q;show(if s=k then x.map SOb.ob else Go.Proofs.YtdaeofhdgabhjaaGreat.look (dG.sto L) s)=_
  show _=(match Nat.beq s k with|true=>x|false=>dG.at L s).map SOb.ob
  cases h:Nat.beq s k with
  |true=>rw[if_pos (Nat.eq_of_beq_eq_true h)]
  |false=>rw[if_neg (Nat.ne_of_beq_eq_false h)];exact ih
end Go.Proofs.YtdaeofhdgabhjaaGreat
namespace Go.Proofs.YtdaeofhdgabhjaaGreat
open Go.RowKit
def aE(x:Int):Prop:= -9223372036854775808<=x/\x<=9223372036854775807
theorem Yr{x:Int}(h:aE x):IntKind.i64.wrap x=x:=by
 unfold aE at h;exact IntWalk.i64_in _ (by omega)
def ix(a:Int)(n:Nat):Prop:=0<=a/\a<(n:Int)
theorem nB{k n:Nat}(h:k<n):ix k n:=⟨by omega,by omega⟩
theorem cV{k n:Nat}(h:0<n):ix (((k % n:Nat):Int)) n:=nB (Nat.mod_lt _ h)
abbrev SR:=Option (List Prop×SV×List Nat×dG)
abbrev SE:=Operand->SV
abbrev Sg:=Nat->Option SOb
def SE.a(E:SE):Operand->AV:=fun x=>(E x).av
def Sg.a(σ:Sg):Nat->Option Ob:=fun s=>(σ s).map SOb.ob
def Dq(P:Program)(n:Nat)(o:Oper)(E:SE)(σ:Sg)(R:SR):Prop:=
 ∀ps r rd W,R=some (ps,r,rd,W)->(∀p∈ps,p)->AOp P n o E.a σ.a fun r' R' W'=>r'=r.av/\R'=rd/\W'=W.sto
def SV.ok:SV->Prop
 | .pe _ l i _=>i<l.length
 |_=>True
def SV.ape:SV->Bool
 | .pe .. =>true
 |_=>false
theorem SV.wL{v:SV}(h:v.ape=false):v.ok:=by cases v<;>first|trivial|cases h
def Dx(x:SV):Option (List SV):=match x with
 | .agg l=>some l
 | .tup _=>none
 | .any=>none
 | .undef=>none
 | .sl n cs=>(match cR (avs cs)with|some _=>some [.sl n cs] |none=>none)
 | .pro cs o=>(match cR (avs cs)with|some _=>some [.pro cs o] |none=>none)
 | .fnp f a b=>(match cR (avs a),cR (avs b)with|some _,some _=>some [.fnp f a b] |_,_=>none)
 | .clo1 .. =>none
 | .clo2 .. =>none
 |x=>some [x]
theorem Nl(l:List AV):gL (iK l)=some l:=by
 unfold iK;cases h:cR l with
 |some q=>rw[show gL (.p (.agg q))=some (q.map .p)from rfl,<-gQ h]
 |none=>rfl
theorem Bf{x:SV}{l:List SV}(h:Dx x=some l):gL x.av=some (avs l):=by
 cases x<;>simp only[Dx,reduceCtorEq,Option.some.injEq]at h<;>first|(subst h;rfl)|skip
 ·subst h;exact Nl _
 ·rename_i n cs;cases hq:cR (avs cs)with
  |none=>rw[hq]at h;cases h
  |some q=>rw[hq]at h;cases h;simp only[avs,SV.av,hq,gL]
 ·rename_i cs o;cases hq:cR (avs cs)with
  |none=>rw[hq]at h;cases h
  |some q=>rw[hq]at h;cases h;simp only[avs,SV.av,hq,gL]
 ·rename_i f a b;cases ha:cR (avs a)<;>cases hb:cR (avs b)<;>rw[ha,hb]at h<;>simp only[reduceCtorEq,Option.some.injEq]at h;subst h;simp only[avs,SV.av,ha,hb,gL]
def Kn(cs:List SV)(off:Nat):List SV->List SV
 |[] =>cs
 |x::l=>Kn (cs.set off x) (off+1) l
theorem yI:∀(l cs:List SV) (off:Nat),avs (Kn cs off l)=kR (avs cs) off (avs l)
 |[],cs,off=>rfl
 |x::l,cs,off=>by rw[Kn,yI l,aE3];rfl
def Ii(place:Nat->Option (Nat×Nat))(cells:List SV):List (Nat×SV)->Option (List SV)
 |[] =>some cells
 |(i,v)::rest=>match place i,Dx v with
  |some (off,size),some l=>(match Nat.beq l.length size,Nat.ble (off+size) cells.length with
   |true,true=>Ii place (Kn cells off l) rest
   |_,_=>none)
  |_,_=>none
theorem Ey{place:Nat->Option (Nat×Nat)}:∀(parts:List (Nat×SV)) {cells l:List SV},Ii place cells parts=some l->nR place (avs cells) (parts.map fun q=>(q.1,q.2.av))=some (avs l)
 |[],cells,l,h=>by simp only[Ii,Option.some.injEq]at h;subst h;rfl
 |(i,v)::rest,cells,l,h=>by
  unfold Ii at h;split at h
  ·rename_i off size m h1 h2;split at h
   ·rename_i h3 h4;have:=Ey rest h;show(match place i,gL v.av with|some (off,size),some l=>if l.length=size/\off+size<=(avs cells).length then nR place (kR (avs cells) off l) (rest.map fun(q:Nat×SV)=>(q.1,q.2.av))else none|_,_=>none)=_
    rw[h1,Bf h2];dsimp only;rw[if_pos ⟨by rw[fY];exact Nat.eq_of_beq_eq_true h3,by rw[fY];exact Nat.le_of_ble_eq_true h4⟩,<-yI]
    exact this
   ·cases h
  ·cases h
def xZ(P:Program)(t:TypeId)(cs:List SV)(off:Nat):Option SV:=match tok P t,iT P t with
 |true,true=>(match Nat.beq ((cs.drop off).take (aU P t)).length (aU P t)with|true=>some (.agg ((cs.drop off).take (aU P t)))|false=>none)
 |true,false=>cs[off]?
 |false,_=>none
theorem pR{P:Program}{t:TypeId}{cs:List SV}{off:Nat}{r:SV}(h:xZ P t cs off=some r){K:AV->Prop}(hK:K r.av):yA P t (avs cs) off K:=by
 unfold xZ at h;split at h
 ·rename_i h1 h2;split at h
  ·rename_i h3;cases h;refine⟨h1,?_⟩;rw[if_pos h2];refine⟨_,rfl,?_,?_⟩
   ·rw[<-Fo,<-Fl,fY];exact Nat.eq_of_beq_eq_true h3
   ·rw[<-Fo,<-Fl];exact hK
  ·cases h
 ·rename_i h1 h2;refine⟨h1,?_⟩;rw[if_neg (by rw[h2];simp)]
  exact⟨r.av,by rw[Dd,h];rfl,hK⟩
 ·cases h
theorem Ev{P:Program}{t:TypeId}{cs:List PV}{off:Nat}{K:AV->Prop}(h:yA P t (cs.map .p) off K):Wf P t cs off fun r=>K (.p r):=by
 obtain⟨h1,h2⟩:=h;refine⟨h1,?_⟩;split at h2
 ·rename_i hg;rw[if_pos hg];obtain⟨l,h3,h4,h5⟩:=h2;refine⟨(cs.drop off).take (aU P t),rfl,?_,?_⟩
  ·rw[<-h3]at h4;simpa using h4
  ·rw[<-h3,<-List.map_drop,<-List.map_take,pW]at h5;exact h5
 ·rename_i hg;rw[if_neg hg];obtain⟨x,h3,h4⟩:=h2;rw[List.getElem?_map]at h3;cases hc:cs[off]? with
  |none=>rw[hc]at h3;cases h3
  |some y=>rw[hc]at h3;cases h3;exact⟨y,rfl,h4⟩
theorem Jq{P:Program}{t:TypeId}{lt:LT}{l:List lt.ty}{i off:Nat}(hi:i<l.length)(hoff:off+(match iT P t with|true=>aU P t|false=>1)<=lt.w){f:List PV->List AV}(hf:f=List.map .p){K:AV->Prop}
  (h:yA P t (f (lt.rowP (lt.nth l i))) off K):yA P t (f (lt.enc l)) (i*lt.w+off) K:=by
 subst hf;obtain⟨h1,h2⟩:=h;refine⟨h1,?_⟩;split at h2
 ·rename_i hg;rw[hg]at hoff;rw[if_pos hg];obtain⟨m,h3,h4,h5⟩:=h2;refine⟨m,?_,h4,h5⟩;rw[<-List.map_drop,<-List.map_take,LT.sub lt l hi off _ hoff,<-h3,List.map_take,List.map_drop]
 ·rename_i hg;have hg':iT P t=false:=by simpa using hg
  rw[hg']at hoff;rw[if_neg hg];obtain⟨x,h3,h4⟩:=h2;refine⟨x,?_,h4⟩;rw[List.getElem?_map]at h3|-;rw[LT.get lt l hi off (by dsimp only at hoff;omega)];exact h3
def aBa(P:Program)(t:TypeId)(x:SV)(σ:Sg):SR:=match x with
 | .pe lt l i off=>(match Nat.ble (off+(match iT P t with|true=>aU P t|false=>1)) lt.w,xZ P t (lt.row (lt.nth l i)) off with
   |true,some r=>some ([],r,[],[])
   |_,_=>none)
 | .pro cs off=>(match cR (avs cs),xZ P t cs off with
   |some _,some r=>some ([],r,[],[])
   |_,_=>none)
 | .ptb F n off=>(match tok P t,iT P t with
   |true,false=>some ([off<n],.bool (F off),[],[])
   |_,_=>none)
 | .ptr s off=>(match σ s with
   |some (.box _ cs)=>(match xZ P t cs off with|some r=>some ([],r,[s],[])|none=>none)
   |some (.arr _ _ cs)=>(match xZ P t cs off with|some r=>some ([],r,[s],[])|none=>none)
   |_=>none)
 | .pte s lt i off=>(match σ s with
   |some (.row _ lt' l)=>(match decEq lt' lt,Nat.ble (off+(match iT P t with|true=>aU P t|false=>1)) lt'.w,xZ P t (lt'.row (lt'.nth l i)) off with
    | .isTrue _,true,some r=>some ([i<l.length],r,[s],[])
    |_,_,_=>none)
   |_=>none)
 |_=>none
theorem aCa{P:Program}{n:Nat}{o:Oper}{E:SE}{σ:Sg}{t:TypeId}{x:Operand}(ho:o.op= .load t x)(hx:(E x).ok):Dq P n o E σ (aBa P t (E x) σ):=by
 intro ps r rd W h hp;unfold AOp;rw[ho];dsimp only;unfold aBa at h;split at h
 ·rename_i lt l i off e;split at h<;>cases h;rename_i h1 h2;rw[e]at hx;rw[show E.a x= .p (.pro (lt.enc l) (i*lt.w+off)) by unfold SE.a;rw[e];rfl]
  dsimp only;refine Ev (K:=fun r'=>r'=r.av/\_) ?_
  refine Jq hx (Nat.le_of_ble_eq_true h1) rfl ?_;rw[<-LT.Tj];exact pR h2 ⟨rfl,rfl,rfl⟩
 ·rename_i cs off e;split at h<;>cases h;rename_i q h1 h2;rw[show E.a x= .p (.pro q off) by unfold SE.a;rw[e];simp only[SV.av,h1]]
  dsimp only;refine Ev (K:=fun r'=>r'=r.av/\_) ?_
  rw[<-gQ h1];exact pR h2 ⟨rfl,rfl,rfl⟩
 ·rename_i F m off e;split at h<;>cases h;rename_i h1 h2;have hlt:off<m:=hp _ (List.mem_singleton.2 rfl);rw[show E.a x= .p (.pro (aDI m F) off) by unfold SE.a;rw[e];rfl]
  dsimp only;refine Ev (K:=fun r'=>r'=(SV.bool (F off)).av/\_) ?_
  exact⟨h1,by rw[if_neg (by rw[h2];simp)];exact⟨.p (.bool (F off)),by rw[List.getElem?_map,aB6 F hlt];rfl,rfl,rfl,rfl⟩⟩
 ·rename_i s off e;rw[show E.a x= .ptr s off by unfold SE.a;rw[e];rfl]
  dsimp only;split at h
  ·rename_i ty cs hs;split at h<;>cases h;rename_i h2;refine⟨_,by unfold Sg.a;rw[hs];rfl,?_⟩
   exact pR h2 ⟨rfl,rfl,rfl⟩
  ·rename_i ty ez cs hs;split at h<;>cases h;rename_i h2;refine⟨_,by unfold Sg.a;rw[hs];rfl,?_⟩
   exact pR h2 ⟨rfl,rfl,rfl⟩
  ·cases h
 ·rename_i s lt i off e;rw[show E.a x= .ptr s (i*lt.w+off) by unfold SE.a;rw[e];rfl]
  dsimp only;split at h
  ·rename_i ty lt' l hs;split at h<;>cases h;rename_i he h1 h2 h3;subst he;refine⟨_,by unfold Sg.a;rw[hs];rfl,?_⟩
   refine Jq (hp _ (by simp)) (Nat.le_of_ble_eq_true h2) rfl ?_
   rw[<-LT.Tj];exact pR h3 ⟨rfl,rfl,rfl⟩
  ·cases h
 ·cases h
def Kv(P:Program)(t:TypeId)(a v:SV)(σ:Sg):SR:=match Dx v,(P.info? t).isSome with
 |some l,true=>(match Nat.beq l.length (aU P t)with
  |true=>(match a with
   | .ptr s off=>(match σ s with
     |some (.box ty cs)=>(match Nat.ble (off+l.length) cs.length with|true=>some ([],.undef,[s],[(s,some (.box ty (Kn cs off l)))])|false=>none)
     |some (.arr ty ez cs)=>(match Nat.ble (off+l.length) cs.length with|true=>some ([],.undef,[s],[(s,some (.arr ty ez (Kn cs off l)))])|false=>none)
     |_=>none)
   | .pte s lt i off=>(match σ s with
     |some (.row ty lt' m)=>(match decEq lt' lt,Nat.ble (off+l.length) lt'.w,lt'.dec (Kn (lt'.row (lt'.nth m i)) off l)with
      | .isTrue _,true,some e=>some ([i<m.length],.undef,[s],[(s,some (.row ty lt' (m.set i e)))])
      |_,_,_=>none)
     |_=>none)
   |_=>none)
  |false=>none)
 |_,_=>none
theorem Rg{a b c l:List AV}{k off:Nat}(hk:k=a.length)(hoff:off+l.length<=b.length):kR (a++b++c) (k+off) l=a++kR b off l++c:=by
 induction l generalizing b off with
 |nil=>rfl
 |cons x l ih=>
  simp only[List.length_cons]at hoff;rw[kR,kR,List.append_assoc,List.set_append_right _ _ (by omega),show k+off-a.length=off by omega,List.set_append_left _ _ (by omega),<-List.append_assoc,show k+off+1=k+(off+1) by omega,ih (by simp;omega)]
theorem aEM(t:LT)(l:List t.ty){i:Nat}(h:i<l.length)(e:t.ty):t.enc l=t.enc (l.take i)++t.rowP l[i] ++t.enc (l.drop (i+1))/\t.enc (l.set i e)=t.enc (l.take i)++t.rowP e++t.enc (l.drop (i+1)):=by
 constructor
 ·conv=>lhs;rw[<-List.take_append_drop i l,<-List.getElem_cons_drop h]
  unfold LT.enc;rw[List.flatMap_append,List.flatMap_cons,List.append_assoc]
 ·rw[List.set_eq_take_append_cons_drop,if_pos h];unfold LT.enc;rw[List.flatMap_append,List.flatMap_cons,List.append_assoc]
theorem Zd{P:Program}{n:Nat}{o:Oper}{E:SE}{σ:Sg}{t:TypeId}{a x:Operand}(ho:o.op= .store t a x):Dq P n o E σ (Kv P t (E a) (E x) σ):=by
 intro ps r rd W h hp;unfold AOp;rw[ho];dsimp only;unfold Kv at h;split at h
 case h_2=>cases h
 rename_i l hl ht;split at h
 case h_2=>cases h
 rename_i hsz;have hl':gL (E.a x)=some (avs l):=Bf hl;have hsz':(avs l).length=aU P t:=by rw[fY];exact Nat.eq_of_beq_eq_true hsz
 split at h
 ·rename_i s off e;rw[show E.a a= .ptr s off by unfold SE.a;rw[e];rfl]
  unfold wR;dsimp only;split at h
  ·rename_i ty cs hs;split at h<;>cases h;rename_i h2;refine⟨_,_,by unfold Sg.a;rw[hs];rfl,hl',hsz',ht,?_,rfl,rfl,?_⟩
   ·show off+(avs l).length<=(avs cs).length;rw[fY,fY];exact Nat.le_of_ble_eq_true h2
   ·show [(s,some (⟨ty,0,kR (avs cs) off (avs l)⟩:Ob))] =[(s,some (⟨ty,0,avs (Kn cs off l)⟩:Ob))];rw[yI]
  ·rename_i ty ez cs hs;split at h<;>cases h;rename_i h2;refine⟨_,_,by unfold Sg.a;rw[hs];rfl,hl',hsz',ht,?_,rfl,rfl,?_⟩
   ·show off+(avs l).length<=(avs cs).length;rw[fY,fY];exact Nat.le_of_ble_eq_true h2
   ·show [(s,some (⟨ty,ez,kR (avs cs) off (avs l)⟩:Ob))] =[(s,some (⟨ty,ez,avs (Kn cs off l)⟩:Ob))];rw[yI]
  ·cases h
 ·rename_i s lt i off e;rw[show E.a a= .ptr s (i*lt.w+off) by unfold SE.a;rw[e];rfl]
  unfold wR;dsimp only;split at h
  ·rename_i ty lt' m hs;split at h<;>cases h;rename_i he h1 _ h2 h3;subst he;have hi:i<m.length:=hp _ (by simp)
   obtain⟨e1,e2⟩:=aEM lt' m hi h1;have h2':=Nat.le_of_ble_eq_true h2;have hlen:(lt'.enc (m.take i)).length=i*lt'.w:=by rw[lt'.wide.length,List.length_take,Nat.min_eq_left (by omega)]
   refine⟨_,_,by unfold Sg.a;rw[hs];rfl,hl',hsz',ht,?_,rfl,rfl,?_⟩
   ·show i*lt'.w+off+(avs l).length<=((lt'.enc m).map AV.p).length;rw[fY,List.length_map,lt'.wide.length];have:(i+1)*lt'.w<=m.length*lt'.w:=Nat.mul_le_mul_right _ (by omega)
    rw[Nat.add_mul]at this;omega
   ·show [(s,some (⟨ty,lt'.w,kR ((lt'.enc m).map AV.p) (i*lt'.w+off) (avs l)⟩:Ob))] =[(s,some (⟨ty,lt'.w,(lt'.enc (m.set i h1)).map AV.p⟩:Ob))];rw[e2,List.map_append,List.map_append,<-LT.Li h3,yI,LT.Tj,LT.nth_eq lt' m hi]
    conv=>lhs;rw[e1,List.map_append,List.map_append]
    rw[Rg (by rw[List.length_map,hlen]) (by rw[fY,List.length_map,(lt'.wide []).2];exact h2')]
  ·cases h
 ·cases h
def Nx(P:Program)(t:TypeId):Option (List SV):=match gI P t with
 |true=>(match P.info? t with
  |some i=>(match i.zero with|some z=>some (z.cells.toList.map svK)|none=>none)
  |none=>none)
 |false=>none
theorem Eg{P:Program}{t:TypeId}{z:List SV}(h:Nx P t=some z):gD P t=some (avs z)/\gI P t=true:=by
 unfold Nx at h;split at h
 ·rename_i hz;split at h
  ·rename_i i hi;split at h<;>cases h;rename_i zv hzv;refine⟨?_,hz⟩;unfold gD;rw[hi,Option.bind_some,hzv,Option.map_some,Lr]
  ·cases h
 ·cases h
def Ky(P:Program)(n:Nat)(t:TypeId):SR:=match Nx P t with
 |some z=>some ([],.ptr n 0,[],[(n,some (.box t z))])
 |none=>none
theorem Zo{P:Program}{n:Nat}{o:Oper}{E:SE}{σ:Sg}{t:TypeId}(ho:o.op= .alloc t):Dq P n o E σ (Ky P n t):=by
 intro ps r rd W h hp;unfold AOp;rw[ho];dsimp only;unfold Ky at h;split at h<;>cases h;rename_i z hz;obtain⟨h1,h2⟩:=Eg hz;exact⟨_,h1,h2,rfl,rfl,rfl⟩
def aDK(n:Nat)(t:TypeId)(x:SV):SR:=match Dx x with
 |some l=>some ([],.ptr n 0,[],[(n,some (.box t l))])
 |none=>none
theorem aEi{P:Program}{n:Nat}{o:Oper}{E:SE}{σ:Sg}{t:TypeId}{x:Operand}(ho:o.op= .box t x):Dq P n o E σ (aDK n t (E x)):=by
 intro ps r rd W h hp;unfold AOp;rw[ho];dsimp only;unfold aDK at h;split at h<;>cases h;rename_i l hl;exact⟨_,Bf hl,rfl,rfl,rfl⟩
def Kx(P:Program)(t:TypeId)(parts:List (Nat×SV)):SR:=match Nx P t,kU P t with
 |some z,true=>(match Ii (iZ P t) z parts with|some l=>some ([],.agg l,[],[])|none=>none)
 |_,_=>none
theorem Zl{P:Program}{n:Nat}{o:Oper}{E:SE}{σ:Sg}{t:TypeId}{parts:Array (Nat×Operand)}(ho:o.op= .build t parts):Dq P n o E σ (Kx P t (parts.toList.map fun q=>(q.1,E q.2))):=by
 intro ps r rd W h hp;unfold AOp;rw[ho];dsimp only;unfold Kx at h;split at h
 ·rename_i z hz hk;split at h<;>cases h;rename_i l hl;obtain⟨h1,h2⟩:=Eg hz;have:=Ey _ hl;rw[List.map_map]at this;exact⟨_,h1,h2,hk,_,this,rfl,rfl,rfl⟩
 ·cases h
def aDO:Nat->List SV->List SV
 |0,_=>[]
 |m+1,z=>z++aDO m z
theorem Xc(z:List SV):∀m,avs (aDO m z)=xQ m (avs z)
 |0=>rfl
 |m+1=>by rw[aDO,nL,Xc z m];rfl
def Cs(P:Program)(n:Nat)(t:TypeId)(len:Nat)(parts:List (Nat×SV)):SR:=match fJ P t with
 |some e=>(match Nx P e,Nat.ble (len*aU P e) 1000000 with
  |some (z0::zs),true=>(match Ii (fun i=>some (i*aU P e,aU P e)) (aDO len (z0::zs)) parts with
   |some l=>some ([],.ownx n len,[],[(n,some (.arr e (aU P e) l))])
   |none=>none)
  |_,_=>none)
 |none=>none
theorem Uf{P:Program}{n:Nat}{o:Oper}{E:SE}{σ:Sg}{t:TypeId}{len:Nat}{parts:Array (Nat×Operand)}(ho:o.op= .buildSlice t len parts):Dq P n o E σ (Cs P n t len (parts.toList.map fun q=>(q.1,E q.2))):=by
 intro ps r rd W h hp;unfold AOp;rw[ho];dsimp only;unfold Cs at h;split at h
 ·rename_i e he;split at h
  ·rename_i z0 zs hz hb;split at h<;>cases h;rename_i l hl;obtain⟨h1,h2⟩:=Eg hz;have:=Ey _ hl;rw[List.map_map,Xc]at this;exact⟨e,_,he,h1,h2,(by simp[avs]),Nat.le_of_ble_eq_true hb,_,this,rfl,rfl,rfl⟩
  ·cases h
 ·cases h
def aA9(c a b:SV):Option SV:=match c with
 | .lit true=>some a
 | .lit false=>some b
 | .prop p d=>(match a,b with
   | .int .i64 x,.int .i64 y=>some (.int .i64 (@ite _ p d x y))
   | .bool x,.bool y=>some (.bool (@ite _ p d x y))
   | .prop q e,.lit y=>some (.bool (@ite _ p d (@decide q e) y))
   | .lit x,.prop q e=>some (.bool (@ite _ p d x (@decide q e)))
   | .bool x,.lit y=>some (.bool (@ite _ p d x y))
   | .lit x,.bool y=>some (.bool (@ite _ p d x y))
   |_,_=>none)
 | .bool c=>(match a,b with
   | .int .i64 x,.int .i64 y=>some (.int .i64 (if c=true then x else y))
   | .bool x,.bool y=>some (.bool (if c=true then x else y))
   | .bool x,.lit y=>some (.bool (if c=true then x else y))
   | .lit x,.bool y=>some (.bool (if c=true then x else y))
   |_,_=>none)
 |_=>none
theorem aB9{c a b r:SV}(h:aA9 c a b=some r){K:AV->Prop}(hK:K r.av):Dk c.av a.av b.av K:=by
 unfold aA9 at h;split at h
 ·cases h;exact hK
 ·cases h;exact hK
 ·rename_i p d;split at h<;>cases h<;>(simp only[SV.av,Dk]at*;cases d<;>rename_i hp<;>simpa[hp]using hK)
 ·rename_i c;split at h<;>cases h<;>(simp only[SV.av,Dk]at*;cases c<;>simpa using hK)
 ·cases h
def Tf(P:Program)(t:TypeId)(x:SV)(f:Nat):Option SV:=match sB P t f with
 |some q=>(match x with
  | .ptr s off=>some (.ptr s (off+q.1))
  | .pe lt l i off=>some (.pe lt l i (off+q.1))
  | .pte s lt i off=>some (.pte s lt i (off+q.1))
  | .pro cs off=>(match cR (avs cs)with|some _=>some (.pro cs (off+q.1))|none=>none)
  |_=>none)
 |none=>none
theorem Zi{P:Program}{t:TypeId}{x:SV}{f:Nat}{r:SV}(h:Tf P t x f=some r){K:AV->Prop}(hK:K r.av):Le P t f x.av K/\(x.ok->r.ok):=by
 unfold Tf at h;split at h
 ·rename_i q hq;split at h
  ·cases h;exact⟨⟨q,hq,hK⟩,fun _=>trivial⟩
  ·cases h;exact⟨⟨q,hq,by simpa[SV.av,Nat.add_assoc]using hK⟩,fun h=>h⟩
  ·cases h;exact⟨⟨q,hq,by simpa[SV.av,Nat.add_assoc]using hK⟩,fun _=>trivial⟩
  ·rename_i cs off;split at h<;>cases h;rename_i m hm;refine⟨⟨q,hq,?_⟩,fun _=>trivial⟩
   simp only[SV.av,hm]at hK|-;exact hK
  ·cases h
 ·cases h
def Te(P:Program)(t:TypeId)(x:SV)(f:Nat):Option SV:=match sB P t f,x with
 |some q,.agg l=>(match tok P q.2,iT P q.2 with
  |true,true=>some (.agg ((l.drop q.1).take (aU P q.2)))
  |true,false=>l[q.1]?
  |false,_=>none)
 |_,_=>none
theorem Zh{P:Program}{t:TypeId}{x:SV}{f:Nat}{r:SV}(h:Te P t x f=some r){K:AV->Prop}(hK:K r.av):Tn P t f x.av K:=by
 unfold Te at h;split at h
 ·rename_i q l hq;refine⟨q,hq,?_⟩;have key:Dl P q.2 (avs l) q.1 K:=by
   split at h
   ·rename_i h1 h2;cases h;refine⟨h1,?_⟩;rw[if_pos h2];exact⟨_,rfl,by rw[<-Fo,<-Fl];exact hK⟩
   ·rename_i h1 h2;refine⟨h1,?_⟩;rw[if_neg (by rw[h2];simp)]
    exact⟨r.av,by rw[Dd,h];rfl,hK⟩
   ·cases h
  show(match iK (avs l)with| .agg l=>Dl P q.2 l q.1 K| .p (.agg l)=>Dl P q.2 (l.map .p) q.1 K|_=>False)
  unfold iK;cases hq:cR (avs l)with
  |none=>exact key
  |some m=>dsimp only;rw[<-gQ hq];exact key
 ·cases h
def Td(P:Program)(t:TypeId)(x i:SV):Option (List Prop×SV):=match i with
 | .int _ a=>(match x with
   | .lst lt l=>(match fJ P t with
     |some e=>(match(P.info? e).isSome,Nat.beq (aU P e) lt.w with|true,true=>some ([ix a l.length],.pe lt l a.toNat 0)|_,_=>none)
     |none=>none)
   | .own s lt n=>(match fJ P t with
     |some e=>(match(P.info? e).isSome,Nat.beq (aU P e) lt.w with|true,true=>some ([ix a n],.pte s lt a.toNat 0)|_,_=>none)
     |none=>none)
   | .owns s lt o n=>(match fJ P t with
     |some e=>(match(P.info? e).isSome,Nat.beq (aU P e) lt.w with|true,true=>some ([ix a n],.pte s lt (o+a.toNat) 0)|_,_=>none)
     |none=>none)
   | .ownx s n=>(match fJ P t with
     |some e=>(match(P.info? e).isSome with|true=>some ([ix a n],.ptr s (a.toNat*aU P e))|_=>none)
     |none=>none)
   | .sl n cs=>(match fJ P t,cR (avs cs)with
     |some e,some _=>(match(P.info? e).isSome with|true=>some ([ix a n],.pro cs (a.toNat*aU P e))|_=>none)
     |_,_=>none)
   | .ptr s off=>(match Hq P t with
     |some q=>(match(P.info? q.2).isSome with|true=>some ([ix a q.1],.ptr s (off+a.toNat*aU P q.2))|_=>none)
     |none=>none)
   | .pe lt l j off=>(match Hq P t with
     |some q=>(match(P.info? q.2).isSome with|true=>some ([ix a q.1,j<l.length],.pe lt l j (off+a.toNat*aU P q.2))|_=>none)
     |none=>none)
   | .ptb F m off=>(match Hq P t with
     |some q=>(match(P.info? q.2).isSome with|true=>some ([ix a q.1],.ptb F m (off+a.toNat*aU P q.2))|_=>none)
     |none=>none)
   | .pro cs off=>(match Hq P t,cR (avs cs)with
     |some q,some _=>(match(P.info? q.2).isSome with|true=>some ([ix a q.1],.pro cs (off+a.toNat*aU P q.2))|_=>none)
     |_,_=>none)
   |_=>none)
 |_=>none
theorem Zg{P:Program}{t:TypeId}{x i:SV}{ps:List Prop}{r:SV}(h:Td P t x i=some (ps,r))(hp:∀p∈ps,p){K:AV->Prop}(hK:K r.av):Dw P t x.av i.av K/\r.ok:=by
 unfold Td at h;split at h
 case h_2=>cases h
 rename_i k a;split at h
 ·rename_i lt l;split at h
  ·rename_i e he;split at h<;>cases h;rename_i h1 h2;have hb:=hp _ (List.mem_singleton.2 rfl);unfold ix at hb;refine⟨⟨e,he,h1,hb.1,hb.2,?_⟩,show a.toNat<l.length by omega⟩
   rw[Nat.eq_of_beq_eq_true h2];exact hK
  ·cases h
 ·rename_i s lt n;split at h
  ·rename_i e he;split at h<;>cases h;rename_i h1 h2;have hb:=hp _ (List.mem_singleton.2 rfl);unfold ix at hb;refine⟨⟨e,he,h1,hb.1,hb.2,?_⟩,trivial⟩;rw[Nat.eq_of_beq_eq_true h2,Nat.zero_add];exact hK
  ·cases h
 ·rename_i s lt o n;split at h
  ·rename_i e he;split at h<;>cases h;rename_i h1 h2;have hb:=hp _ (List.mem_singleton.2 rfl);unfold ix at hb;refine⟨⟨e,he,h1,hb.1,hb.2,?_⟩,trivial⟩;rw[Nat.eq_of_beq_eq_true h2,<-Nat.add_mul];exact hK
  ·cases h
 ·rename_i s n;split at h
  ·rename_i e he;split at h<;>cases h;rename_i h1;have hb:=hp _ (List.mem_singleton.2 rfl);unfold ix at hb;refine⟨⟨e,he,h1,hb.1,hb.2,?_⟩,trivial⟩;rw[Nat.zero_add];exact hK
  ·cases h
 ·rename_i n cs;split at h
  ·rename_i e m he hm;split at h<;>cases h;rename_i h1;have hb:=hp _ (List.mem_singleton.2 rfl);unfold ix at hb;refine⟨?_,trivial⟩;simp only[SV.av,hm]at hK|-;exact⟨e,he,h1,hb.1,hb.2,hK⟩
  ·cases h
 ·rename_i s off;split at h
  ·rename_i q hq;split at h<;>cases h;rename_i h1;have hb:=hp _ (List.mem_singleton.2 rfl);unfold ix at hb;exact⟨⟨q,hq,h1,hb.1,hb.2,hK⟩,trivial⟩
  ·cases h
 ·rename_i lt l j off;split at h
  ·rename_i q hq;split at h<;>cases h;rename_i h1;have hb:=hp _ (List.mem_cons_self);unfold ix at hb;refine⟨⟨q,hq,h1,hb.1,hb.2,?_⟩,hp (j<l.length) (List.mem_cons_of_mem _ (List.mem_singleton.2 rfl))⟩;rw[Nat.add_assoc];exact hK
  ·cases h
 ·rename_i F m off;split at h
  ·rename_i q hq;split at h<;>cases h;rename_i h1;have hb:=hp _ (List.mem_singleton.2 rfl);unfold ix at hb;exact⟨⟨q,hq,h1,hb.1,hb.2,hK⟩,trivial⟩
  ·cases h
 ·rename_i cs off;split at h
  ·rename_i q m hq hm;split at h<;>cases h;rename_i h1;have hb:=hp _ (List.mem_singleton.2 rfl);unfold ix at hb;refine⟨?_,trivial⟩;simp only[SV.av,hm]at hK|-;exact⟨q,hq,h1,hb.1,hb.2,hK⟩
  ·cases h
 ·cases h
def aBb(x:SV)(i:Nat):Option SV:=match x with
 | .tup l=>l[i]?
 |_=>none
theorem aCb{x:SV}{i:Nat}{r:SV}(h:aBb x i=some r){K:AV->Prop}(hK:K r.av):Ij x.av i K:=by
 unfold aBb at h;split at h
 ·rename_i l;have h1:(avs l)[i]? =some r.av:=by rw[Dd,h];rfl
  show Ij (qJ (avs l)) i K;unfold qJ;cases hq:cR (avs l)with
  |none=>exact⟨_,h1,hK⟩
  |some q=>
   rw[gQ hq,List.getElem?_map]at h1;cases hc:q[i]? with
   |none=>rw[hc]at h1;cases h1
   |some y=>rw[hc,Option.map_some,Option.some.injEq]at h1;exact⟨y,hc,by rw[h1];exact hK⟩
 ·cases h
end Go.Proofs.YtdaeofhdgabhjaaGreat
namespace Go.Proofs.YtdaeofhdgabhjaaGreat
open Go.RowKit
def Hr(raw:Bool)(k:IntKind)(x:Int):List Prop×SV:=match raw,k with
 |false,.i64=>([aE x],.int .i64 x)
 |_,k=>([],.int k (k.wrap x))
theorem vJ{raw:Bool}{k:IntKind}{x:Int}(h:∀p∈(Hr raw k x).1,p):(Hr raw k x).2.av= .p (.int k (k.wrap x)):=by
 unfold Hr at h|-;split
 ·rename_i e;rw[Yr (h _ (List.mem_singleton.2 rfl))];rfl
 ·rfl
def Oe:SV->Option Bool
 | .bool b=>some b
 | .lit b=>some b
 | .prop p d=>some (@decide p d)
 |_=>none
theorem uK{x:SV}{b:Bool}(h:Oe x=some b):x.av= .p (.bool b):=by
 cases x<;>simp only[Oe,reduceCtorEq,Option.some.injEq]at h<;>subst h<;>rfl
def Th(raw:Bool)(op:BinOp)(k:IntKind)(a b:Int):Option (List Prop×SV):=match op with
 | .add=>some (Hr raw k (a+b))
 | .sub=>some (Hr raw k (a-b))
 | .mul=>some (Hr raw k (a*b))
 | .quo=>some ((b≠0)::(Hr raw k (a.tdiv b)).1,(Hr raw k (a.tdiv b)).2)
 | .rem=>some ([b≠0],.int k (a.tmod b))
 | .eql=>some ([],.prop (a=b) inferInstance)
 | .neq=>some ([],.prop (¬a=b) inferInstance)
 | .lss=>some ([],.prop (a<b) inferInstance)
 | .leq=>some ([],.prop (a<=b) inferInstance)
 | .gtr=>some ([],.prop (b<a) inferInstance)
 | .geq=>some ([],.prop (b<=a) inferInstance)
 |_=>none
theorem Zn{raw:Bool}{op:BinOp}{k:IntKind}{a b:Int}{ps:List Prop}{r:SV}(h:Th raw op k a b=some (ps,r))(hp:∀p∈ps,p){K:AV->Prop}(hK:K r.av):wZ op k a b K:=by
 unfold Th at h;split at h<;>simp only[Option.some.injEq,Prod.mk.injEq,reduceCtorEq]at h
 ·have e:=vJ (raw:=raw) (k:=k) (x:=a+b) (by rw[h];exact hp)
  rw[h]at e;unfold wZ;rw[<-e];exact hK
 ·have e:=vJ (raw:=raw) (k:=k) (x:=a-b) (by rw[h];exact hp)
  rw[h]at e;unfold wZ;rw[<-e];exact hK
 ·have e:=vJ (raw:=raw) (k:=k) (x:=a*b) (by rw[h];exact hp)
  rw[h]at e;unfold wZ;rw[<-e];exact hK
 ·obtain⟨rfl,rfl⟩:=h;have e:=vJ (raw:=raw) (k:=k) (x:=a.tdiv b) (fun p h=>hp p (List.mem_cons_of_mem _ h))
  exact⟨hp _ List.mem_cons_self,by rw[<-e];exact hK⟩
 ·obtain⟨rfl,rfl⟩:=h;exact⟨hp _ List.mem_cons_self,hK⟩
 ·obtain⟨rfl,rfl⟩:=h;exact hK
 ·obtain⟨rfl,rfl⟩:=h;show K (.p (.bool (a !=b)));have:(a !=b)=decide (¬a=b):=by by_cases e:a=b<;>simp[e]
  rw[this];exact hK
 ·obtain⟨rfl,rfl⟩:=h;exact hK
 ·obtain⟨rfl,rfl⟩:=h;exact hK
 ·obtain⟨rfl,rfl⟩:=h;exact hK
 ·obtain⟨rfl,rfl⟩:=h;exact hK
def Ig:List SV->Option (List Int)
 |[] =>some []
 | .int .i64 a::l=>(match Ig l with|some m=>some (a::m)|none=>none)
 |_::_=>none
theorem Ew:∀{l:List SV} {m:List Int},Ig l=some m->avs l=(aA0 m).map .p
 |[],m,h=>by simp only[Ig,Option.some.injEq]at h;subst h;rfl
 |x::l,m,h=>by
  unfold Ig at h;split at h
  ·rename_i e;cases e
  ·rename_i a l' e;cases e;split at h<;>cases h;rename_i m' hm;rw[avs,Ew hm];rfl
  ·cases h
theorem oA:∀m:List Int,pJ (aA0 m)=some m
 |[] =>rfl
 |x::m=>by
  have:=oA m;unfold aA0 at*;simp only[List.map_cons,pJ,this,Option.map_some]
def eqP(xs ys:List Int):SV:=match xs,ys with
 |[a,b],[c,d] => .prop ((⟨a,b⟩:Geo.V)=⟨c,d⟩) inferInstance
 |[a,b,c,d],[e,f,g,h] => .prop ((⟨⟨a,b⟩,⟨c,d⟩⟩:Geo.S)=⟨⟨e,f⟩,⟨g,h⟩⟩) inferInstance
 |xs,ys=> .prop (xs=ys) inferInstance
theorem aBL(xs ys:List Int):(eqP xs ys).av= .p (.bool (xs==ys)):=by
 unfold eqP;split
 ·rename_i a b c d;show AV.p (.bool (decide _))=_
  congr 2
  rw[Bool.eq_iff_iff];simp only[decide_eq_true_eq,beq_iff_eq,Geo.V.mk.injEq,List.cons.injEq,and_true]
 ·rename_i a b c d e f g h;show AV.p (.bool (decide _))=_
  congr 2
  rw[Bool.eq_iff_iff];simp only[decide_eq_true_eq,beq_iff_eq,Geo.V.mk.injEq,Geo.S.mk.injEq,List.cons.injEq,and_true,and_assoc]
 ·show AV.p (.bool (decide _))=_
  congr 2
  rw[Bool.eq_iff_iff];simp only[decide_eq_true_eq,beq_iff_eq]
def aDQ:SV->Option SV
 | .prop p d=>some (.prop (¬p) (@instDecidableNot p d))
 | .bool b=>some (.bool (!b))
 | .lit true=>some (.lit false)
 | .lit false=>some (.lit true)
 |_=>none
theorem Xp{x r:SV}(h:aDQ x=some r):∃b,x.av= .p (.bool b)/\r.av= .p (.bool (!b)):=by
 cases x<;>simp only[aDQ,reduceCtorEq,Option.some.injEq]at h
 ·subst h;exact⟨_,rfl,rfl⟩
 ·rename_i b;cases b<;>simp only[Option.some.injEq]at h<;>subst h<;>exact⟨_,rfl,rfl⟩
 ·rename_i p d;subst h;refine⟨_,rfl,?_⟩;show AV.p (.bool (decide _))=_
  congr 2
  cases d<;>rfl
abbrev EqT:=List (TypeId×Nat)
def EqT.Ok(P:Program)(q:EqT):Prop:=∀t m,(t,m)∈q->Dz P t m
def EqT.has:EqT->TypeId->Nat->Bool
 |[],_,_=>false
 |(a,b)::l,t,m=>(Nat.beq a t&&Nat.beq b m)||EqT.has l t m
theorem EqT.Mc:∀{q:EqT} {t m:Nat},q.has t m=true->(t,m)∈q
 |[],t,m,h=>by cases h
 |(a,b)::l,t,m,h=>by
  simp only[EqT.has,Bool.or_eq_true,Bool.and_eq_true]at h;rcases h with⟨h1,h2⟩|h
  ·rw[Nat.eq_of_beq_eq_true h1,Nat.eq_of_beq_eq_true h2];exact List.mem_cons_self
  ·exact List.mem_cons_of_mem _ (EqT.Mc h)
def aHp(P:Program)(q:EqT)(raw:Bool)(op:BinOp)(t:TypeId)(x y:SV):Option (List Prop×SV):=match x,y with
 | .int k a,.int k' b=>(match decEq k' k with| .isTrue _=>Th raw op k a b| .isFalse _=>none)
 | .agg l,.agg m=>(match Ig l,Ig m with
   |some xs,some ys=>(match Nat.beq xs.length ys.length,q.has t xs.length,op with
    |true,true,.eql=>some ([],eqP xs ys)
    |true,true,.neq=>(match aDQ (eqP xs ys)with|some r=>some ([],r)|none=>none)
    |_,_,_=>none)
   |_,_=>none)
 |x,y=>(match Oe x,Oe y,aA7 P t,op with
  |some a,some b,true,.eql=>some ([],.bool (a==b))
  |some a,some b,true,.neq=>some ([],.bool (a !=b))
  |_,_,_,_=>none)
theorem aEj{P:Program}{q:EqT}(hq:q.Ok P){raw:Bool}{op:BinOp}{t:TypeId}{x y:SV}{ps:List Prop}{r:SV}(h:aHp P q raw op t x y=some (ps,r))(hp:∀p∈ps,p){K:AV->Prop}(hK:K r.av):Sp P op t x.av y.av K:=by
 unfold aHp at h;split at h
 ·rename_i k a k' b;split at h
  ·rename_i e _;exact⟨e,Zn h hp hK⟩
  ·cases h
 ·rename_i l m;split at h
  ·rename_i xs ys hx hy;have key:∀(op:BinOp),(∃xs' ys',pJ (aA0 xs)=some xs'/\pJ (aA0 ys)=some ys'/\xs'.length=ys'.length/\Dz P t xs'.length/\(match op with| .eql=>K (.p (.bool (xs'==ys')))| .neq=>K (.p (.bool (xs' !=ys')))|_=>False))->Sp P op t (SV.agg l).av (SV.agg m).av K:=by
    intro op h;show Sp P op t (iK (avs l)) (iK (avs m)) K;rw[Ew hx,Ew hy,pW,pW];exact h
   split at h
   ·rename_i h1 h2;cases h;refine key _ ⟨xs,ys,oA _,oA _,Nat.eq_of_beq_eq_true h1,hq _ _ (EqT.Mc h2),?_⟩;rw[aBL]at hK;exact hK
   ·rename_i h1 h2;split at h<;>cases h;rename_i hr;obtain⟨b,e1,e2⟩:=Xp hr;rw[aBL]at e1;cases e1;refine key _ ⟨xs,ys,oA _,oA _,Nat.eq_of_beq_eq_true h1,hq _ _ (EqT.Mc h2),?_⟩;rw[e2]at hK;exact hK
   ·cases h
  ·cases h
 ·split at h
  ·rename_i a b h1 h2 h3;cases h;rw[uK h1,uK h2];exact⟨h3,hK⟩
  ·rename_i a b h1 h2 h3;cases h;rw[uK h1,uK h2];exact⟨h3,hK⟩
  ·cases h
def sun(raw:Bool)(op:UnOp)(x:SV):Option (List Prop×SV):=match op with
 | .not=>(match aDQ x with|some r=>some ([],r)|none=>none)
 | .neg=>(match x with| .int k a=>some (Hr raw k (0-a))|_=>none)
 |_=>none
theorem aHM{raw:Bool}{op:UnOp}{x:SV}{ps:List Prop}{r:SV}(h:sun raw op x=some (ps,r))(hp:∀p∈ps,p){K:AV->Prop}(hK:K r.av):unA op x.av K:=by
 unfold sun at h;split at h
 ·split at h<;>cases h;rename_i hr;obtain⟨b,e1,e2⟩:=Xp hr;rw[e1];rw[e2]at hK;exact hK
 ·split at h
  ·rename_i k a;simp only[Option.some.injEq]at h;have e:=vJ (raw:=raw) (k:=k) (x:=0-a) (by rw[h];exact hp)
   rw[h]at e;show K _;rw[<-e];exact hK
  ·cases h
 ·cases h
def aBc(P:Program)(raw:Bool)(s d:TypeId)(x:SV):Option (List Prop×SV):=match x with
 | .int _ a=>(match(P.underlying s).isSome,Sj P d with
   |true,some k=>some (Hr raw k a)
   |_,_=>none)
 |_=>none
theorem aCc{P:Program}{raw:Bool}{s d:TypeId}{x:SV}{ps:List Prop}{r:SV}(h:aBc P raw s d x=some (ps,r))(hp:∀p∈ps,p){K:AV->Prop}(hK:K r.av):Wh P s d x.av K:=by
 unfold aBc at h;split at h
 ·rename_i k0 a;split at h
  ·rename_i k h1 h2;simp only[Option.some.injEq]at h;have e:=vJ (raw:=raw) (k:=k) (x:=a) (by rw[h];exact hp)
   rw[h]at e;exact⟨h1,k,h2,by rw[<-e];exact hK⟩
  ·cases h
 ·cases h
def aHt:SV->Option Int
 | .int _ n=>some n
 |_=>none
theorem aED{x:SV}{n:Int}(h:aHt x=some n):aDS x.av=some n:=by
 cases x<;>simp only[aHt,reduceCtorEq,Option.some.injEq]at h;subst h;rfl
def aDW(E:SE):Option Operand->Option (Option Int)
 |none=>some none
 |some x=>(match aHt (E x)with|some n=>some (some n)|none=>none)
def aNX:SV->Int
 | .lst _ l=>(l.length:Int)
 | .own _ _ n=>n
 | .owns _ _ _ n=>n
 | .ownx _ n=>n
 |_=>0
def Ta(P:Program)(t:TypeId)(x:SV)(lo hi:Option Int):Option (List Prop×SV):=match fJ P t with
 |some e=>(match(P.info? e).isSome,Nat.beq (aU P e) 0 with
  |true,false=>(match x,lo,hi with
   | .lst lt l,lo,hi=>(match Nat.beq (aU P e) lt.w with
     |true=>(match lo,hi with
      |none,none=>some ([],.lst lt l)
      |some a,none=>some ([0<=a/\a<=(l.length:Int)],.lst lt (l.drop a.toNat))
      |none,some b=>some ([0<=b/\b<=(l.length:Int)],.lst lt (l.take b.toNat))
      |some a,some b=>some ([0<=a/\a<=b/\b<=(l.length:Int)],.lst lt ((l.take b.toNat).drop a.toNat)))
     |false=>none)
   | .own s lt n,lo,hi=>(match Nat.beq (aU P e) lt.w with
     |true=>(match lo,hi with
      |none,none=>some ([],.own s lt n)
      |none,some b=>some ([0<=b/\b<=(n:Int)],.owns s lt 0 b.toNat)
      |some a,none=>some ([0<=a/\a<=(n:Int)],.owns s lt a.toNat (n-a.toNat))
      |some a,some b=>some ([0<=a/\a<=b/\b<=(n:Int)],.owns s lt a.toNat (b.toNat-a.toNat)))
     |false=>none)
   | .owns s lt o n,lo,hi=>(match Nat.beq (aU P e) lt.w with
     |true=>(match lo,hi with
      |none,none=>some ([],.owns s lt o n)
      |none,some b=>some ([0<=b/\b<=(n:Int)],.owns s lt o b.toNat)
      |some a,none=>some ([0<=a/\a<=(n:Int)],.owns s lt (o+a.toNat) (n-a.toNat))
      |some a,some b=>some ([0<=a/\a<=b/\b<=(n:Int)],.owns s lt (o+a.toNat) (b.toNat-a.toNat)))
     |false=>none)
   | .ownx s n,none,none=>some ([],.ownx s n)
   |_,_,_=>none)
  |_,_=>none)
 |none=>none
theorem Ze{P:Program}{t:TypeId}{x:SV}{lo hi:Option Int}{ps:List Prop}{r:SV}(h:Ta P t x lo hi=some (ps,r))(hp:∀p∈ps,p){K:AV->Prop}(hK:K r.av):
  zZ P t x.av (some (lo.getD 0)) (some (hi.getD (Lb x.av))) K:=by
 unfold Ta at h;split at h
 case h_2=>cases h
 rename_i e he;split at h
 case h_2=>cases h
 rename_i h1 h2;have h2':aU P e≠0:=Nat.ne_of_beq_eq_false h2;split at h
 ·rename_i lt l;split at h
  case h_2=>cases h
  rename_i hw;have hw:=Nat.eq_of_beq_eq_true hw;have key:∀a b:Int,0<=a->a<=b->b<=l.length->K (.p (.sl ((l.take b.toNat).drop a.toNat).length (lt.enc ((l.take b.toNat).drop a.toNat))))->zZ P t (SV.lst lt l).av (some a) (some b) K:=by
   intro a b ha hb hc hK;refine⟨e,a,b,he,h1,h2',rfl,rfl,ha,hb,hc,?_⟩;rw[hw,lt.wide.take,lt.wide.drop];have:((l.take b.toNat).drop a.toNat).length=b.toNat-a.toNat:=by simp only[List.length_drop,List.length_take];omega
   rw[<-this];exact hK
  split at h<;>cases h
  ·refine key 0 (l.length:Int) (by omega) (by omega) (by omega) ?_
   rw[Int.toNat_natCast,List.take_length];exact hK
  ·rename_i a;have hb:=hp _ (List.mem_singleton.2 rfl);refine key a (l.length:Int) hb.1 hb.2 (by omega) ?_
   rw[Int.toNat_natCast,List.take_length];exact hK
  ·rename_i b;have hb:=hp _ (List.mem_singleton.2 rfl);exact key 0 b (by omega) hb.1 hb.2 hK
  ·rename_i a b;have hb:=hp _ (List.mem_singleton.2 rfl);exact key a b hb.1 hb.2.1 hb.2.2 hK
 ·rename_i s lt n;split at h
  case h_2=>cases h
  rename_i hw;have hw:=Nat.eq_of_beq_eq_true hw;have key:∀a b:Int,0<=a->a<=b->b<=n->K (.own s (a.toNat*lt.w) (b.toNat-a.toNat))->zZ P t (SV.own s lt n).av (some a) (some b) K:=by
   intro a b ha hb hc hK;refine⟨e,a,b,he,h1,h2',rfl,rfl,ha,hb,hc,?_⟩;rw[hw,Nat.zero_add];exact hK
  split at h<;>cases h
  ·refine key 0 (n:Int) (by omega) (by omega) (by omega) ?_
   simpa[SV.av]using hK
  ·rename_i b;have hb:=hp _ (List.mem_singleton.2 rfl);refine key 0 b (by omega) hb.1 hb.2 ?_
   simpa[SV.av]using hK
  ·rename_i a;have hb:=hp _ (List.mem_singleton.2 rfl);exact key a (n:Int) hb.1 hb.2 (by omega) (by simpa[SV.av]using hK)
  ·rename_i a b;have hb:=hp _ (List.mem_singleton.2 rfl);exact key a b hb.1 hb.2.1 hb.2.2 hK
 ·rename_i s lt o n;split at h
  case h_2=>cases h
  rename_i hw;have hw:=Nat.eq_of_beq_eq_true hw;have key:∀a b:Int,0<=a->a<=b->b<=n->K (.own s ((o+a.toNat)*lt.w) (b.toNat-a.toNat))->zZ P t (SV.owns s lt o n).av (some a) (some b) K:=by
   intro a b ha hb hc hK;refine⟨e,a,b,he,h1,h2',rfl,rfl,ha,hb,hc,?_⟩;rw[hw,<-Nat.add_mul];exact hK
  split at h<;>cases h
  ·refine key 0 (n:Int) (by omega) (by omega) (by omega) ?_
   simpa[SV.av]using hK
  ·rename_i b;have hb:=hp _ (List.mem_singleton.2 rfl);refine key 0 b (by omega) hb.1 hb.2 ?_
   simpa[SV.av]using hK
  ·rename_i a;have hb:=hp _ (List.mem_singleton.2 rfl);exact key a (n:Int) hb.1 hb.2 (by omega) (by simpa[SV.av]using hK)
  ·rename_i a b;have hb:=hp _ (List.mem_singleton.2 rfl);exact key a b hb.1 hb.2.1 hb.2.2 hK
 ·rename_i s n;cases h;refine⟨e,0,(n:Int),he,h1,h2',rfl,rfl,Int.le_refl _,Int.natCast_nonneg _,Int.le_refl _,?_⟩;simpa[SV.av]using hK
 ·cases h
def aHo(P:Program)(t:TypeId)(x:SV):Option SV:=match x with
 | .lst _ l=>(match(fJ P t).isSome with|true=>some (.int .i64 (l.length:Int))|false=>none)
 | .own _ _ n=>(match(fJ P t).isSome with|true=>some (.int .i64 (n:Int))|false=>none)
 | .owns _ _ _ n=>(match(fJ P t).isSome with|true=>some (.int .i64 (n:Int))|false=>none)
 | .ownx _ n=>(match(fJ P t).isSome with|true=>some (.int .i64 (n:Int))|false=>none)
 | .sl n cs=>(match(fJ P t).isSome,cR (avs cs)with|true,some _=>some (.int .i64 (n:Int))|_,_=>none)
 | .nil=>(match(fJ P t).isSome with|true=>some (.int .i64 0)|false=>none)
 |_=>none
theorem aEf{P:Program}{t:TypeId}{x r:SV}(h:aHo P t x=some r){K:AV->Prop}(hK:K r.av):aAZ P t x.av K:=by
 unfold aHo at h;split at h
 ·split at h<;>cases h;rename_i h1;exact⟨h1,hK⟩
 ·split at h<;>cases h;rename_i h1;exact⟨h1,hK⟩
 ·split at h<;>cases h;rename_i h1;exact⟨h1,hK⟩
 ·split at h<;>cases h;rename_i h1;exact⟨h1,hK⟩
 ·rename_i n cs;split at h<;>cases h;rename_i q h1 h2;simp only[SV.av,h2];exact⟨h1,hK⟩
 ·split at h<;>cases h;rename_i h1;exact⟨h1,hK⟩
 ·cases h
def aBg(σ:Sg)(e:TypeId)(lt:LT)(x:SV):Option (List Prop×List lt.ty×List Nat):=match x with
 | .nil=>some ([],[],[])
 | .own s _ k=>(match σ s with
   |some (.row ty lt' l)=>(match decEq lt' lt,Nat.beq ty e with
    | .isTrue h,true=>some ([k=l.length],h▸l,[s])
    |_,_=>none)
   |_=>none)
 | .ownx s k=>(match σ s with
   |some (.arr ty ez cs)=>(match Nat.beq ty e,Nat.beq ez lt.w,lt.decs k cs with
    |true,true,some l=>some ([],l,[s])
    |_,_,_=>none)
   |_=>none)
 |_=>none
def aA8(σ:Sg)(lt:LT)(x:SV):Option (List Prop×List lt.ty×List Nat):=match x with
 | .nil=>some ([],[],[])
 | .lst lt' l=>(match decEq lt' lt with
   | .isTrue h=>some ([],h▸l,[])
   | .isFalse _=>none)
 | .own s _ k=>(match σ s with
   |some (.row _ lt' l)=>(match decEq lt' lt with
    | .isTrue h=>some ([k=l.length],h▸l,[s])
    | .isFalse _=>none)
   |_=>none)
 | .owns s lt2 o k=>(match σ s with
   |some (.row _ lt' l)=>(match decEq lt' lt,decEq lt2 lt with
    | .isTrue h,.isTrue _=>some ([o+k<=l.length],(h▸l:List lt.ty).drop o|>.take k,[s])
    |_,_=>none)
   |_=>none)
 | .ownx s k=>(match σ s with
   |some (.arr _ ez cs)=>(match Nat.beq ez lt.w,lt.decs k cs with
    |true,some l=>some ([],l,[s])
    |_,_=>none)
   |_=>none)
 |_=>none
def aDL(P:Program)(ltOf:TypeId->Option LT)(n:Nat)(t t':TypeId)(σ:Sg)(x y:SV):SR:=match fJ P t,(fJ P t').isSome with
 |some e,true=>(match ltOf e,oF P e with
  |some lt,true=>(match Nat.beq (aU P e) lt.w,aBg σ e lt x,aA8 σ lt y with
   |true,some (p1,l,r1),some (p2,m,r2)=>some (p1++p2++[l.length+m.length<=1000000],.own n lt (l++m).length,r1++r2,r1.map (·,none)++[(n,some (.row e lt (l++m)))])
   |_,_,_=>none)
  |_,_=>none)
 |_,_=>none
theorem aCO{σ:Sg}{e:TypeId}{lt:LT}{x:SV}{ps:List Prop}{l:List lt.ty}{r:List Nat}(h:aBg σ e lt x=some (ps,l,r))(hp:∀p∈ps,p){K:Nat->List AV->List Nat->Prop}(hK:K l.length ((lt.enc l).map .p) r):aBh σ.a e lt.w x.av K:=by
 unfold aBg at h;split at h
 ·cases h;exact hK
 ·rename_i s _ k;split at h
  ·rename_i ty lt' l' hs;split at h
   ·rename_i he _ hty;subst he;cases h;have hk:k=l'.length:=hp _ (List.mem_singleton.2 rfl);refine⟨_,by unfold Sg.a;rw[hs];rfl,Nat.eq_of_beq_eq_true hty,rfl,?_,by rw[hk];exact hK⟩
    show((lt'.enc l').map AV.p).length=_;rw[List.length_map,lt'.wide.length,hk]
   ·cases h
  ·cases h
 ·rename_i s k;split at h
  ·rename_i ty ez cs hs;split at h<;>cases h;rename_i h1 h2 h3;obtain⟨e1,e2⟩:=LT.vK h3;have h2:=Nat.eq_of_beq_eq_true h2;refine⟨_,by unfold Sg.a;rw[hs];rfl,Nat.eq_of_beq_eq_true h1,h2,?_,?_⟩
   ·show(avs cs).length=_;rw[e2,List.length_map,lt.wide.length,e1]
   ·show K k (avs cs) [s];rw[e2,<-e1];exact hK
  ·cases h
 ·cases h
theorem aB5{σ:Sg}{lt:LT}{x:SV}{ps:List Prop}{l:List lt.ty}{r:List Nat}(h:aA8 σ lt x=some (ps,l,r))(hp:∀p∈ps,p){K:Nat->List AV->List Nat->Prop}(hK:K l.length ((lt.enc l).map .p) r):Vy σ.a lt.w x.av K:=by
 unfold aA8 at h;split at h
 ·cases h;exact hK
 ·rename_i lt' l';split at h
  ·rename_i he _;subst he;cases h;exact⟨lt'.wide.length _,hK⟩
  ·cases h
 ·rename_i s _ k;split at h
  ·rename_i ty lt' l' hs;split at h
   ·rename_i he _;subst he;cases h;have hk:k=l'.length:=hp _ (List.mem_singleton.2 rfl);refine⟨_,(lt'.enc l').map .p,by unfold Sg.a;rw[hs];rfl,?_,?_,by rw[hk];exact hK⟩
    ·show(((lt'.enc l').map AV.p).drop 0).take (k*lt'.w)=_;rw[List.drop_zero,List.take_of_length_le (by rw[List.length_map,lt'.wide.length,hk];exact Nat.le_refl _)]
    ·rw[List.length_map,lt'.wide.length,hk]
   ·cases h
  ·cases h
 ·rename_i s lt2 o k;split at h
  ·rename_i ty lt' l' hs;split at h
   ·rename_i he he2 _ _;subst he;subst he2;cases h;have hk:o+k<=l'.length:=hp _ (List.mem_singleton.2 rfl);have hlen:((l'.drop o).take k).length=k:=by simp;omega
    refine⟨_,(lt2.enc ((l'.drop o).take k)).map .p,by unfold Sg.a;rw[hs];rfl,?_,?_,by rw[hlen]at hK;exact hK⟩
    ·show(((lt2.enc l').map AV.p).drop (o*lt2.w)).take (k*lt2.w)=_;rw[<-List.map_drop,<-List.map_take,lt2.wide.drop,lt2.wide.take]
    ·rw[List.length_map,lt2.wide.length,hlen]
   ·cases h
  ·cases h
 ·rename_i s k;split at h
  ·rename_i ty ez cs hs;split at h<;>cases h;rename_i h1 h3;obtain⟨e1,e2⟩:=LT.vK h3;have hl:(avs cs).length=k*lt.w:=by rw[e2,List.length_map,lt.wide.length,e1]
   refine⟨_,avs cs,by unfold Sg.a;rw[hs];rfl,?_,hl,by rw[e2,<-e1];exact hK⟩
   show((avs cs).drop 0).take (k*lt.w)=_;rw[List.drop_zero,List.take_of_length_le (by rw[hl];exact Nat.le_refl _)]
  ·cases h
 ·cases h
theorem Fx(A B:dG):dG.sto (A++B)=A.sto++B.sto:=List.map_append
theorem Ou(r:List Nat):dG.sto (r.map (·,none))=r.map (·,none):=by
 unfold dG.sto;rw[List.map_map];rfl
theorem aEk{P:Program}{ltOf:TypeId->Option LT}{n:Nat}{t t':TypeId}{σ:Sg}{x y:SV}{ps:List Prop}{r:SV}{rd:List Nat}{W:dG}(h:aDL P ltOf n t t' σ x y=some (ps,r,rd,W))(hp:∀p∈ps,p):
  (fJ P t').isSome=true/\aHC P n t σ.a x.av y.av fun r' R' W'=>r'=r.av/\R'=rd/\W'=W.sto:=by
 unfold aDL at h;split at h
 case h_2=>cases h
 rename_i e he ht';split at h
 case h_2=>cases h
 rename_i lt hlt htapp;split at h
 case h_2=>cases h
 rename_i p1 l r1 p2 m r2 hw h1 h2;cases h;refine⟨ht',e,he,htapp,?_⟩;rw[Nat.eq_of_beq_eq_true hw];refine aCO h1 (fun p hpp=>hp p (by simp[hpp])) (aB5 h2 (fun p hpp=>hp p (by simp[hpp])) ⟨hp _ (by simp),?_,rfl,?_⟩)
 ·show _=AV.own n 0 _;rw[List.length_append]
 ·rw[Fx,Ou];show _=_++[(n,some (⟨e,lt.w,(lt.enc (l++m)).map AV.p⟩:Ob))];rw[lt.wide.append,List.map_append]
def smm(f:Int->Int->Int)(x y:SV):Option SV:=match x,y with
 | .int .i64 a,.int .i64 b=>some (.int .i64 (f a b))
 |_,_=>none
theorem aBv{f:Int->Int->Int}{x y r:SV}(h:smm f x y=some r){K:AV->Prop}(hK:K r.av):mmA f x.av y.av K:=by
 unfold smm at h;split at h<;>cases h;exact hK
end Go.Proofs.YtdaeofhdgabhjaaGreat
namespace Go.Proofs.YtdaeofhdgabhjaaGreat
open Go.RowKit
def wG(f:SV->Option (List Prop×SV)):List SV->Option (List Prop×List SV)
 |[] =>some ([],[])
 |x::l=>match f x,wG f l with
  |some (p,y),some (q,m)=>some (p++q,y::m)
  |_,_=>none
def qH:Nat->Sg->SV->Option (List Prop×SV)
 |_,_,.nil=>some ([],.sl 0 [])
 |_+1,σ,.own s _ n=>(match σ s with
  |some (.row _ lt l)=>some ([n=l.length],.lst lt l)
  |_=>none)
 |_+1,σ,.owns s lt2 o n=>(match σ s with
  |some (.row _ lt l)=>(match Nat.beq lt2.w lt.w with|true=>some ([o+n<=l.length],.lst lt ((l.drop o).take n))|false=>none)
  |_=>none)
 |d+1,σ,.ownx s n=>(match σ s with
  |some (.arr _ ez cs)=>(match Nat.beq cs.length (n*ez),wG (qH d σ) cs with|true,some (ps,m)=>some (ps,.sl n m)|_,_=>none)
  |_=>none)
 |d+1,σ,.ptr s off=>(match σ s with
  |some (.box _ cs)=>(match wG (qH d σ) cs with|some (ps,m)=>some (ps,.pro m off)|none=>none)
  |_=>none)
 |d+1,σ,.agg l=>(match wG (qH d σ) l with|some (ps,m)=>some (ps,.agg m)|none=>none)
 |d+1,σ,.fn f a b=>(match wG (qH d σ) a,wG (qH d σ) b with|some (p,x),some (q,y)=>some (p++q,.fnp f x y)|_,_=>none)
 |_,_,x=>(match x.av with| .p _=>some ([],x)|_=>none)
theorem Ct{d:Nat}{σ:Sg}{f:SV->Option (List Prop×SV)}(hf:∀x ps y,f x=some (ps,y)->(∀p∈ps,p)->∃q,iU d σ.a x.av=some q/\y.av= .p q):
  ∀{l:List SV} {ps:List Prop} {m:List SV},wG f l=some (ps,m)->(∀p∈ps,p)->∃q,mY (iU d σ.a) (avs l)=some q/\avs m=q.map .p
 |[],ps,m,h,_=>by simp only[wG,Option.some.injEq,Prod.mk.injEq]at h;obtain⟨rfl,rfl⟩:=h;exact⟨[],rfl,rfl⟩
 |x::l,ps,m,h,hp=>by
  unfold wG at h;split at h
  ·rename_i p y q m' h1 h2;cases h;obtain⟨u,e1,e2⟩:=hf x p y h1 (fun r hr=>hp r (List.mem_append_left _ hr))
   obtain⟨v,e3,e4⟩:=Ct hf h2 (fun r hr=>hp r (List.mem_append_right _ hr))
   refine⟨u::v,?_,by rw[avs,e2,e4];rfl⟩
   rw[avs,mY,e1,e3]
  ·cases h
theorem Ga{d:Nat}{σ:Sg}{x:SV}{ps:List Prop}{y:SV}(h:(match x.av with| .p _=>some (([] :List Prop),x)|_=>none)=some (ps,y)):∃q,iU d σ.a x.av=some q/\y.av= .p q:=by
 split at h<;>cases h;rename_i q hq;exact⟨q,by rw[hq,Tc],hq⟩
theorem Ox{σ:Sg}:∀{d:Nat} {x:SV} {ps:List Prop} {y:SV},qH d σ x=some (ps,y)->(∀p∈ps,p)->∃q,iU d σ.a x.av=some q/\y.av= .p q:=by
 intro d;induction d with
 |zero=>
  intro x ps y h hp;cases x<;>first
   |(change some ([],SV.sl 0 [])=some (ps,y)at h;cases h;exact⟨.sl 0 [],rfl,rfl⟩)
   |exact Ga h
 |succ d ih=>
  intro x ps y h hp;have ihl:= @Ct d σ (qH d σ) (fun x ps y=>ih)
  cases x with
  |nil=>change some ([],SV.sl 0 [])=some (ps,y)at h;cases h;exact⟨.sl 0 [],rfl,rfl⟩
  |own s t n=>
   change (match σ s with|some (.row _ lt l)=>some ([n=l.length],SV.lst lt l)|_=>none)=_ at h
   split at h<;>cases h;rename_i ty lt l hs;have hn:n=l.length:=hp _ (List.mem_singleton.2 rfl);refine⟨_,?_,rfl⟩;show iU (d+1) (Sg.a σ) (.own s 0 n)=_;unfold iU;have:Sg.a σ s=some ⟨ty,lt.w,(lt.enc l).map .p⟩:=by unfold Sg.a;rw[hs];rfl
   rw[this];simp only[Option.bind_some,wU,Option.map_some,List.drop_zero];rw[List.take_of_length_le (by rw[lt.wide.length,hn];exact Nat.le_refl _),hn]
  |owns s lt2 o n=>
   change (match σ s with|some (.row _ lt l)=>(match Nat.beq lt2.w lt.w with|true=>some ([o+n<=l.length],SV.lst lt ((l.drop o).take n))|false=>none)|_=>none)=_ at h
   split at h
   case h_2=>cases h
   rename_i ty lt l hs;split at h<;>cases h;rename_i hw;have hw:=Nat.eq_of_beq_eq_true hw;have hn:o+n<=l.length:=hp _ (List.mem_singleton.2 rfl);refine⟨_,?_,rfl⟩;show iU (d+1) (Sg.a σ) (.own s (o*lt2.w) n)=_;unfold iU;have:Sg.a σ s=some ⟨ty,lt.w,(lt.enc l).map .p⟩:=by unfold Sg.a;rw[hs];rfl
   rw[this];simp only[Option.bind_some,wU,Option.map_some];rw[hw,lt.wide.drop,lt.wide.take]
   congr 2
   simp;omega
  |ownx s n=>
   change (match σ s with|some (.arr _ ez cs)=>(match Nat.beq cs.length (n*ez),wG (qH d σ) cs with|true,some (ps,m)=>some (ps,SV.sl n m)|_,_=>none)|_=>none)=_ at h
   split at h
   case h_2=>cases h
   rename_i ty ez cs hs;split at h<;>cases h;rename_i m hl hm;obtain⟨q,e1,e2⟩:=ihl hm hp;refine⟨.sl n q,?_,by show(match cR (avs m)with|some q=>AV.p (.sl n q)|none=> .any)=_;rw[e2,dC]⟩
   show iU (d+1) (Sg.a σ) (.own s 0 n)=_;unfold iU;have:Sg.a σ s=some ⟨ty,ez,avs cs⟩:=by unfold Sg.a;rw[hs];rfl
   rw[this];simp only[Option.bind_some,e1,Option.map_some,List.drop_zero];rw[List.take_of_length_le (by rw[<-(rO e1).1,fY,Nat.eq_of_beq_eq_true hl];exact Nat.le_refl _)]
  |ptr s off=>
   change (match σ s with|some (.box _ cs)=>(match wG (qH d σ) cs with|some (ps,m)=>some (ps,SV.pro m off)|none=>none)|_=>none)=_ at h
   split at h
   case h_2=>cases h
   rename_i ty cs hs;split at h<;>cases h;rename_i m hm;obtain⟨q,e1,e2⟩:=ihl hm hp;refine⟨.pro q off,?_,by show(match cR (avs m)with|some q=>AV.p (.pro q off)|none=> .any)=_;rw[e2,dC]⟩
   show iU (d+1) (Sg.a σ) (.ptr s off)=_;unfold iU;have:Sg.a σ s=some ⟨ty,0,avs cs⟩:=by unfold Sg.a;rw[hs];rfl
   rw[this];simp only[Option.bind_some,e1,Option.map_some]
  |agg l=>
   change (match wG (qH d σ) l with|some (ps,m)=>some (ps,SV.agg m)|none=>none)=_ at h
   split at h<;>cases h;rename_i m hm;obtain⟨q,e1,e2⟩:=ihl hm hp;refine⟨.agg q,?_,by show iK (avs m)=_;rw[e2,pW]⟩
   show iU (d+1) (Sg.a σ) (iK (avs l))=_;unfold iK;cases hq:cR (avs l)with
   |some q'=>
    rw[gQ hq,wU]at e1;cases e1;exact Tc _ _ _
   |none=>dsimp only;unfold iU;rw[e1];rfl
  |fn f a b=>
   change (match wG (qH d σ) a,wG (qH d σ) b with|some (p,x),some (q,y)=>some (p++q,SV.fnp f x y)|_,_=>none)=_ at h
   split at h<;>cases h;rename_i p x q y h1 h2;obtain⟨u,e1,e2⟩:=ihl h1 (fun r hr=>hp r (List.mem_append_left _ hr))
   obtain⟨v,e3,e4⟩:=ihl h2 (fun r hr=>hp r (List.mem_append_right _ hr))
   refine⟨.fn (.func f) u v,?_,by show(match cR (avs x),cR (avs y)with|some x,some y=>AV.p (.fn (.func f) x y)|_,_=> .any)=_;rw[e2,e4,dC,dC]⟩
   show iU (d+1) (Sg.a σ) (.fn (.func f) (avs a) (avs b))=_;unfold iU;rw[e1,e3];rfl
  |_=>exact Ga h
def kD:Nat->Sg->SV->List Nat
 |0,_,_=>[]
 |d+1,σ,.own s _ _=>s::(match σ s with|some (.box _ cs)=>dM (kD d σ) cs|some (.arr _ _ cs)=>dM (kD d σ) cs|_=>[])
 |d+1,σ,.owns s _ _ _=>s::(match σ s with|some (.box _ cs)=>dM (kD d σ) cs|some (.arr _ _ cs)=>dM (kD d σ) cs|_=>[])
 |d+1,σ,.ownx s _=>s::(match σ s with|some (.box _ cs)=>dM (kD d σ) cs|some (.arr _ _ cs)=>dM (kD d σ) cs|_=>[])
 |d+1,σ,.ptr s _=>s::(match σ s with|some (.box _ cs)=>dM (kD d σ) cs|some (.arr _ _ cs)=>dM (kD d σ) cs|_=>[])
 |d+1,σ,.pte s _ _ _=>s::(match σ s with|some (.box _ cs)=>dM (kD d σ) cs|some (.arr _ _ cs)=>dM (kD d σ) cs|_=>[])
 |d+1,σ,.agg l=>dM (kD d σ) l
 |d+1,σ,.fn _ a b=>dM (kD d σ) a++dM (kD d σ) b
 |_+1,_,_=>[]
theorem pS{d:Nat}{σ:Sg}(ih:∀x:SV,iQ d σ.a x.av=kD d σ x):∀l:List SV,dM (iQ d σ.a) (avs l)=dM (kD d σ) l
 |[] =>rfl
 |x::l=>by rw[avs,dM,dM,ih,pS ih l]
theorem aCm{σ:Sg}:∀(d:Nat) (x:SV),iQ d σ.a x.av=kD d σ x:=by
 intro d;induction d with
 |zero=>intro x;rfl
 |succ d ih=>
  intro x;have obs:∀s:Nat,(match σ.a s with|some ob=>dM (iQ d σ.a) ob.cells|none=>[])=(match σ s with|some (.box _ cs)=>dM (kD d σ) cs|some (.arr _ _ cs)=>dM (kD d σ) cs|_=>[]):=by
   intro s;unfold Sg.a;cases σ s with
   |none=>rfl
   |some ob=>
    cases ob with
    |box ty cs=>exact pS ih cs
    |row ty lt l=>exact Cw _ _ _
    |arr ty ez cs=>exact pS ih cs
  have plain:∀(y:AV),(∃q,y= .p q)\/y= .any\/(∃l,y= .tup l)->iQ (d+1) σ.a y=[] :=by
   rintro y (⟨q,rfl⟩|rfl|⟨l,rfl⟩)<;>rfl
  cases x with
  |own s t n=>exact congrArg (s:: ·) (obs s)
  |owns s t o n=>exact congrArg (s:: ·) (obs s)
  |ownx s n=>exact congrArg (s:: ·) (obs s)
  |ptr s off=>exact congrArg (s:: ·) (obs s)
  |pte s t i off=>exact congrArg (s:: ·) (obs s)
  |agg l=>
   show iQ (d+1) σ.a (iK (avs l))=dM (kD d σ) l;rw[<-pS ih];unfold iK;cases hq:cR (avs l)with
   |none=>rfl
   |some q=>rw[gQ hq,Cw];rfl
  |fn f a b=>
   show dM (iQ d σ.a) (avs a)++dM (iQ d σ.a) (avs b)=_;rw[pS ih,pS ih];rfl
  |tup l=>
   refine plain _ ?_;show(∃q,qJ (avs l)= .p q)\/qJ (avs l)= .any\/∃m,qJ (avs l)= .tup m;unfold qJ;split
   ·exact .inl ⟨_,rfl⟩
   ·exact .inr (.inr ⟨_,rfl⟩)
  |sl n cs=>
   refine plain _ ?_;simp only[SV.av];split
   ·exact .inl ⟨_,rfl⟩
   ·exact .inr (.inl rfl)
  |pro cs off=>
   refine plain _ ?_;simp only[SV.av];split
   ·exact .inl ⟨_,rfl⟩
   ·exact .inr (.inl rfl)
  |fnp f a b=>
   refine plain _ ?_;simp only[SV.av];split
   ·exact .inl ⟨_,rfl⟩
   ·exact .inr (.inl rfl)
  |_=>rfl
inductive RK(X:Type) where
 |val (fr:Bool) (res:X->SV)
 |own (ty:TypeId) (t:LT) (l:X->List t.ty) (ys:X->List SV)
 |ownN (ty:TypeId) (t:LT) (l:X->List t.ty)
 |mutR (t:LT) (ty:TypeId) (l':X->List t.ty)
 |mutB (ty:TypeId) (cells':X->List SV)
structure Con where
 X:Type
 dec:List SV->Option X
 pre:X->List Prop
 rk:RK X
def aMs(P:Program)(f:Nat){X:Type}(dec:List SV->Option X)(pre:X->List Prop):RK X->Prop
 | .val fr res=>∀xs x,dec xs=some x->(∀p∈pre x,p)->∃A r,avs xs=A.map .p/\(res x).av= .p r/\Sat P fr f A r
 | .own ty t l ys=>∀xs x,dec xs=some x->(∀p∈pre x,p)->∃A Y,avs xs=A.map .p/\avs (ys x)=Y.map .p/\aD1 P f A ty t.w (t.enc (l x)) (l x).length Y
 | .ownN ty t l=>∀xs x,dec xs=some x->(∀p∈pre x,p)->∃A,avs xs= .nil::A.map .p/\aHD P f A ty t.w (t.enc (l x)) (l x).length []
 | .mutR t ty l'=>∀l rest x,dec (.lst t l::rest)=some x->(∀p∈pre x,p)->∃A,avs rest=A.map .p/\xT P f (some l.length) A ty t.w (t.enc l) (t.enc (l' x))
 | .mutB ty cells'=>∀cs rest x,dec (.agg cs::rest)=some x->(∀p∈pre x,p)->∃A q q',avs rest=A.map .p/\avs cs=q.map .p/\avs (cells' x)=q'.map .p/\xT P f none A ty 0 q q'
def Con.Ok(P:Program)(f:Nat)(c:Con):Prop:=aMs P f c.dec c.pre c.rk
abbrev Tab:=Nat->Option Con
def Tab.Ok(P:Program)(T:Tab):Prop:=∀f c,T f=some c->c.Ok P f
def LT.argP:(t:LT)->t.ty->PV
 | .V=>fun v=> .agg [.int .i64 v.x,.int .i64 v.y]
 | .S=>fun s=> .agg [.int .i64 s.a.x,.int .i64 s.a.y,.int .i64 s.b.x,.int .i64 s.b.y]
 | .R=>fun r=> .sl r.length (iV r)
 | .I=>fun n=> .int .i64 n
 | .B=>fun b=> .bool b
 | .P=>fun p=> .agg [.int .i64 p.1,.int .i64 p.2]
def LT.one:LT->Bool
 | .V=>false
 | .S=>false
 | .P=>false
 |_=>true
def aA2(t:LT)(v:SV):Option t.ty:=match t.one with
 |true=>t.dec [v]
 |false=>(match v with| .agg l=>t.dec l|_=>none)
theorem Mo{t:LT}{v:SV}{x:t.ty}(h:aA2 t v=some x):v.av= .p (t.argP x):=by
 have agg:∀l:List SV,v= .agg l->t.dec l=some x->v.av= .p (.agg (t.rowP x)):=by
  intro l e hd;subst e;show iK (avs l)=_;rw[LT.Li hd,pW]
 have one:t.dec [v] =some x->∀c,t.rowP x=[c]->v.av= .p c:=by
  intro hd c hc;have:=LT.Li hd;rw[hc]at this;simp only[avs,List.map_cons,List.map_nil,List.cons.injEq,and_true]at this;exact this
 unfold aA2 at h;cases t<;>simp only[LT.one]at h<;>first
  |exact one h _ rfl
  |(split at h<;>first|exact agg _ rfl h|cases h)
def aIS(P:Program)(pv:PV)(t:LT)(q:t.ty->Bool)(dom:t.ty->Prop):Prop:=∃f first caps,pv= .fn (.func f) first caps/\∀x,dom x->∃fr,Sat P fr f (first++[t.argP x] ++caps) (.bool (q x))
def aIR(P:Program)(pv:PV)(t:LT)(q:t.ty->t.ty->Int)(dom:t.ty->t.ty->Prop):Prop:=∃f first caps,pv= .fn (.func f) first caps/\∀x y,dom x y->∃fr,Sat P fr f (first++[t.argP x,t.argP y] ++caps) (.int .i64 (q x y))
def aBj(x:SV):Bool:=match x.av with
 | .p r=>r.flat
 |_=>false
def Wa(T:Tab)(n:Nat)(σ:Sg)(f:Nat)(xs:List SV):SR:=match T f with
 |none=>none
 |some ⟨_,dec,pre,rk⟩=>(match rk with
  | .val fr res=>(match wG (qH 3 σ) xs with
    |some (ps,bs)=>(match dec bs with
     |some x=>(match(res x).ape,cR (avs xs)with
      |false,some _=>some (ps++pre x,res x,[],[])
      |false,none=>(match fr,aBj (res x)with
       |false,false=>some (ps++pre x,res x,dM (kD 3 σ) xs,(dM (kD 3 σ) xs).map (·,none))
       |_,_=>some (ps++pre x,res x,dM (kD 3 σ) xs,[]))
      |_,_=>none)
     |none=>none)
    |none=>none)
  | .own ty t l ys=>(match cR (avs xs),dec xs with
    |some _,some x=>(match ys x with
     |[] =>some (pre x,.own n t (l x).length,[],[(n,some (.row ty t (l x)))])
     |y::r=>(match Nat.beq (y::r).length 0 with|_=>some (pre x,.tup (.own n t (l x).length::y::r),[],[(n,some (.row ty t (l x)))])))
    |_,_=>none)
  | .ownN ty t l=>(match xs with
    | .nil::rest=>(match cR (avs rest),dec (.nil::rest)with
      |some _,some x=>some (pre x,.own n t (l x).length,[],[(n,some (.row ty t (l x)))])
      |_,_=>none)
    |_=>none)
  | .mutR t ty l'=>(match xs with
    | .own s _ m::rest=>(match σ s,cR (avs rest)with
      |some (.row ty' t' l),some _=>(match decEq t' t,Nat.beq ty' ty with
       | .isTrue h,true=>(match dec (.lst t (h▸l)::rest)with
         |some x=>some ((m=l.length)::pre x,.undef,[s],[(s,some (.row ty t (l' x)))])
         |none=>none)
       |_,_=>none)
      |_,_=>none)
    |_=>none)
  | .mutB ty cells'=>(match xs with
    | .ptr s 0::rest=>(match σ s,cR (avs rest)with
      |some (.box ty' cs),some _=>(match Nat.beq ty' ty,dec (.agg cs::rest)with
       |true,some x=>some (pre x,.undef,[s],[(s,some (.box ty (cells' x)))])
       |_,_=>none)
      |_,_=>none)
    |_=>none))
theorem Pf{P:Program}{T:Tab}(hT:T.Ok P){n:Nat}{σ:Sg}{f:Nat}{xs:List SV}{ps:List Prop}{r:SV}{rd:List Nat}{W:dG}(h:Wa T n σ f xs=some (ps,r,rd,W))(hp:∀p∈ps,p):
  (qZ P σ.a f (avs xs) (fun r' R' W'=>r'=r.av/\R'=rd/\W'=W.sto)\/Cv P n f (avs xs) (fun r' R' W'=>r'=r.av/\R'=rd/\W'=W.sto))/\r.ok:=by
 unfold Wa at h;split at h
 ·cases h
 rename_i X dec pre rk hTf;have hc:=hT f _ hTf;unfold Con.Ok at hc;dsimp only at hc;split at h
 ·rename_i fr res;split at h
  case h_2=>cases h
  rename_i qs bs hb;split at h
  case h_2=>cases h
  rename_i x hx;have fin:(∀p∈qs++pre x,p)->∃A r,mY (iU 3 σ.a) (avs xs)=some A/\(res x).av= .p r/\Sat P fr f A r:=by
   intro hp;obtain⟨A,r,h1,h2,h3⟩:=hc bs x hx (fun p h=>hp p (List.mem_append_right _ h))
   obtain⟨q,h4,h5⟩:=Ct (fun x ps y=>Ox) hb (fun p h=>hp p (List.mem_append_left _ h))
   rw[h1]at h5;have:A=q:=by
    have:=congrArg cR h5;rw[dC,dC]at this;cases this;rfl
   subst this;exact⟨A,r,h4,h2,h3⟩
  have hR:dM (iQ 3 σ.a) (avs xs)=dM (kD 3 σ) xs:=pS (aCm 3) xs;split at h
  ·rename_i A' hape hA';cases h;obtain⟨A,r,h1,h2,h3⟩:=fin hp;refine⟨.inl ?_,SV.wL hape⟩;rw[h2];rw[gQ hA',wU]at h1;cases h1;exact mI h3 hA' ⟨rfl,rfl,rfl⟩
  ·rename_i hape hA';cases hfr:fr with
   |true=>
    rw[hfr]at h;cases h;obtain⟨A,r,h1,h2,h3⟩:=fin hp;refine⟨.inl ?_,SV.wL hape⟩;rw[h2];rw[hfr]at h3;exact mV h3 h1 hR ⟨rfl,rfl,rfl⟩
   |false=>
    cases hfl:aBj (res x)with
    |true=>
     rw[hfr,hfl]at h;cases h;obtain⟨A,r,h1,h2,h3⟩:=fin hp;refine⟨.inl ?_,SV.wL hape⟩;unfold aBj at hfl;rw[h2]at hfl|-;exact mV (h3.fresh hfl) h1 hR ⟨rfl,rfl,rfl⟩
    |false=>
     rw[hfr,hfl]at h;cases h;obtain⟨A,r,h1,h2,h3⟩:=fin hp;refine⟨.inl ?_,SV.wL hape⟩;rw[h2];exact uU h3 h1 hR ⟨rfl,rfl,(Ou _).symm⟩
  ·cases h
 ·rename_i ty t l ys;split at h
  case h_2=>cases h
  rename_i A' x hA' hx;have fin:(∀p∈pre x,p)->∃Y,avs (ys x)=Y.map .p/\aD1 P f A' ty t.w (t.enc (l x)) (l x).length Y:=by
   intro hp;obtain⟨A,Y,h1,h2,h3⟩:=hc xs x hx hp;rw[h1,dC]at hA';cases hA';exact⟨Y,h2,h3⟩
  split at h
  ·rename_i hy;cases h;obtain⟨Y,h1,h2⟩:=fin hp;rw[hy]at h1;have hY:Y=[] :=by
    have:=congrArg List.length h1;simp[avs]at this;exact List.length_eq_zero_iff.1 (by omega)
   subst hY;exact⟨.inr ⟨A',ty,t.w,t.enc (l x),(l x).length,[],.inl ⟨hA',h2⟩,rfl,rfl,rfl⟩,trivial⟩
  ·rename_i y r' hy;cases h;obtain⟨Y,h1,h2⟩:=fin hp;rw[hy]at h1;refine⟨.inr ⟨A',ty,t.w,t.enc (l x),(l x).length,Y,.inl ⟨hA',h2⟩,?_,rfl,rfl⟩,trivial⟩;show aDM n (l x).length Y=qJ (avs (.own n t (l x).length::y::r'));cases Y with
   |nil=>simp[avs]at h1
   |cons y0 Y=>
    rw[avs,h1];unfold aDM qJ;rfl
 ·rename_i ty t l;split at h
  case h_2=>cases h
  rename_i rest;split at h<;>cases h;rename_i A' x hA' hx;obtain⟨A,h1,h2⟩:=hc _ x hx hp;have hA2:A'=A:=by
   have h1:AV.nil::avs rest= .nil::A.map .p:=h1;rw[List.cons.injEq]at h1;rw[h1.2,dC]at hA';cases hA';rfl
  subst hA2;exact⟨.inr ⟨A',ty,t.w,t.enc (l x),(l x).length,[],.inr ⟨avs rest,rfl,hA',h2⟩,rfl,rfl,rfl⟩,trivial⟩
 ·rename_i t ty l';split at h
  case h_2=>cases h
  rename_i s t2 m rest;split at h
  case h_2=>cases h
  rename_i ty' t' l A' hs hA';split at h
  case h_2=>cases h
  rename_i he _ hty;subst he;split at h<;>cases h;rename_i x hx;have hm:m=l.length:=hp _ (by simp)
  obtain⟨A,h1,h2⟩:=hc l rest x hx (fun p h=>hp p (List.mem_cons_of_mem _ h))
  have hty:=Nat.eq_of_beq_eq_true hty;refine⟨.inl (.inr ?_),trivial⟩;refine⟨ty,t'.w,t'.enc l,by unfold Sg.a;rw[hs,hty];rfl,Nat.ne_of_gt t'.aA4,A,t'.enc (l' x),by rw[h1,dC],by rw[hm];exact h2,rfl,rfl,rfl⟩
 ·rename_i ty cells';split at h
  case h_2=>cases h
  rename_i s rest;split at h
  case h_2=>cases h
  rename_i ty' cs A' hs hA';split at h<;>cases h;rename_i x hty hx;obtain⟨A,q,q',h1,h2,h3,h4⟩:=hc cs rest x hx hp;have hty:=Nat.eq_of_beq_eq_true hty;refine⟨.inl (.inr ?_),trivial⟩;refine⟨ty,q,by unfold Sg.a;rw[hs,hty];show some (⟨ty,0,avs cs⟩:Ob)=_;rw[h2],A,q',by rw[h1,dC],h4,rfl,rfl,?_⟩
  show _=[(s,some (⟨ty,0,avs (cells' x)⟩:Ob))];rw[h3]
def Lu(P:Program)(T:Tab)(n:Nat)(σ:Sg)(fv:SV)(xs:List SV):SR:=match fv with
 | .fn g a b=>Wa T n σ g (a++xs++b)
 | .fnp g a b=>(match cR (avs a),cR (avs b)with|some _,some _=>Wa T n σ g (a++xs++b)|_,_=>none)
 | .clo1 pv t q dom=>(match xs with
   |[v] =>(match aA2 t v with|some x=>some ([dom x/\aIS P pv t q dom],.bool (q x),[],[])|none=>none)
   |_=>none)
 | .clo2 pv t q dom=>(match xs with
   |[v,u] =>(match aA2 t v,aA2 t u with|some x,some y=>some ([dom x y/\aIR P pv t q dom],.int .i64 (q x y),[],[])|_,_=>none)
   |_=>none)
 |_=>none
theorem Ue{P:Program}{T:Tab}(hT:T.Ok P){n:Nat}{σ:Sg}{fv:SV}{xs:List SV}{ps:List Prop}{r:SV}{rd:List Nat}{W:dG}(h:Lu P T n σ fv xs=some (ps,r,rd,W))(hp:∀p∈ps,p):
  (qL P σ.a fv.av (avs xs) (fun r' R' W'=>r'=r.av/\R'=rd/\W'=W.sto)\/Wj P n fv.av (avs xs) (fun r' R' W'=>r'=r.av/\R'=rd/\W'=W.sto))/\r.ok:=by
 unfold Lu at h;split at h
 ·rename_i g a b;have:=Pf hT h hp;rw[nL,nL]at this;exact this
 ·rename_i g a b;split at h
  case h_2=>cases h
  rename_i x y h1 h2;have:=Pf hT h hp;rw[nL,nL,gQ h1,gQ h2]at this;have e:(SV.fnp g a b).av= .p (.fn (.func g) x y):=by simp only[SV.av,h1,h2]
  rw[e];exact this
 ·rename_i pv t q dom;split at h
  case h_2=>cases h
  rename_i v;split at h<;>cases h;rename_i x hx;obtain⟨h1,f,first,caps,rfl,h2⟩:=hp _ (List.mem_singleton.2 rfl)
  obtain⟨fr,h3⟩:=h2 x h1;refine⟨.inl ?_,trivial⟩;show qZ P σ.a f (first.map .p++[v.av] ++caps.map .p) _;have e:first.map AV.p++[v.av] ++caps.map AV.p=(first++[t.argP x] ++caps).map .p:=by
   rw[Mo hx,List.map_append,List.map_append];rfl
  rw[e];exact mI h3 (dC _) ⟨rfl,rfl,rfl⟩
 ·rename_i pv t q dom;split at h
  case h_2=>cases h
  rename_i v u;split at h<;>cases h;rename_i x y hx hy;obtain⟨h1,f,first,caps,rfl,h2⟩:=hp _ (List.mem_singleton.2 rfl)
  obtain⟨fr,h3⟩:=h2 x y h1;refine⟨.inl ?_,trivial⟩;show qZ P σ.a f (first.map .p++[v.av,u.av] ++caps.map .p) _;have e:first.map AV.p++[v.av,u.av] ++caps.map AV.p=(first++[t.argP x,t.argP y] ++caps).map .p:=by
   rw[Mo hx,Mo hy,List.map_append,List.map_append];rfl
  rw[e];exact mI h3 (dC _) ⟨rfl,rfl,rfl⟩
 ·cases h
structure Cx where
 P:Program
 T:Tab
 lt:TypeId->Option LT
 q:EqT
def Cx.Ok(X:Cx):Prop:=X.T.Ok X.P/\X.q.Ok X.P
def Nv:Option SV->SR
 |some r=>(match r.ape with|false=>some ([],r,[],[])|true=>none)
 |none=>none
theorem oZ{o:Option SV}{ps:List Prop}{r:SV}{rd:List Nat}{W:dG}(h:Nv o=some (ps,r,rd,W)):o=some r/\r.ok/\ps=[]/\rd=[]/\W=[] :=by
 unfold Nv at h;split at h
 ·split at h<;>cases h;rename_i hh;exact⟨rfl,SV.wL hh,rfl,rfl,rfl⟩
 ·cases h
def Ih:Option (List Prop×SV)->SR
 |some (ps,r)=>(match r.ape with|false=>some (ps,r,[],[])|true=>none)
 |none=>none
theorem sV{o:Option (List Prop×SV)}{ps:List Prop}{r:SV}{rd:List Nat}{W:dG}(h:Ih o=some (ps,r,rd,W)):o=some (ps,r)/\r.ok/\rd=[]/\W=[] :=by
 unfold Ih at h;split at h
 ·split at h<;>cases h;rename_i hh;exact⟨rfl,SV.wL hh,rfl,rfl⟩
 ·cases h
def aBi:SR->SR
 |some (ps,r,rd,W)=>(match r.ape with|false=>some (ps,r,rd,W)|true=>none)
 |none=>none
theorem Vc{o:SR}{ps:List Prop}{r:SV}{rd:List Nat}{W:dG}(h:aBi o=some (ps,r,rd,W)):o=some (ps,r,rd,W)/\r.ok:=by
 unfold aBi at h;split at h
 ·split at h<;>cases h;rename_i hh;exact⟨rfl,SV.wL hh⟩
 ·cases h
def aKL(raw:Bool)(x:SV):SV:=match raw with
 |true=>(match x with| .nil=> .sl 0 [] |y=>y)
 |false=>x
def sop(X:Cx)(raw:Bool)(n:Nat)(o:Op)(E:SE)(σ:Sg):SR:=match o with
 | .move x=>some ([],E x,[],[])
 | .assign x=>some ([],aKL raw (E x),[],[])
 | .pick c a b=>Nv (aA9 (E c) (E a) (E b))
 | .alloc t=>Ky X.P n t
 | .box t x=>aDK n t (E x)
 | .build t parts=>Kx X.P t (parts.toList.map fun q=>(q.1,E q.2))
 | .buildSlice t len parts=>Cs X.P n t len (parts.toList.map fun q=>(q.1,E q.2))
 | .load t x=>aBi (aBa X.P t (E x) σ)
 | .store t a x=>Kv X.P t (E a) (E x) σ
 | .nilCheck x=>(match aDR (E x).av with|true=>some ([],E x,[],[])|false=>none)
 | .binOp op t x y _=>Ih (aHp X.P X.q raw op t (E x) (E y))
 | .unOp op _ x=>Ih (sun raw op (E x))
 | .convert s d x=>Ih (aBc X.P raw s d (E x))
 | .makeFunc (.func f) first caps=>some ([],.fn f (first.toList.map E) (caps.toList.map E),[],[])
 | .slice t x lo hi none=>(match aDW E lo,aDW E hi with|some a,some b=>Ih (Ta X.P t (E x) a b)|_,_=>none)
 | .fieldAddr t x f=>(match Tf X.P t (E x) f with|some r=>some ([],r,[],[])|none=>none)
 | .field t x f=>Nv (Te X.P t (E x) f)
 | .indexAddr t x i=>(match Td X.P t (E x) (E i)with|some (ps,r)=>some (ps,r,[],[])|none=>none)
 | .extract x i=>Nv (aBb (E x) i)
 | .call {callee:= .value f,args, .. }=>Lu X.P X.T n σ (E f) (args.toList.map E)
 | .call {callee:= .builtin .len,args:=⟨[x]⟩,argTypes:=⟨[t]⟩}=>Nv (aHo X.P t (E x))
 | .call {callee:= .builtin .append,args:=⟨[x,y]⟩,argTypes:=⟨[t,t']⟩}=>aDL X.P X.lt n t t' σ (E x) (E y)
 | .call {callee:= .builtin .min,args:=⟨[x,y]⟩, .. }=>Nv (smm min (E x) (E y))
 | .call {callee:= .builtin .max,args:=⟨[x,y]⟩, .. }=>Nv (smm max (E x) (E y))
 |_=>none
theorem aHP{X:Cx}(hX:X.Ok){raw:Bool}{n:Nat}{o:Oper}{E:SE}{σ:Sg}(hE:∀x,(E x).ok){ps:List Prop}{r:SV}{rd:List Nat}{W:dG}(h:sop X raw n o.op E σ=some (ps,r,rd,W))(hp:∀p∈ps,p):
  AOp X.P n o E.a σ.a (fun r' R' W'=>r'=r.av/\R'=rd/\W'=W.sto)/\r.ok:=by
 obtain⟨hT,hq⟩:=hX;generalize ho:o.op=op at h;have A:∀{R:SR},Dq X.P n o E σ R->R=some (ps,r,rd,W)->AOp X.P n o E.a σ.a (fun r' R' W'=>r'=r.av/\R'=rd/\W'=W.sto):=fun hs e=>hs _ _ _ _ e hp
 have avl:∀l:List Operand,avs (l.map E)=l.map E.a:=fun l=>by rw[lD,List.map_map];rfl
 unfold sop at h;split at h
 ·rename_i x;cases h;exact⟨by unfold AOp;rw[ho];exact⟨rfl,rfl,rfl⟩,hE x⟩
 ·rename_i x;cases h;unfold aKL;split
  ·split
   ·rename_i hx;exact⟨by unfold AOp;rw[ho];exact .inr ⟨by show(E x).av= .nil;rw[hx];rfl,rfl,rfl,rfl⟩,trivial⟩
   ·exact⟨by unfold AOp;rw[ho];exact .inl ⟨rfl,rfl,rfl⟩,hE x⟩
  ·exact⟨by unfold AOp;rw[ho];exact .inl ⟨rfl,rfl,rfl⟩,hE x⟩
 ·obtain⟨h1,h2,rfl,rfl,rfl⟩:=oZ h;exact⟨by unfold AOp;rw[ho];exact aB9 h1 ⟨rfl,rfl,rfl⟩,h2⟩
 ·refine⟨A (Zo ho) h,?_⟩;unfold Ky at h;split at h<;>cases h;trivial
 ·refine⟨A (aEi ho) h,?_⟩;unfold aDK at h;split at h<;>cases h;trivial
 ·refine⟨A (Zl ho) h,?_⟩;unfold Kx at h;split at h
  ·split at h<;>cases h;trivial
  ·cases h
 ·refine⟨A (Uf ho) h,?_⟩;unfold Cs at h;split at h
  ·split at h
   ·split at h<;>cases h;trivial
   ·cases h
  ·cases h
 ·rename_i t x;obtain⟨h1,h2⟩:=Vc h;exact⟨A (aCa ho (hE x)) h1,h2⟩
 ·refine⟨A (Zd ho) h,?_⟩;unfold Kv at h;split at h
  ·split at h
   ·split at h
    ·split at h
     ·split at h<;>cases h;trivial
     ·split at h<;>cases h;trivial
     ·cases h
    ·split at h
     ·split at h<;>cases h;trivial
     ·cases h
    ·cases h
   ·cases h
  ·cases h
 ·rename_i x;split at h<;>cases h;rename_i hn;exact⟨by unfold AOp;rw[ho];exact⟨hn,rfl,rfl,rfl⟩,hE x⟩
 ·obtain⟨h1,h2,rfl,rfl⟩:=sV h;exact⟨by unfold AOp;rw[ho];exact aEj hq h1 hp ⟨rfl,rfl,rfl⟩,h2⟩
 ·obtain⟨h1,h2,rfl,rfl⟩:=sV h;exact⟨by unfold AOp;rw[ho];exact aHM h1 hp ⟨rfl,rfl,rfl⟩,h2⟩
 ·obtain⟨h1,h2,rfl,rfl⟩:=sV h;exact⟨by unfold AOp;rw[ho];exact aCc h1 hp ⟨rfl,rfl,rfl⟩,h2⟩
 ·cases h;refine⟨?_,trivial⟩;unfold AOp;rw[ho];dsimp only;refine⟨?_,rfl,rfl⟩;show _=AV.fn _ (avs _) (avs _);rw[avl,avl]
 ·rename_i t x lo hi;split at h
  case h_2=>cases h
  rename_i a b ha hb;obtain⟨h1,h2,rfl,rfl⟩:=sV h;refine⟨?_,h2⟩;unfold AOp;rw[ho];dsimp only;have key:∀(z:Option Operand) (c:Option Int) (d:Int),aDW E z=some c->loA E.a z d=some (c.getD d):=by
   intro z c d hz;cases z with
   |none=>cases hz;rfl
   |some z=>
    unfold aDW at hz;dsimp only at hz;split at hz<;>cases hz;rename_i k hk;exact aED hk
  rw[key lo a 0 ha,key hi b _ hb];exact Ze h1 hp ⟨rfl,rfl,rfl⟩
 ·rename_i t x f;split at h<;>cases h;rename_i h1;have:=Zi h1 (K:=fun r'=>r'=r.av/\([] :List Nat)=[]/\([] :Sto)=dG.sto []) ⟨rfl,rfl,rfl⟩
  exact⟨by unfold AOp;rw[ho];exact this.1,this.2 (hE x)⟩
 ·obtain⟨h1,h2,rfl,rfl,rfl⟩:=oZ h;exact⟨by unfold AOp;rw[ho];exact Zh h1 ⟨rfl,rfl,rfl⟩,h2⟩
 ·split at h<;>cases h;rename_i h1;have:=Zg h1 hp (K:=fun r'=>r'=r.av/\([] :List Nat)=[]/\([] :Sto)=dG.sto []) ⟨rfl,rfl,rfl⟩
  exact⟨by unfold AOp;rw[ho];exact this.1,this.2⟩
 ·obtain⟨h1,h2,rfl,rfl,rfl⟩:=oZ h;exact⟨by unfold AOp;rw[ho];exact aCb h1 ⟨rfl,rfl,rfl⟩,h2⟩
 ·have:=Ue hT h hp;rw[avl]at this;exact⟨by unfold AOp;rw[ho];exact this.1,this.2⟩
 ·obtain⟨h1,h2,rfl,rfl,rfl⟩:=oZ h;exact⟨by unfold AOp;rw[ho];exact aEf h1 ⟨rfl,rfl,rfl⟩,h2⟩
 ·have:=aEk h hp;refine⟨by unfold AOp;rw[ho];exact this,?_⟩
  unfold aDL at h;split at h
  ·split at h
   ·split at h<;>cases h;trivial
   ·cases h
  ·cases h
 ·obtain⟨h1,h2,rfl,rfl,rfl⟩:=oZ h;exact⟨by unfold AOp;rw[ho];exact aBv h1 ⟨rfl,rfl,rfl⟩,h2⟩
 ·obtain⟨h1,h2,rfl,rfl,rfl⟩:=oZ h;exact⟨by unfold AOp;rw[ho];exact aBv h1 ⟨rfl,rfl,rfl⟩,h2⟩
 ·cases h
end Go.Proofs.YtdaeofhdgabhjaaGreat
namespace Go.Proofs.YtdaeofhdgabhjaaGreat
open Go.RowKit
theorem fC{P:Program}{N:Nat}{ds:List (Option Nat)}{K K':List AV->Sto->nA->Prop}(hK:∀F L log,K F L log->K' F L log):∀{l:List Oper} {i:Nat} {F:List AV} {L:Sto} {log:nA},fE P N ds l i F L log K->fE P N ds l i F L log K'
 |[],i,F,L,log,h=>by unfold fE at*;exact hK _ _ _ h
 |o::rest,i,F,L,log,h=>by
  unfold fE at*;split at h
  ·obtain⟨r,R,W,h1,h2⟩:=h;exact⟨r,R,W,h1,fC hK h2⟩
  ·split at h
   ·split at h
    ·rename_i e;rw[if_pos e];obtain⟨r,R,W,h1,h2⟩:=h;exact⟨r,R,W,h1,fC hK h2⟩
    ·rename_i e;rw[if_neg e];exact fC hK h
   ·exact fC hK h
   ·exact h
theorem nV{P:Program}:∀(c:Code) {Q Q':yD} (_:∀e F L N,Q e F L N->Q' e F L N) {F:List AV} {L:Sto} {N:Nat},awp P c Q F L N->awp P c Q' F L N:=by
 intro c;induction c with
 |skip=>intro Q Q' hQ F L N h;exact hQ _ _ _ _ h
 |region id ops draw=>
  intro Q Q' hQ F L N h;cases draw with
  |true=>obtain⟨anc,h1,h2,h3,h4⟩:=h;exact⟨anc,h1,h2,h3,fC (fun F L log ⟨a,b⟩=>⟨a,hQ _ _ _ _ b⟩) h4⟩
  |false=>obtain⟨h1,h2⟩:=h;exact⟨h1,fC (fun F L log a=>hQ _ _ _ _ a) h2⟩
 |seq a b iha ihb=>
  intro Q Q' hQ F L N h;obtain⟨M,h1,h2⟩:=h;refine⟨M,iha ?_ h1,fun F L N hm=> ?_⟩
  ·intro e F L N h;cases e<;>first|exact h|exact hQ _ _ _ _ h
  ·obtain⟨F',L',N',h3,h4⟩:=h2 F L N hm;exact⟨F',L',N',h3,ihb hQ h4⟩
 |cond c t e iht ihe=>
  intro Q Q' hQ F L N h;obtain⟨b,hb,h1,h2⟩:=h;exact⟨b,hb,fun e=>iht hQ (h1 e),fun e=>ihe hQ (h2 e)⟩
 |block id c ih=>
  intro Q Q' hQ F L N h;refine ih ?_ h;intro e F L N h;cases e<;>first|exact hQ _ _ _ _ h|skip
  dsimp only at h|-;split at h
  ·rename_i e;rw[if_pos e];exact hQ _ _ _ _ h
  ·rename_i e;rw[if_neg e];exact hQ _ _ _ _ h
 |loop c ih=>
  intro Q Q' hQ F L N h;obtain⟨Inv,μ,h1,h2⟩:=h;refine⟨Inv,μ,h1,fun F L N hi=>ih ?_ (h2 F L N hi)⟩
  intro e F L N h;cases e<;>first|exact h|exact hQ _ _ _ _ h
 |exit id=>intro Q Q' hQ F L N h;exact hQ _ _ _ _ h
 |ret=>intro Q Q' hQ F L N h;exact hQ _ _ _ _ h
 |rangeFunc f params x y _ _=>intro Q Q' hQ F L N h;exact h.elim
 |scope c _=>intro Q Q' hQ F L N h;exact h.elim
 |label l=>intro Q Q' hQ F L N h;exact h.elim
 |goto l=>intro Q Q' hQ F L N h;exact h.elim
 |refuse s=>intro Q Q' hQ F L N h;exact h.elim
def Frm.ok(F:Frm):Prop:=∀t,(F.at t).ok
theorem aHK(v:Value):(svC v).ok:=by
 unfold svC;split
 ·split<;>trivial
 ·split<;>trivial
 ·unfold svK;split<;>trivial
theorem aCS{n:Nat}{F:Frm}(h:F.ok)(x:Operand):(Ik n F x).ok:=by
 cases x with
 |tmp t=>
  show(match Nat.blt t n with|true=>F.at t|false=>SV.any).ok
  split
  ·exact h t
  ·trivial
 |const v=>exact aHK v
 |func f=>trivial
 |global g=>trivial
theorem Frm.Xn{F:Frm}(h:F.ok){d:Nat}{v:SV}(hv:v.ok):Frm.ok ((d,v)::F):=by
 intro t;rw[Frm.nP];split
 ·exact hv
 ·exact h t
def Nq(n:Nat)(F:Frm)(d:Option Nat)(r:SV):Frm:=match d with
 |none=>F
 |some d=>(match Nat.blt d n with|true=>(d,r)::F|false=>F)
theorem jZ(a b:Nat):Nat.blt a b=true↔a<b:=by
 unfold Nat.blt;constructor
 ·intro h;exact Nat.le_of_ble_eq_true h
 ·intro h;exact Nat.ble_eq_true_of_le h
theorem aAL{a b:Nat}(h:Nat.blt a b=false):¬a<b:=fun hh=>by rw[(jZ a b).2 hh]at h;cases h
theorem Xe{n:Nat}{F:Frm}{d:Option Nat}{r:SV}:iX (F.av n) d r.av=(Nq n F d r).av n:=by
 cases d with
 |none=>rfl
 |some d=>
  unfold Nq;dsimp only;split
  ·rename_i h;exact Frm.aIm ((jZ _ _).1 h)
  ·rename_i h;unfold iX;dsimp only;rw[List.set_eq_of_length_le (by rw[Frm.lI];exact Nat.le_of_not_lt (aAL h))]
def Pre(S:Nat->Prop)(F F':Frm):Prop:=∃pre:Frm,F'=pre++F/\∀q∈pre,S q.1
def sD(L L':dG):Prop:=∃pre:dG,L'=pre++L
theorem Pre.rfl{S:Nat->Prop}{F:Frm}:Pre S F F:=⟨[],by simp,fun q h=>by cases h⟩
theorem Pre.trans{S:Nat->Prop}{F G H:Frm}(h1:Pre S F G)(h2:Pre S G H):Pre S F H:=by
 obtain⟨p,rfl,hp⟩:=h1;obtain⟨q,rfl,hq⟩:=h2;exact⟨q++p,by simp,fun r hr=>by rcases List.mem_append.1 hr with h|h;exact hq r h;exact hp r h⟩
theorem Pre.mono{S T:Nat->Prop}{F G:Frm}(h1:Pre S F G)(h:∀d,S d->T d):Pre T F G:=by
 obtain⟨p,e,hp⟩:=h1;exact⟨p,e,fun q hq=>h _ (hp q hq)⟩
theorem sD.rfl{L:dG}:sD L L:=⟨[],by simp⟩
theorem sD.trans{L M O:dG}(h1:sD L M)(h2:sD M O):sD L O:=by
 obtain⟨p,rfl⟩:=h1;obtain⟨q,rfl⟩:=h2;exact⟨q++p,by simp⟩
theorem Pj{n:Nat}{F:Frm}{d:Option Nat}{r:SV}{S:Nat->Prop}(h:∀t,d=some t->S t):Pre S F (Nq n F d r):=by
 cases d with
 |none=>exact Pre.rfl
 |some d=>
  unfold Nq;dsimp only;split
  ·exact⟨[(d,r)],by simp,fun q hq=>by simp at hq;subst hq;exact h d (by simp)⟩
  ·exact Pre.rfl
theorem Xd{n:Nat}{F:Frm}{d:Option Nat}{r:SV}(h:F.ok)(hr:r.ok):(Nq n F d r).ok:=by
 cases d with
 |none=>exact h
 |some d=>
  unfold Nq;dsimp only;split
  ·exact Frm.Xn h hr
  ·exact h
def Ht(X:Cx)(n:Nat)(raw:Bool)(N i:Nat)(o:Oper)(F:Frm)(L:dG)(log:nA)(k:Frm->dG->nA->Fm):Fm:=match sop X raw (N+i) o.op (Ik n F) L.at with
 |some (ps,r,R,W)=>Do ps (k (Nq n F o.dst r) (W++L) (log++[(R,W.map fun(q:Nat×Option SOb)=>q.1)]))
 |none=> .stuck i
def Dh(n:Nat)(o:Oper)(F:Frm)(L:dG)(log:nA)(k:Frm->dG->nA->Fm):Fm:=k (Nq n F o.dst .undef) L (log++[([],[])])
def oI(X:Cx)(n:Nat)(raw:Nat->Bool)(N:Nat)(ds:List (Option Nat)):List Oper->Nat->Frm->dG->nA->(Frm->dG->nA->Fm)->Fm
 |[],_,F,L,log,K=>K F L log
 |o::rest,i,F,L,log,K=>match o.guard with
  |none=>Ht X n (raw i) N i o F L log fun F L log=>oI X n raw N ds rest (i+1) F L log K
  |some (j,want)=>(match(ds[j]?).join with
   |some d=>(match Nat.blt d n,F.at d with
    |true,.lit b=>(match b,want with
     |true,false=>Dh n o F L log fun F L log=>oI X n raw N ds rest (i+1) F L log K
     |false,true=>Dh n o F L log fun F L log=>oI X n raw N ds rest (i+1) F L log K
     |_,_=>Ht X n (raw i) N i o F L log fun F L log=>oI X n raw N ds rest (i+1) F L log K)
    |true,.undef=>Dh n o F L log fun F L log=>oI X n raw N ds rest (i+1) F L log K
    |true,.prop p _=> .both
     (.imp p (match want with
       |true=>Ht X n (raw i) N i o ((d,.lit true)::F) L log fun F L log=>oI X n raw N ds rest (i+1) F L log K
       |false=>Dh n o ((d,.lit true)::F) L log fun F L log=>oI X n raw N ds rest (i+1) F L log K))
     (.imp (¬p) (match want with
       |false=>Ht X n (raw i) N i o ((d,.lit false)::F) L log fun F L log=>oI X n raw N ds rest (i+1) F L log K
       |true=>Dh n o ((d,.lit false)::F) L log fun F L log=>oI X n raw N ds rest (i+1) F L log K))
    |true,.bool c=> .both
     (.imp (c=true) (match want with
       |true=>Ht X n (raw i) N i o ((d,.lit true)::F) L log fun F L log=>oI X n raw N ds rest (i+1) F L log K
       |false=>Dh n o ((d,.lit true)::F) L log fun F L log=>oI X n raw N ds rest (i+1) F L log K))
     (.imp (c=false) (match want with
       |false=>Ht X n (raw i) N i o ((d,.lit false)::F) L log fun F L log=>oI X n raw N ds rest (i+1) F L log K
       |true=>Dh n o ((d,.lit false)::F) L log fun F L log=>oI X n raw N ds rest (i+1) F L log K))
    |_,_=> .stuck i)
   |none=> .stuck i)
theorem Frm.aE4{n:Nat}{F:Frm}{d:Nat}{v:SV}(h:v.av=(F.at d).av):Frm.av n ((d,v)::F)=F.av n:=by
 unfold Frm.av;apply List.map_congr_left;intro t _;rw[Frm.nP];split
 ·rename_i e;rw[e];exact h
 ·rfl
theorem aEc(W L:dG):W.sto++L.sto=dG.sto (W++L):=(Fx W L).symm
def pD(n:Nat)(S:Nat->Prop)(F:Frm)(L:dG)(FA:List AV)(LA:Sto)(G:Frm->dG->Prop):Prop:=∃F' L',FA=F'.av n/\LA=L'.sto/\F'.ok/\Pre S F F'/\sD L L'/\G F' L'
theorem pD.step{n:Nat}{S:Nat->Prop}{F F1:Frm}{L L1:dG}{FA:List AV}{LA:Sto}{G:Frm->dG->Prop}(h1:Pre S F F1)(h2:sD L L1)(h:pD n S F1 L1 FA LA G):pD n S F L FA LA G:=by
 obtain⟨F',L',a,b,c,d,e,f⟩:=h;exact⟨F',L',a,b,c,h1.trans d,h2.trans e,f⟩
theorem Cr{X:Cx}(hX:X.Ok){n:Nat}{raw:Nat->Bool}{N:Nat}{ds:List (Option Nat)}{K:Frm->dG->nA->Fm}:
  ∀(l:List Oper) (i:Nat) (F:Frm) (L:dG) (log:nA),(∀o∈l,o.dst∈ds)->F.ok->(oI X n raw N ds l i F L log K).holds->
   fE X.P N ds l i (F.av n) L.sto log fun FA LA log'=>pD n (fun d=>some d∈ds) F L FA LA fun F' L'=>(K F' L' log').holds
 |[],i,F,L,log,_,hF,h=>by
  unfold oI at h;unfold fE;exact⟨F,L,rfl,rfl,hF,Pre.rfl,sD.rfl,h⟩
 |o::rest,i,F,L,log,hd,hF,h=>by
  have hd':∀o∈rest,o.dst∈ds:=fun o ho=>hd o (List.mem_cons_of_mem _ ho)
  have hod:∀t,o.dst=some t->some t∈ds:=fun t ht=>by rw[<-ht];exact hd o List.mem_cons_self
  have run:∀F:Frm,F.ok->(Ht X n (raw i) N i o F L log fun F L log=>oI X n raw N ds rest (i+1) F L log K).holds->
    ∃r R W,AOp X.P (N+i) o (eG (F.av n)) (look L.sto) (fun r' R' W'=>r'=r/\R'=R/\W'=W)/\fE X.P N ds rest (i+1) (iX (F.av n) o.dst r) (W++L.sto) (log++[(R,W.map (·.1))]) fun FA LA log'=>pD n (fun d=>some d∈ds) F L FA LA fun F' L'=>(K F' L' log').holds:=by
   intro F hF h;unfold Ht at h;split at h
   ·rename_i ps r R W hs;obtain⟨h1,h2⟩:=mG h;obtain⟨h3,h4⟩:=aHP hX (aCS hF) hs h1;have e1:SE.a (Ik n F)=eG (F.av n):=funext fun x=>Qk x
    have e2:Sg.a L.at=look L.sto:=funext fun s=>(dG.look L s).symm
    rw[e1,e2]at h3;refine⟨r.av,R,W.sto,h3,?_⟩;have e3:W.sto.map (·.1)=W.map fun(q:Nat×Option SOb)=>q.1:=by unfold dG.sto;rw[List.map_map];rfl
    rw[Xe,aEc,e3];exact fC (fun _ _ _=>pD.step (Pj hod) ⟨W,rfl⟩) (Cr hX rest (i+1) _ _ _ hd' (Xd hF h4) h2)
   ·exact h.elim
  have skip:∀F:Frm,F.ok->(Dh n o F L log fun F L log=>oI X n raw N ds rest (i+1) F L log K).holds->
    fE X.P N ds rest (i+1) (iX (F.av n) o.dst .undef) L.sto (log++[([],[])]) fun FA LA log'=>pD n (fun d=>some d∈ds) F L FA LA fun F' L'=>(K F' L' log').holds:=by
   intro F hF h;unfold Dh at h;have:=Cr hX rest (i+1) _ _ _ hd' (Xd (n:=n) (d:=o.dst) hF (show SV.ok .undef from trivial)) h
   rw[<-Xe]at this;exact fC (fun _ _ _=>pD.step (Pj hod) sD.rfl) this
  unfold oI at h;unfold fE;split at h
  ·rename_i hg;rw[hg];exact run F hF h
  ·rename_i j want hg;rw[hg];dsimp only;split at h
   case h_2=>exact h.elim
   rename_i d hdj;have hds:some d∈ds:=by
    cases hx:ds[j]? with
    |none=>rw[hx]at hdj;cases hdj
    |some y=>rw[hx]at hdj;have:y=some d:=hdj;subst this;exact List.mem_of_getElem? hx
   have gd:∀F:Frm,d<n->gdA ds (F.av n) j=(match(F.at d).av with| .p (.bool b)=>some (some b)| .undef=>some none|_=>none):=by
    intro F hlt;unfold gdA;rw[hdj];dsimp only;rw[Frm.vM hlt];rfl
   have split1:∀(b:Bool),d<n->(F.at d).av= .p (.bool b)->(match want with
      |true=>(match b with
       |true=>Ht X n (raw i) N i o ((d,.lit true)::F) L log fun F L log=>oI X n raw N ds rest (i+1) F L log K
       |false=>Dh n o ((d,.lit false)::F) L log fun F L log=>oI X n raw N ds rest (i+1) F L log K)
      |false=>(match b with
       |true=>Dh n o ((d,.lit true)::F) L log fun F L log=>oI X n raw N ds rest (i+1) F L log K
       |false=>Ht X n (raw i) N i o ((d,.lit false)::F) L log fun F L log=>oI X n raw N ds rest (i+1) F L log K)).holds->
     (match(gdA ds (F.av n) j:Option (Option Bool))with
       |some (some b)=>if b=want then∃r R W,AOp X.P (N+i) o (eG (F.av n)) (look L.sto) (fun r' R' W'=>r'=r/\R'=R/\W'=W)/\fE X.P N ds rest (i+1) (iX (F.av n) o.dst r) (W++L.sto) (log++[(R,W.map (·.1))]) (fun FA LA log'=>pD n (fun d=>some d∈ds) F L FA LA fun F' L'=>(K F' L' log').holds)
        else fE X.P N ds rest (i+1) (iX (F.av n) o.dst .undef) L.sto (log++[([],[])]) (fun FA LA log'=>pD n (fun d=>some d∈ds) F L FA LA fun F' L'=>(K F' L' log').holds)
       |some none=>fE X.P N ds rest (i+1) (iX (F.av n) o.dst .undef) L.sto (log++[([],[])]) (fun FA LA log'=>pD n (fun d=>some d∈ds) F L FA LA fun F' L'=>(K F' L' log').holds)
       |none=>False):=by
    intro b hlt hb h;rw[gd F hlt,hb];dsimp only;have e0:∀c,c=b->Frm.av n ((d,.lit c)::F)=F.av n:=fun c hc=>Frm.aE4 (by rw[hb,hc];rfl)
    have hpre:∀c,Pre (fun d=>some d∈ds) F ((d,SV.lit c)::F):=fun c=>⟨[(d,.lit c)],rfl,fun q hq=>by simp at hq;subst hq;exact hds⟩
    have up:∀c FA LA (G:Frm->dG->Prop),pD n (fun d=>some d∈ds) ((d,SV.lit c)::F) L FA LA G->pD n (fun d=>some d∈ds) F L FA LA G:=fun c FA LA G=>pD.step (hpre c) sD.rfl
    have hok:∀c,Frm.ok ((d,SV.lit c)::F):=fun c=>Frm.Xn hF (show SV.ok (.lit c)from trivial)
    cases want<;>cases b<;>dsimp only at h
    ·rw[if_pos rfl];have:=run _ (hok false) h;rw[e0 false rfl]at this;obtain⟨r,R,W,h1,h2⟩:=this;exact⟨r,R,W,h1,fC (fun _ _ _=>up false _ _ _) h2⟩
    ·rw[if_neg (by decide)]
     have:=skip _ (hok true) h;rw[e0 true rfl]at this;exact fC (fun _ _ _=>up true _ _ _) this
    ·rw[if_neg (by decide)]
     have:=skip _ (hok false) h;rw[e0 false rfl]at this;exact fC (fun _ _ _=>up false _ _ _) this
    ·rw[if_pos rfl];have:=run _ (hok true) h;rw[e0 true rfl]at this;obtain⟨r,R,W,h1,h2⟩:=this;exact⟨r,R,W,h1,fC (fun _ _ _=>up true _ _ _) h2⟩
   split at h
   ·rename_i b hlt hb;have hlt:=(jZ _ _).1 hlt;rw[gd F hlt,hb];show(if b=want then _ else _)
    cases b<;>cases want<;>dsimp only at h
    ·rw[if_pos rfl];exact run F hF h
    ·rw[if_neg (by decide)];exact skip F hF h
    ·rw[if_neg (by decide)];exact skip F hF h
    ·rw[if_pos rfl];exact run F hF h
   ·rename_i hlt hb;have hlt:=(jZ _ _).1 hlt;rw[gd F hlt,hb];exact skip F hF h
   ·rename_i p dec hlt hb;obtain⟨h1,h2⟩:=Fm.nK h;have hlt:=(jZ _ _).1 hlt;have hav:(F.at d).av= .p (.bool (@decide p dec)):=by rw[hb];rfl
    by_cases hp:p
    ·refine split1 true hlt (by rw[hav];simp[hp]) ?_
     have h1:=(h1:p->_) hp;cases want<;>exact h1
    ·refine split1 false hlt (by rw[hav];simp[hp]) ?_
     have h2:=(h2:¬p->_) hp;cases want<;>exact h2
   ·rename_i c hlt hb;obtain⟨h1,h2⟩:=Fm.nK h;have hlt:=(jZ _ _).1 hlt;have hav:(F.at d).av= .p (.bool c):=by rw[hb];rfl
    cases c with
    |true=>
     refine split1 true hlt hav ?_;have h1:=(h1:(true=true)->_) rfl;cases want<;>exact h1
    |false=>
     refine split1 false hlt hav ?_;have h2:=(h2:(false=false)->_) rfl;cases want<;>exact h2
   ·exact h.elim
abbrev Rf:=Nat->Option (Option Nat)
mutual
def fS(m:Rf):AV->AV->Prop
 | .any,_=>True
 | .p x,y=>y= .p x
 | .nil,y=>y= .nil
 | .undef,y=>y= .undef
 | .ptr s off,y=>∃o,m s=some (some o)/\y= .ptr o off
 | .own s o n,y=>(∃s',m s=some (some s')/\y= .own s' o n)\/(m s=some none/\y= .nil/\o=0/\n=0)
 | .agg l,y=>∃r,(y= .agg r\/∃q:List PV,y= .p (.agg q)/\r=q.map .p)/\fZ m l r
 | .tup l,y=>∃r,(y= .tup r\/∃q:List PV,y= .p (.tup q)/\r=q.map .p)/\fZ m l r
 | .fn f a b,y=>∃a2 b2,y= .fn f a2 b2/\fZ m a a2/\fZ m b b2
def fZ(m:Rf):List AV->List AV->Prop
 |[],r=>r=[]
 |x::l,r=>∃y r',r=y::r'/\fS m x y/\fZ m l r'
end
def Ce(m:Rf)(ρ:Ren):Ren:=fun s=>match m s with
 |some (some o)=>ρ o
 |some none=>some (none,0)
 |none=>none
mutual
theorem Eo{m:Rf}{ρ:Ren}{C C':cE}(hC:∀b o v,C b o v->C' b o v):∀(x y:AV) (v:Value),fS m x y->aO ρ C y v->aO (Ce m ρ) C' x v
 | .any,y,v,_,_=>by unfold aO;trivial
 | .p x,y,v,h,hv=>by unfold fS at h;subst h;unfold aO at*;exact bF.mono hC _ v hv
 | .nil,y,v,h,hv=>by unfold fS at h;subst h;unfold aO at*;exact hv
 | .undef,y,v,h,hv=>by unfold fS at h;subst h;unfold aO at*;exact hv
 | .ptr s off,y,v,h,hv=>by
   unfold fS at h;obtain⟨o,h1,rfl⟩:=h;unfold aO at*;obtain⟨b,c,h2,h3⟩:=hv;exact⟨b,c,by unfold Ce;rw[h1];exact h2,h3⟩
 | .own s o n,y,v,h,hv=>by
   unfold fS at h;rcases h with⟨s',h1,rfl⟩|⟨h1,rfl,rfl,rfl⟩
   ·unfold aO at*;obtain⟨q,c,h2,h3⟩:=hv;exact⟨q,c,by unfold Ce;rw[h1];exact h2,h3⟩
   ·unfold aO at*;exact⟨none,0,by unfold Ce;rw[h1],.inl ⟨rfl,hv,rfl,rfl⟩⟩
 | .agg l,y,v,h,hv=>by
   unfold fS at h;obtain⟨r,hy,hr⟩:=h;have:∃vs:List Value,v= .agg vs.toArray/\aZ ρ C r vs/\qE vs:=by
    rcases hy with rfl|⟨q,rfl,rfl⟩
    ·unfold aO at hv;exact hv
    ·unfold aO bF at hv;obtain⟨vs,h1,h2,h3⟩:=hv;exact⟨vs,h1,h2.toA,h3⟩
   obtain⟨vs,h1,h2,h3⟩:=this;unfold aO;exact⟨vs,h1,rW hC l r vs hr h2,h3⟩
 | .tup l,y,v,h,hv=>by
   unfold fS at h;obtain⟨r,hy,hr⟩:=h;have:∃vs:List Value,v= .tuple vs.toArray/\aZ ρ C r vs:=by
    rcases hy with rfl|⟨q,rfl,rfl⟩
    ·unfold aO at hv;exact hv
    ·unfold aO bF at hv;obtain⟨vs,h1,h2⟩:=hv;exact⟨vs,h1,h2.toA⟩
   obtain⟨vs,h1,h2⟩:=this;unfold aO;exact⟨vs,h1,rW hC l r vs hr h2⟩
 | .fn f a b,y,v,h,hv=>by
   unfold fS at h;obtain⟨a2,b2,rfl,h1,h2⟩:=h;unfold aO at*;obtain⟨vs1,vs2,h3,h4,h5⟩:=hv;exact⟨vs1,vs2,h3,rW hC a a2 vs1 h1 h4,rW hC b b2 vs2 h2 h5⟩
theorem rW{m:Rf}{ρ:Ren}{C C':cE}(hC:∀b o v,C b o v->C' b o v):∀(l r:List AV) (vs:List Value),fZ m l r->aZ ρ C r vs->aZ (Ce m ρ) C' l vs
 |[],r,vs,h,hv=>by unfold fZ at h;subst h;unfold aZ at*;exact hv
 |x::l,r,vs,h,hv=>by
  unfold fZ at h;obtain⟨y,r',rfl,h1,h2⟩:=h;unfold aZ at*;obtain⟨v,vs',rfl,h3,h4⟩:=hv;exact⟨v,vs',rfl,Eo hC x y v h1 h3,rW hC l r' vs' h2 h4⟩
end
theorem Jf{m:Rf}:∀{l r:List AV},fZ m l r->l.length=r.length/\∀(i:Nat) x,l[i]? =some x->∃y,r[i]? =some y/\fS m x y
 |[],r,h=>by unfold fZ at h;subst h;exact⟨rfl,fun i x h=>by simp at h⟩
 |x::l,r,h=>by
  unfold fZ at h;obtain⟨y,r',rfl,h1,h2⟩:=h;obtain⟨h3,h4⟩:=Jf h2;refine⟨by simp[h3],fun i z hi=> ?_⟩
  cases i with
  |zero=>simp at hi;subst hi;exact⟨y,rfl,h1⟩
  |succ i=>simpa using h4 i z (by simpa using hi)
def Wb(m:Rf)(ob' ob:Ob):Prop:=ob'.ty=ob.ty/\ob'.esz=ob.esz/\fZ m ob'.cells ob.cells
theorem aD2{F F':List AV}{L L':Sto}{N N':Nat}(m:Rf)(hlt:∀s x,m s=some x->s<N')(hinj:∀s s' o,m s=some (some o)->m s'=some (some o)->s=s')
  (hlen:F'.length=F.length) (hF:∀t,t<F.length->fS m (F'.getD t .any) (F.getD t .any))
  (hL:∀s ob',look L' s=some ob'->match m s with|some (some o)=>∃ob,look L o=some ob/\Wb m ob' ob|some none=>ob'.esz≠0/\ob'.cells=[] |none=>False):qX F L N F' L' N':=by
 intro C0 B wI a w ⟨⟨ρ,s1,s2,s3⟩,s4,s5,s6,s7⟩;have hCC:∀b o v,aY C0 B w ρ (look L) b o v->aY C0 B w (Ce m ρ) (look L') b o v:=by
  intro b o v ⟨e1,e2,e3⟩;refine⟨e1,fun s c hs=> ?_,e3⟩
  cases hl:look L' s with
  |none=>rfl
  |some ob'=>
   have:=hL s ob' hl;unfold Ce at hs;split at hs
   ·rename_i o' ho;rw[ho]at this;obtain⟨ob,h1,_⟩:=this;rw[e2 o' c hs]at h1;cases h1
   ·cases hs
   ·cases hs
 refine⟨⟨Ce m ρ,⟨?_,?_⟩,?_,?_⟩,s4,s5,by rw[s6,hlen],s7⟩
 ·intro s ob' hl;have:=hL s ob' hl;split at this
  ·rename_i o ho;obtain⟨ob,h1,h2,h3,h4⟩:=this;obtain⟨q,c,k1,k2⟩:=s1.ob o ob h1;refine⟨q,c,by unfold Ce;rw[ho];exact k1,?_⟩
   obtain⟨g1,g2⟩:=Jf h4;rcases k2 with⟨k2,k3,k4,k5⟩|⟨b,arr,k2,k3,k4⟩
   ·exact .inl ⟨k2,by rw[h3];exact k3,List.length_eq_zero_iff.1 (by rw[g1,k4];rfl),k5⟩
   ·refine .inr ⟨b,arr,k2,k3,⟨by rw[h2];exact k4.blk,fun hz=>by rw[g1];exact k4.box (by rw[<-h3];exact hz),fun hz=>by rw[h3,g1];exact k4.row (by rw[<-h3];exact hz),?_⟩⟩
    intro i x' hi;obtain⟨x,hx,hr⟩:=g2 i x' hi;obtain⟨v,g3,g4,g5⟩:=k4.cells i x hx;exact⟨v,g3,g4,Eo hCC _ _ v hr g5⟩
  ·rename_i ho;exact⟨none,0,by unfold Ce;rw[ho],.inl ⟨rfl,this.1,this.2,rfl⟩⟩
  ·exact this.elim
 ·intro s s' o o' b c c' h1 h2 h3 h4;have g1:=hL s o h1;have g2:=hL s' o' h2;unfold Ce at h3 h4;split at h3
  ·rename_i x hx;rw[hx]at g1;obtain⟨ob,k1,_⟩:=g1;split at h4
   ·rename_i x' hx';rw[hx']at g2;obtain⟨ob',k2,_⟩:=g2;have:=s1.inj x x' ob ob' b c c' k1 k2 h3 h4;subst this;exact hinj _ _ _ hx hx'
   ·cases h4
   ·cases h4
  ·cases h3
  ·cases h3
 ·intro s hs;cases hr:m s with
  |none=>unfold Ce;rw[hr]
  |some x=>have:=hlt s x hr;omega
 ·intro t;by_cases ht:t<F.length
  ·exact Eo hCC _ _ _ (hF t ht) (s3 t)
  ·rw[List.getD_eq_getElem?_getD,List.getElem?_eq_none (by omega)]
   show aO _ _ .any _;unfold aO;trivial
end Go.Proofs.YtdaeofhdgabhjaaGreat
namespace Go.Proofs.YtdaeofhdgabhjaaGreat
open Go.RowKit
abbrev Rm:=List (Nat×Option Nat)
def tD:Rm->Nat->Option (Option Nat)
 |[],_=>none
 |(k,x)::m,s=>match Nat.beq s k with|true=>some x|false=>tD m s
def Hs(f:SV->SV->Option (List Prop×Rm)):List SV->List SV->Option (List Prop×Rm)
 |[],[] =>some ([],[])
 |x::l,y::r=>(match f x y,Hs f l r with
  |some (p,m),some (q,k)=>some (p++q,m++k)
  |_,_=>none)
 |_,_=>none
def aHw:SV->SV->Option (List Prop×Rm)
 | .any,_=>some ([],[])
 | .undef,.undef=>some ([],[])
 | .nil,.nil=>some ([],[])
 | .int k a,.int k' b=>(match decEq k k' with| .isTrue _=>some ([b=a],[])| .isFalse _=>none)
 | .bool a,.bool b=>some ([b=a],[])
 | .bool a,.lit b=>some ([b=a],[])
 | .bool a,.prop p d=>some ([@decide p d=a],[])
 | .lit a,.lit b=>some ([b=a],[])
 | .lit a,.bool b=>some ([b=a],[])
 | .lit a,.prop p d=>some ([@decide p d=a],[])
 | .prop p _,.prop q _=>some ([q↔p],[])
 | .prop p d,.bool b=>some ([b= @decide p d],[])
 | .prop p d,.lit b=>some ([b= @decide p d],[])
 | .str a,.str b=>some ([b=a],[])
 | .lst t l,.lst t' l'=>(match decEq t' t with| .isTrue h=>some ([(h▸l':List t.ty)=l],[])| .isFalse _=>none)
 | .lst _ l,.sl 0 [] =>some ([l=[]],[])
 | .lst t l,.sl n cs=>(match t.decs n cs with|some l'=>some ([l'=l],[])|none=>none)
 | .ptr s off,.ptr s' off'=>(match Nat.beq off off' with|true=>some ([],[(s,some s')])|false=>none)
 | .own s t n,.own s' t' n'=>(match decEq t' t with| .isTrue _=>some ([n'=n],[(s,some s')])| .isFalse _=>none)
 | .own s _ n,.ownx s' n'=>some ([n'=n],[(s,some s')])
 | .own s _ n,.nil=>some ([n=0],[(s,none)])
 | .ownx s n,.ownx s' n'=>(match Nat.beq n n' with|true=>some ([],[(s,some s')])|false=>none)
 |_,_=>none
def eqv:Nat->SV->SV->Option (List Prop×Rm)
 |d+1,.agg l,.agg r=>Hs (eqv d) l r
 |d+1,.tup l,.tup r=>Hs (eqv d) l r
 |d+1,.fn f a b,.fn f' a' b'=>(match Nat.beq f f',Hs (eqv d) a a',Hs (eqv d) b b' with
  |true,some (p,m),some (q,k)=>some (p++q,m++k)
  |_,_,_=>none)
 |_,x,y=>aHw x y
def lT(m:Rf)(r:Rm):Prop:=∀q∈r,m q.1=some q.2
theorem lT.left{m:Rf}{r k:Rm}(h:lT m (r++k)):lT m r:=fun q hq=>h q (List.mem_append_left _ hq)
theorem lT.right{m:Rf}{r k:Rm}(h:lT m (r++k)):lT m k:=fun q hq=>h q (List.mem_append_right _ hq)
theorem Jg{m:Rf}{l r:List AV}(h:fZ m l r):fS m (iK l) (iK r):=by
 unfold iK;cases hl:cR l with
 |some q=>
  have e:=gQ hl;subst e;have:∀(q:List PV) (r:List AV),fZ m (q.map .p) r->r=q.map .p:=by
   intro q;induction q with
   |nil=>intro r h;unfold fZ at h;exact h
   |cons x q ih=>intro r h;rw[List.map_cons]at h;unfold fZ at h;obtain⟨y,r',rfl,h1,h2⟩:=h;unfold fS at h1;rw[h1,ih r' h2];rfl
  rw[this q r h,dC];dsimp only;unfold fS;rfl
 |none=>
  dsimp only;unfold fS;cases hr:cR r with
  |some q=>exact⟨r,.inr ⟨q,rfl,gQ hr⟩,h⟩
  |none=>exact⟨r,.inl rfl,h⟩
theorem Je{m:Rf}{l r:List AV}(h:fZ m l r):fS m (qJ l) (qJ r):=by
 unfold qJ;cases hl:cR l with
 |some q=>
  have e:=gQ hl;subst e;have:∀(q:List PV) (r:List AV),fZ m (q.map .p) r->r=q.map .p:=by
   intro q;induction q with
   |nil=>intro r h;unfold fZ at h;exact h
   |cons x q ih=>intro r h;rw[List.map_cons]at h;unfold fZ at h;obtain⟨y,r',rfl,h1,h2⟩:=h;unfold fS at h1;rw[h1,ih r' h2];rfl
  rw[this q r h,dC];dsimp only;unfold fS;rfl
 |none=>
  dsimp only;unfold fS;cases hr:cR r with
  |some q=>exact⟨r,.inr ⟨q,rfl,gQ hr⟩,h⟩
  |none=>exact⟨r,.inl rfl,h⟩
theorem nU{f:SV->SV->Option (List Prop×Rm)}{m:Rf}(hf:∀x y ps r,f x y=some (ps,r)->(∀p∈ps,p)->lT m r->fS m x.av y.av):
  ∀{l k:List SV} {ps:List Prop} {r:Rm},Hs f l k=some (ps,r)->(∀p∈ps,p)->lT m r->fZ m (avs l) (avs k)
 |[],[],ps,r,_,_,_=>by simp only[avs];unfold fZ;rfl
 |[],_::_,ps,r,h,_,_=>by cases h
 |_::_,[],ps,r,h,_,_=>by cases h
 |x::l,y::k,ps,r,h,hp,hm=>by
  unfold Hs at h;split at h<;>cases h;rename_i p m1 q m2 h1 h2;rw[avs,avs];unfold fZ;exact⟨_,_,rfl,hf x y p m1 h1 (fun a ha=>hp a (List.mem_append_left _ ha)) hm.left,nU hf h2 (fun a ha=>hp a (List.mem_append_right _ ha)) hm.right⟩
theorem fG{m:Rf}{x:PV}{y:AV}(h:y= .p x):fS m (.p x) y:=by unfold fS;exact h
theorem Qm{m:Rf}{x y:SV}{ps:List Prop}{r:Rm}(h:aHw x y=some (ps,r))(hp:∀p∈ps,p)(hm:lT m r):fS m x.av y.av:=by
 unfold aHw at h;split at h
 ·simp only[SV.av];unfold fS;trivial
 ·simp only[SV.av];unfold fS;rfl
 ·simp only[SV.av];unfold fS;rfl
 ·split at h<;>cases h;rename_i e _;subst e;refine fG ?_;rw[<-hp _ (List.mem_singleton.2 rfl)];rfl
 ·cases h;refine fG ?_;rw[<-hp _ (List.mem_singleton.2 rfl)];rfl
 ·cases h;refine fG ?_;rw[<-hp _ (List.mem_singleton.2 rfl)];rfl
 ·cases h;refine fG ?_;rw[<-hp _ (List.mem_singleton.2 rfl)];rfl
 ·cases h;refine fG ?_;rw[<-hp _ (List.mem_singleton.2 rfl)];rfl
 ·cases h;refine fG ?_;rw[<-hp _ (List.mem_singleton.2 rfl)];rfl
 ·cases h;refine fG ?_;rw[<-hp _ (List.mem_singleton.2 rfl)];rfl
 ·rename_i p d q e;cases h;refine fG ?_;have hh:q↔p:=hp _ (List.mem_singleton.2 rfl);show AV.p (.bool (decide q))=AV.p (.bool (decide p))
  congr 2
  exact decide_eq_decide.2 hh
 ·cases h;refine fG ?_;rw[<-hp _ (List.mem_singleton.2 rfl)];rfl
 ·cases h;refine fG ?_;rw[<-hp _ (List.mem_singleton.2 rfl)];rfl
 ·cases h;refine fG ?_;rw[<-hp _ (List.mem_singleton.2 rfl)];rfl
 ·rename_i t l t' l';split at h<;>cases h;rename_i e _;subst e;have:l'=l:=hp _ (List.mem_singleton.2 rfl);subst this;exact fG rfl
 ·cases h;rename_i t l;have:l=[] :=hp _ (List.mem_singleton.2 rfl);subst this;exact fG rfl
 ·rename_i t l n cs _;split at h<;>cases h;rename_i l' hl;have:l'=l:=hp _ (List.mem_singleton.2 rfl);subst this;obtain⟨e1,e2⟩:=LT.vK hl;refine fG ?_;show(match cR (avs cs)with|some q=>AV.p (.sl n q)|none=> .any)=_
  rw[e2,dC,e1]
 ·rename_i s off s' off';split at h<;>cases h;rename_i e;simp only[SV.av];unfold fS;exact⟨s',hm _ (List.mem_singleton.2 rfl),by rw[Nat.eq_of_beq_eq_true e]⟩
 ·rename_i s t n s' t' n';split at h<;>cases h;have:n'=n:=hp _ (List.mem_singleton.2 rfl);simp only[SV.av];unfold fS;exact .inl ⟨s',hm _ (List.mem_singleton.2 rfl),by rw[this]⟩
 ·cases h;rename_i s t n s' n';have:n'=n:=hp _ (List.mem_singleton.2 rfl);simp only[SV.av];unfold fS;exact .inl ⟨s',hm _ (List.mem_singleton.2 rfl),by rw[this]⟩
 ·cases h;rename_i s t n;have:n=0:=hp _ (List.mem_singleton.2 rfl);simp only[SV.av];unfold fS;exact .inr ⟨hm _ (List.mem_singleton.2 rfl),rfl,rfl,this⟩
 ·rename_i s n s' n';split at h<;>cases h;rename_i e;simp only[SV.av];unfold fS;exact .inl ⟨s',hm _ (List.mem_singleton.2 rfl),by rw[Nat.eq_of_beq_eq_true e]⟩
 ·cases h
theorem yO{m:Rf}:∀(d:Nat) (x y:SV) (ps:List Prop) (r:Rm),eqv d x y=some (ps,r)->(∀p∈ps,p)->lT m r->fS m x.av y.av:=by
 intro d;induction d with
 |zero=>
  intro x y ps r h hp hm;refine Qm (ps:=ps) (r:=r) ?_ hp hm;exact h
 |succ d ih=>
  intro x y ps r h hp hm;unfold eqv at h;split at h
  ·rename_i d' l k e;cases e;exact Jg (nU ih h hp hm)
  ·rename_i d' l k e;cases e;exact Je (nU ih h hp hm)
  ·rename_i d' f a b f' a' b' e;cases e;split at h<;>cases h;rename_i p m1 q m2 e h1 h2;show fS m (.fn (.func f) (avs a) (avs b)) (.fn (.func f') (avs a') (avs b'));unfold fS;exact⟨_,_,by rw[Nat.eq_of_beq_eq_true e],nU ih h1 (fun a ha=>hp a (List.mem_append_left _ ha)) hm.left,nU ih h2 (fun a ha=>hp a (List.mem_append_right _ ha)) hm.right⟩
  ·exact Qm h hp hm
mutual
def SV.sites:SV->List Nat
 | .agg l=>qY l
 | .tup l=>qY l
 | .fn _ a b=>qY a++qY b
 | .ptr s _=>[s]
 | .pte s _ _ _=>[s]
 | .own s _ _=>[s]
 | .owns s _ _ _=>[s]
 | .ownx s _=>[s]
 |_=>[]
def qY:List SV->List Nat
 |[] =>[]
 |x::l=>x.sites++qY l
end
mutual
theorem Iw{m:Rf}:∀(v:SV),(∀s∈v.sites,m s=some (some s))->fS m v.av v.av
 | .any,_=>by simp only[SV.av];unfold fS;trivial
 | .undef,_=>by simp only[SV.av];unfold fS;rfl
 | .nil,_=>by simp only[SV.av];unfold fS;rfl
 | .int _ _,_=>fG rfl
 | .bool _,_=>fG rfl
 | .lit _,_=>fG rfl
 | .prop _ _,_=>fG rfl
 | .str _,_=>fG rfl
 | .lst _ _,_=>fG rfl
 | .pe _ _ _ _,_=>fG rfl
 | .clo1 _ _ _ _,_=>fG rfl
 | .clo2 _ _ _ _,_=>fG rfl
 | .ptb _ _ _,_=>fG rfl
 | .sl n cs,_=>by
   simp only[SV.av];split
   ·exact fG rfl
   ·unfold fS;trivial
 | .pro cs off,_=>by
   simp only[SV.av];split
   ·exact fG rfl
   ·unfold fS;trivial
 | .fnp f a b,_=>by
   simp only[SV.av];split
   ·exact fG rfl
   ·unfold fS;trivial
 | .agg l,h=>by simp only[SV.av];exact Jg (lW l h)
 | .tup l,h=>by simp only[SV.av];exact Je (lW l h)
 | .fn f a b,h=>by
   simp only[SV.av];unfold fS;exact⟨_,_,rfl,lW a (fun s hs=>h s (by simp only[SV.sites];exact List.mem_append_left _ hs)),lW b (fun s hs=>h s (by simp only[SV.sites];exact List.mem_append_right _ hs))⟩
 | .ptr s off,h=>by simp only[SV.av];unfold fS;exact⟨s,h s (by simp[SV.sites]),rfl⟩
 | .pte s t i off,h=>by simp only[SV.av];unfold fS;exact⟨s,h s (by simp[SV.sites]),rfl⟩
 | .own s t n,h=>by simp only[SV.av];unfold fS;exact .inl ⟨s,h s (by simp[SV.sites]),rfl⟩
 | .owns s t o n,h=>by simp only[SV.av];unfold fS;exact .inl ⟨s,h s (by simp[SV.sites]),rfl⟩
 | .ownx s n,h=>by simp only[SV.av];unfold fS;exact .inl ⟨s,h s (by simp[SV.sites]),rfl⟩
theorem lW{m:Rf}:∀(l:List SV),(∀s∈qY l,m s=some (some s))->fZ m (avs l) (avs l)
 |[],_=>by simp only[avs];unfold fZ;rfl
 |x::l,h=>by
  simp only[avs];unfold fZ;exact⟨_,_,rfl,Iw x (fun s hs=>h s (by simp only[qY];exact List.mem_append_left _ hs)),lW l (fun s hs=>h s (by simp only[qY];exact List.mem_append_right _ hs))⟩
end
theorem vR(m:Rf):∀q:List PV,fZ m (q.map .p) (q.map .p)
 |[] =>by simp only[List.map_nil];unfold fZ;rfl
 |x::q=>by simp only[List.map_cons];unfold fZ;exact⟨_,_,rfl,fG rfl,vR m q⟩
def SOb.sites:SOb->List Nat
 | .box _ cs=>qY cs
 | .arr _ _ cs=>qY cs
 | .row .. =>[]
theorem Ro{m:Rf}(o:SOb)(h:∀s∈o.sites,m s=some (some s)):Wb m o.ob o.ob:=by
 cases o with
 |box ty cs=>exact⟨rfl,rfl,lW cs h⟩
 |arr ty ez cs=>exact⟨rfl,rfl,lW cs h⟩
 |row ty t l=>exact⟨rfl,rfl,vR m _⟩
def aBk:SOb->SOb->Option (List Prop×Rm)
 | .box ty cs,.box ty' cs'=>(match Nat.beq ty ty' with|true=>Hs (eqv 3) cs cs'|false=>none)
 | .arr ty ez cs,.arr ty' ez' cs'=>(match Nat.beq ty ty',Nat.beq ez ez' with|true,true=>Hs (eqv 3) cs cs'|_,_=>none)
 | .row ty t l,.row ty' t' l'=>(match Nat.beq ty ty',decEq t' t with|true,.isTrue h=>some ([(h▸l':List t.ty)=l],[])|_,_=>none)
 | .row ty t l,.arr ty' ez cs=>(match Nat.beq ty ty',Nat.beq ez t.w,t.decs (cs.length/t.w) cs with|true,true,some l'=>some ([l'=l],[])|_,_,_=>none)
 |_,_=>none
theorem aAw{m:Rf}{x y:SOb}{ps:List Prop}{r:Rm}(h:aBk x y=some (ps,r))(hp:∀p∈ps,p)(hm:lT m r):Wb m x.ob y.ob:=by
 unfold aBk at h;split at h
 ·split at h
  ·rename_i e;exact⟨Nat.eq_of_beq_eq_true e,rfl,nU (yO 3) h hp hm⟩
  ·cases h
 ·split at h
  ·rename_i e1 e2;exact⟨Nat.eq_of_beq_eq_true e1,Nat.eq_of_beq_eq_true e2,nU (yO 3) h hp hm⟩
  ·cases h
 ·split at h<;>cases h;rename_i e2 e1 _;subst e2;have:=hp _ (List.mem_singleton.2 rfl);dsimp only at this;subst this;exact⟨Nat.eq_of_beq_eq_true e1,rfl,vR m _⟩
 ·split at h<;>cases h;rename_i l' e1 e2 e3;have:=hp _ (List.mem_singleton.2 rfl);subst this;obtain⟨_,e4⟩:=LT.vK e3;refine⟨Nat.eq_of_beq_eq_true e1,(Nat.eq_of_beq_eq_true e2).symm,?_⟩;show fZ m ((LT.enc _ l').map .p) (avs _);rw[e4];exact vR m _
 ·cases h
end Go.Proofs.YtdaeofhdgabhjaaGreat
namespace Go.Proofs.YtdaeofhdgabhjaaGreat
open Go.RowKit
def mem(l:List Nat)(s:Nat):Bool:=match l with
 |[] =>false
 |x::l=>(match Nat.beq s x with|true=>true|false=>mem l s)
theorem mem_iff(s:Nat):∀l:List Nat,mem l s=true↔s∈l
 |[] =>by simp[mem]
 |x::l=>by
  unfold mem;cases h:Nat.beq s x with
  |true=>simp[Nat.eq_of_beq_eq_true h]
  |false=>simp[Nat.ne_of_beq_eq_false h,mem_iff s l]
def sC{α:Type}(p:α->Bool):List α->Bool
 |[] =>true
 |x::l=>(match p x with|true=>sC p l|false=>false)
theorem jK{α:Type}{p:α->Bool}:∀{l:List α},sC p l=true->∀x∈l,p x=true
 |[],_,x,hx=>by cases hx
 |y::l,h,x,hx=>by
  unfold sC at h;cases hy:p y with
  |false=>rw[hy]at h;cases h
  |true=>
   rw[hy]at h;rcases List.mem_cons.1 hx with rfl|hx
   ·exact hy
   ·exact jK h x hx
def pF(rk:List Nat)(N0:Nat)(s:Nat):Bool:=match Nat.blt s N0,mem rk s with
 |true,false=>true
 |_,_=>false
def tR(F:Frm)(rk:List Nat)(N0:Nat):Frm->List Nat
 |[] =>[]
 |(d,v)::r=>(match sC (pF rk N0) v.sites with
  |true=>tR F rk N0 r
  |false=>(match sC (pF rk N0) (F.at d).sites with
   |true=>tR F rk N0 r
   |false=>d::tR F rk N0 r))
def qK(F:Frm)(upd:Frm)(hav:List Nat):Frm:=upd++(hav.map fun d=>(d,SV.any))++F
def tZ(L:dG)(obs:List (Nat×SOb)):dG:=(obs.map fun q=>(q.1,some q.2))++L
def Od(obs:List (Nat×SOb)):List Nat:=obs.map fun q=>q.1
def aMi(L:dG)(keys rk:List Nat)(N0:Nat):Bool:=sC (fun(q:Nat×Option SOb)=>match mem keys q.1 with
 |true=>true
 |false=>(match L.at q.1 with
  |none=>true
  |some ob=>(match pF rk N0 q.1 with|true=>sC (pF rk N0) ob.sites|false=>false))) L
def Yp(n:Nat)(F':Frm):Frm->Option (List Prop×Rm)
 |[] =>some ([],[])
 |(d,v)::r=>(match Nat.blt d n,v.ape,eqv 3 v (F'.at d),Yp n F' r with
  |true,false,some (p,m),some (q,k)=>some (p++q,m++k)
  |_,_,_,_=>none)
def Yo(L':dG)(rk:List Nat):List (Nat×SOb)->Rm->Option (List Prop×Rm)
 |[],mm=>some ([],mm)
 |(s,ob)::r,mm=>(match(match mem rk s with|true=>tD mm s|false=>some (some s))with
  |none=>none
  |some none=>(match ob with
   | .row _ _ l=>(match Yo L' rk r (mm++[(s,none)])with|some (q,k)=>some ((l=[])::q,k)|none=>none)
   |_=>none)
  |some (some o)=>(match L'.at o with
   |none=>none
   |some ob'=>(match aBk ob ob' with
    |none=>none
    |some (p,m2)=>(match Yo L' rk r (mm++(s,some o)::m2)with|some (q,k)=>some (p++q,k)|none=>none))))
def eqO:Option Nat->Option Nat->Bool
 |none,none=>true
 |some a,some b=>Nat.beq a b
 |_,_=>false
theorem To{a b:Option Nat}(h:eqO a b=true):a=b:=by
 cases a<;>cases b<;>first|rfl|(cases h;done)|(rw[Nat.eq_of_beq_eq_true h])
def isO:Option (Option Nat)->Option Nat->Bool
 |some a,b=>eqO a b
 |none,_=>false
def okM(rk:List Nat)(N0 N1:Nat)(mm:Rm):Bool:=sC (fun(q:Nat×Option Nat)=>match isO (tD mm q.1) q.2,mem rk q.1 with
 |true,true=>(match Nat.blt q.1 N1,q.2 with
  |true,none=>true
  |true,some o=>(match(match Nat.blt o N0 with|false=>true|true=>mem rk o)with
   |true=>sC (fun(q2:Nat×Option Nat)=>match eqO q2.2 (some o)with|true=>Nat.beq q2.1 q.1|false=>true) mm
   |false=>false)
  |_,_=>false)
 |true,false=>(match pF rk N0 q.1 with|true=>eqO q.2 (some q.1)|false=>false)
 |_,_=>false) mm
def aMf(N0:Nat)(keys:List Nat)(pre:dG):Bool:=sC (fun(q:Nat×Option SOb)=>match mem keys q.1 with
 |true=>true
 |false=>(match Nat.blt q.1 N0 with|true=>false|false=>true)) pre
def aMM(rk:List Nat)(N0:Nat)(mm:Rm):Rf:=fun s=>match tD mm s with
 |some x=>some x
 |none=>(match pF rk N0 s with|true=>some (some s)|false=>none)
def Wd(n:Nat)(L:dG)(N0 N1:Nat)(rk:List Nat)(upd:Frm)(obs:List (Nat×SOb))(F':Frm)(L':dG):Option (List Prop):=
 match Yp n F' upd with
 |none=>none
 |some (p,m1)=>(match Yo L' rk obs m1 with
  |none=>none
  |some (q,m2)=>(match okM rk N0 N1 m2,aMf N0 (Od obs) (L'.take (L'.length-L.length)),aMi L (Od obs) rk N0,Nat.ble N0 N1 with
   |true,true,true,true=>some (p++q)
   |_,_,_,_=>none))
theorem Jp{m:Rm}{s:Nat}{x:Option Nat}(h:tD m s=some x):(s,x)∈m:=by
 induction m with
 |nil=>cases h
 |cons q m ih=>
  obtain⟨a,b⟩:=q;unfold tD at h;split at h
  ·rename_i e;cases h;rw[Nat.eq_of_beq_eq_true e];exact List.mem_cons_self
  ·exact List.mem_cons_of_mem _ (ih h)
theorem Ql{n:Nat}{F':Frm}{m:Rf}:∀{upd:Frm} {ps:List Prop} {r:Rm},Yp n F' upd=some (ps,r)->(∀p∈ps,p)->lT m r->∀q∈upd,fS m q.2.av (F'.at q.1).av/\q.2.ok
 |[],ps,r,_,_,_,q,hq=>by cases hq
 |(d,v)::upd,ps,r,h,hp,hm,q,hq=>by
  unfold Yp at h;split at h<;>cases h;rename_i p1 m1 p2 m2 h1 h2 h3 h4;rcases List.mem_cons.1 hq with rfl|hq
  ·exact⟨yO 3 _ _ _ _ h3 (fun a ha=>hp a (List.mem_append_left _ ha)) hm.left,SV.wL h2⟩
  ·exact Ql h4 (fun a ha=>hp a (List.mem_append_right _ ha)) hm.right q hq
theorem Ez{L':dG}{rk:List Nat}{m:Rf}:∀{obs:List (Nat×SOb)} {mm:Rm} {ps:List Prop} {r:Rm},Yo L' rk obs mm=some (ps,r)->(∀p∈ps,p)->lT m r->
  (∃k,r=mm++k)/\∀q∈obs,match m q.1 with
   |some (some o)=>∃ob,L'.at o=some ob/\Wb m q.2.ob ob.ob
   |some none=>q.2.ob.esz≠0/\q.2.ob.cells=[]
   |none=>False
 |[],mm,ps,r,h,_,_=>by unfold Yo at h;cases h;exact⟨⟨[],by simp⟩,fun q hq=>by cases hq⟩
 |(s,ob)::obs,mm,ps,r,h,hp,hm=>by
  unfold Yo at h;split at h
  ·cases h
  ·rename_i hi;split at h
   ·rename_i ty t l;split at h<;>cases h;rename_i q k hk;obtain⟨⟨k',e⟩,h2⟩:=Ez hk (fun a ha=>hp a (List.mem_cons_of_mem _ ha)) hm
    refine⟨⟨(s,none)::k',by rw[e];simp⟩,fun q hq=> ?_⟩
    rcases List.mem_cons.1 hq with rfl|hq
    ·have:m s=some none:=hm (s,none) (by rw[e];simp)
     dsimp only;rw[this];have hl:l=[] :=hp _ List.mem_cons_self;subst hl;exact⟨Nat.ne_of_gt t.aA4,rfl⟩
    ·exact h2 q hq
   ·cases h
  ·rename_i o hi;split at h
   ·cases h
   ·rename_i ob' hob;split at h
    ·cases h
    ·rename_i p m2 he;split at h<;>cases h;rename_i q k hk;obtain⟨⟨k',e⟩,h2⟩:=Ez hk (fun a ha=>hp a (List.mem_append_right _ ha)) hm
     refine⟨⟨(s,some o)::m2++k',by rw[e];simp⟩,fun q hq=> ?_⟩
     rcases List.mem_cons.1 hq with rfl|hq
     ·have:m s=some (some o):=hm (s,some o) (by rw[e];simp)
      dsimp only;rw[this];refine⟨ob',hob,aAw he (fun a ha=>hp a (List.mem_append_left _ ha)) ?_⟩
      intro q hq;exact hm q (by rw[e];simp[hq])
     ·exact h2 q hq
theorem zI{F:Frm}{rk:List Nat}{N0:Nat}{d:Nat}:∀{G:Frm},(∃v,(d,v)∈G/\sC (pF rk N0) v.sites=false)->d∉tR F rk N0 G->sC (pF rk N0) (F.at d).sites=true
 |[],⟨v,h,_⟩,_=>by cases h
 |(e,u)::G,⟨v,h,hv⟩,hn=>by
  unfold tR at hn;rcases List.mem_cons.1 h with h|h
  ·cases h;rw[hv]at hn;dsimp only at hn;split at hn
   ·rename_i he;exact he
   ·exact absurd List.mem_cons_self hn
  ·split at hn
   ·exact zI ⟨v,h,hv⟩ hn
   ·split at hn
    ·exact zI ⟨v,h,hv⟩ hn
    ·exact zI ⟨v,h,hv⟩ (fun hh=>hn (List.mem_cons_of_mem _ hh))
theorem aIn(F:Frm)(d:Nat):(F.at d)= .undef\/(d,F.at d)∈F:=by
 induction F with
 |nil=>exact .inl rfl
 |cons q F ih=>
  obtain⟨e,v⟩:=q;rw[Frm.nP];split
  ·rename_i h;subst h;exact .inr List.mem_cons_self
  ·rcases ih with h|h
   ·exact .inl h
   ·exact .inr (List.mem_cons_of_mem _ h)
theorem aEJ{F:Frm}{rk:List Nat}{N0 d:Nat}(h:d∉tR F rk N0 F):sC (pF rk N0) (F.at d).sites=true:=by
 rcases aIn F d with e|e
 ·rw[e];rfl
 ·cases hb:sC (pF rk N0) (F.at d).sites with
  |true=>rfl
  |false=>rw[<-hb];exact zI ⟨_,e,hb⟩ h
theorem Frm.mE(A B:Frm)(d:Nat):(Frm.at (A++B) d)=if d∈A.map (·.1)then A.at d else B.at d:=by
 induction A with
 |nil=>simp
 |cons q A ih=>
  obtain⟨e,v⟩:=q;rw[List.cons_append,Frm.nP,Frm.nP,ih];by_cases h:d=e
  ·subst h;simp
  ·rw[if_neg h,if_neg h];by_cases h2:d∈A.map (·.1)
   ·rw[if_pos h2,if_pos];rw[List.map_cons];exact List.mem_cons_of_mem _ h2
   ·rw[if_neg h2,if_neg];rw[List.map_cons,List.mem_cons];rintro(h3|h3)
    ·exact h h3
    ·exact h2 h3
theorem aBT(l:List Nat)(d:Nat):(Frm.at (l.map fun d=>(d,SV.any)) d)=if d∈l then .any else .undef:=by
 induction l with
 |nil=>rfl
 |cons e l ih=>
  rw[List.map_cons,Frm.nP,ih];by_cases h:d=e
  ·subst h;simp
  ·simp[h]
theorem Of{F:Frm}{d:Nat}(h:d∈F.map (·.1)):(d,F.at d)∈F:=by
 induction F with
 |nil=>cases h
 |cons q F ih=>
  obtain⟨e,v⟩:=q;rw[Frm.nP];split
  ·rename_i he;subst he;exact List.mem_cons_self
  ·rename_i he;rw[List.map_cons]at h;rcases List.mem_cons.1 h with h|h
   ·exact absurd h he
   ·exact List.mem_cons_of_mem _ (ih h)
theorem dG.mE(A B:dG)(s:Nat):(dG.at (A++B) s)=if s∈A.map (·.1)then A.at s else B.at s:=by
 induction A with
 |nil=>simp
 |cons q A ih=>
  obtain⟨e,v⟩:=q;rw[List.cons_append];show(match Nat.beq s e with|true=>v|false=>dG.at (A++B) s)=if _ then(match Nat.beq s e with|true=>v|false=>dG.at A s)else _
  cases h:Nat.beq s e with
  |true=>have:=Nat.eq_of_beq_eq_true h;subst this;simp
  |false=>
   have:=Nat.ne_of_beq_eq_false h;dsimp only;rw[ih];by_cases h2:s∈A.map (·.1)
   ·rw[if_pos h2,if_pos];rw[List.map_cons];exact List.mem_cons_of_mem _ h2
   ·rw[if_neg h2,if_neg];rw[List.map_cons,List.mem_cons];rintro(h3|h3)
    ·exact this h3
    ·exact h2 h3
theorem dG.Of{L:dG}{s:Nat}{ob:SOb}(h:L.at s=some ob):(s,some ob)∈L:=by
 induction L with
 |nil=>cases h
 |cons q L ih=>
  obtain⟨e,v⟩:=q;change (match Nat.beq s e with|true=>v|false=>dG.at L s)=some ob at h
  cases hb:Nat.beq s e with
  |true=>rw[hb]at h;have:=Nat.eq_of_beq_eq_true hb;subst this;cases h;exact List.mem_cons_self
  |false=>rw[hb]at h;exact List.mem_cons_of_mem _ (ih h)
theorem aAh{n:Nat}{F F' upd:Frm}{L L':dG}{N0 N1 N':Nat}{obs:List (Nat×SOb)}{hav:List Nat}{ps:List Prop}{rk:List Nat}(h:Wd n L N0 N1 rk upd obs F' L'=some ps)(hp:∀p∈ps,p)
  (hF:Pre (fun d=>d∈hav) F F') (hbad:∀d∈tR F rk N0 F,d∈hav) (hL:sD L L'):
  qX (F'.av n) L'.sto N' ((qK F upd hav).av n) (tZ L obs).sto N1:=by
 unfold Wd at h;split at h
 ·cases h
 rename_i p1 m1 h1;split at h
 ·cases h
 rename_i p2 mm h2;split at h<;>cases h;rename_i h3 h4 h5 h6
 let m:Rf:=aMM rk N0 mm
 have hokM:∀s x,(s,x)∈mm->tD mm s=some x/\((mem rk s=true/\s<N1/\∀o,x=some o->(o<N0->mem rk o=true)/\∀s',(s',some o)∈mm->s'=s)\/(mem rk s=false/\s<N0/\x=some s)):=by
  intro s x hs;have:=jK h3 (s,x) hs;dsimp only at this;split at this
  ·rename_i e1 e2;refine⟨?_,.inl ⟨e2,?_⟩⟩
   ·unfold isO at e1;split at e1
    ·rename_i heq;rw[heq,To e1]
    ·cases e1
   ·split at this
    ·rename_i e3;exact⟨(jZ _ _).1 e3,fun o ho=>by cases ho⟩
    ·rename_i o e3;refine⟨(jZ _ _).1 e3,fun o' ho=> ?_⟩
     cases ho;split at this
     ·rename_i e4;refine⟨fun hlt=> ?_,fun s' hs'=> ?_⟩
      ·rw[(jZ _ _).2 hlt]at e4;exact e4
      ·have:=jK this (s',some o) hs';dsimp only at this;rw[show eqO (some o) (some o)=true from Nat.beq_refl o]at this
       exact Nat.eq_of_beq_eq_true this
     ·cases this
    ·cases this
  ·rename_i e1 e2;split at this
   ·rename_i e3;refine⟨?_,.inr ⟨e2,?_,To this⟩⟩
    ·unfold isO at e1;split at e1
     ·rename_i heq;rw[heq,To e1]
     ·cases e1
    ·unfold pF at e3;split at e3
     ·rename_i e4 _;exact(jZ _ _).1 e4
     ·cases e3
   ·cases this
  ·cases this
 have hstay:∀s,pF rk N0 s=true->m s=some (some s)/\s<N0/\mem rk s=false:=by
  intro s hs;have:s<N0/\mem rk s=false:=by
   unfold pF at hs;split at hs
   ·rename_i e1 e2;exact⟨(jZ _ _).1 e1,e2⟩
   ·cases hs
  refine⟨?_,this⟩;show(match tD mm s with|some x=>some x|none=>_)=_
  cases hl:tD mm s with
  |some x=>
   rcases(hokM s x (Jp hl)).2 with⟨e,_⟩|⟨_,_,e⟩
   ·rw[this.2]at e;cases e
   ·rw[e]
  |none=>dsimp only;rw[hs]
 have hm:∀s x,m s=some x->(s,x)∈mm\/(pF rk N0 s=true/\x=some s):=by
  intro s x hs;change (match tD mm s with|some x=>some x|none=>(match pF rk N0 s with|true=>some (some s)|false=>none))=some x at hs
  cases hl:tD mm s with
  |some y=>rw[hl]at hs;cases hs;exact .inl (Jp hl)
  |none=>
   rw[hl]at hs;dsimp only at hs;split at hs
   ·rename_i e;cases hs;exact .inr ⟨e,rfl⟩
   ·cases hs
 have hag:lT m mm:=by
  intro q hq;have:=(hokM q.1 q.2 hq).1;show(match tD mm q.1 with|some x=>some x|none=>_)=_
  rw[this]
 obtain⟨⟨k,hk⟩,hobs⟩:=Ez h2 (fun a ha=>hp a (List.mem_append_right _ ha)) hag
 have hag1:lT m m1:=fun q hq=>hag q (by rw[hk];exact List.mem_append_left _ hq)
 have hupd:=Ql h1 (fun a ha=>hp a (List.mem_append_left _ ha)) hag1
 have h6':=Nat.le_of_ble_eq_true h6;refine aD2 m ?_ ?_ (by rw[Frm.lI,Frm.lI]) ?_ ?_
 ·intro s x hs;rcases hm s x hs with h|⟨h,_⟩
  ·rcases(hokM s x h).2 with⟨_,e,_⟩|⟨_,e,_⟩
   ·exact e
   ·omega
  ·have:=(hstay s h).2.1;omega
 ·intro s s' o hs hs';rcases hm s (some o) hs with h|⟨h,e⟩
  ·rcases(hokM s _ h).2 with⟨e1,e2,e3⟩|⟨e1,e2,e3⟩
   ·obtain⟨e4,e5⟩:=e3 o rfl;rcases hm s' (some o) hs' with h'|⟨h',e'⟩
    ·exact(e5 s' h').symm
    ·have e':=Option.some.inj e';obtain⟨_,e6,e7⟩:=hstay s' h';rw[<-e',e4 (by omega)]at e7;cases e7
   ·have e3:=Option.some.inj e3;rcases hm s' (some o) hs' with h'|⟨h',e'⟩
    ·rcases(hokM s' _ h').2 with⟨g1,g2,g3⟩|⟨g1,g2,g3⟩
     ·exact(g3 o rfl).2 s h
     ·have:=Option.some.inj g3;omega
    ·have:=Option.some.inj e';omega
  ·have e:=Option.some.inj e;rcases hm s' (some o) hs' with h'|⟨h',e'⟩
   ·rcases(hokM s' _ h').2 with⟨g1,g2,g3⟩|⟨g1,g2,g3⟩
    ·obtain⟨_,e6,e7⟩:=hstay s h;rw[<-e,(g3 o rfl).1 (by omega)]at e7;cases e7
    ·have:=Option.some.inj g3;omega
   ·have:=Option.some.inj e';omega
 ·intro t ht;rw[Frm.lI]at ht;rw[Frm.vM ht,Frm.vM ht];unfold qK;rw[Frm.mE,Frm.mE];split
  ·rename_i hin;split
   ·rename_i hu;exact(hupd _ (Of hu)).1
   ·rw[aBT];split
    ·simp only[SV.av];unfold fS;trivial
    ·rename_i hu hh;rw[List.map_append]at hin;rcases List.mem_append.1 hin with h|h
     ·exact absurd h hu
     ·simp only[List.map_map,List.mem_map,Function.comp_apply]at h;obtain⟨a,ha,e⟩:=h;exact absurd (e▸ha) hh
  ·rename_i hin;have hh:t∉hav:=fun hh=>hin (by
    rw[List.map_append];refine List.mem_append_right _ ?_;simp only[List.map_map,List.mem_map,Function.comp_apply];exact⟨t,hh,rfl⟩)
   have hgood:=aEJ (fun hb=>hh (hbad t hb))
   obtain⟨pre,e,hpre⟩:=hF;have:Frm.at F' t=Frm.at F t:=by
    rw[e,Frm.mE,if_neg];intro h;simp only[List.mem_map]at h;obtain⟨q,hq,e⟩:=h;exact hh (e▸hpre q hq)
   rw[this];exact Iw _ fun s hs=>(hstay s (jK hgood s hs)).1
 ·intro s ob' hs;rw[dG.look]at hs;cases ho:(tZ L obs).at s with
  |none=>rw[ho]at hs;cases hs
  |some o'=>
   rw[ho]at hs;cases hs;unfold tZ at ho;rw[dG.mE]at ho;split at ho
   ·have:=dG.Of ho;simp only[List.mem_map,Prod.mk.injEq,Option.some.injEq]at this;obtain⟨q,hq,rfl,rfl⟩:=this;have:=hobs q hq;split at this
    ·rename_i o e;obtain⟨ob,g1,g2⟩:=this;try rw[e]
     exact⟨_,by rw[dG.look,g1];rfl,g2⟩
    ·rename_i e;(try rw[e]);exact this
    ·exact this.elim
   ·rename_i hnk;have hnk':mem (Od obs) s=false:=by
     cases hb:mem (Od obs) s with
     |false=>rfl
     |true=>
      exfalso;apply hnk;have:=(mem_iff _ _).1 hb;unfold Od at this;simpa[List.map_map]using this
    have:=jK h5 _ (dG.Of ho);dsimp only at this;rw[hnk',ho]at this;dsimp only at this;split at this
    ·rename_i hst;obtain⟨g1,g2,g3⟩:=hstay s hst;rw[g1];refine⟨o'.ob,?_,Ro _ fun s hs=>(hstay s (jK this s hs)).1⟩
     obtain⟨pre,e⟩:=hL;rw[dG.look,e,dG.mE,if_neg,ho];rfl;intro hin;have h4':=h4;rw[e]at h4';rw[show(pre++L).length-L.length=pre.length by simp,List.take_left]at h4'
     simp only[List.mem_map]at hin;obtain⟨q,hq,e2⟩:=hin;have:=jK h4' q hq;rw[e2,hnk',(jZ _ _).2 g2]at this;cases this
    ·cases this
end Go.Proofs.YtdaeofhdgabhjaaGreat
namespace Go.Proofs.YtdaeofhdgabhjaaGreat
open Go.RowKit
inductive Ann:Type 1
 |mk (Y:Type) (wit:Frm->dG->Option Y) (rk:List Nat) (inv:Y->List Prop) (upd:Y->Frm) (obs:Y->List (Nat×SOb)) (mu:Y->Nat) (inner:Y->List (Nat×Ann))
def aHc:List (Nat×Ann)->Nat->Option Ann
 |[],_=>none
 |(k,a)::l,x=>match Nat.beq x k with|true=>some a|false=>aHc l x
def asg:Code->List Nat
 | .region _ ops _=>ops.toList.filterMap (·.dst)
 | .seq a b=>asg a++asg b
 | .cond _ t e=>asg t++asg e
 | .block _ c=>asg c
 | .loop c=>asg c
 |_=>[]
def Dp:Code->Option Nat
 | .region id _ _=>some id
 | .seq a b=>(match Dp a with|some k=>some k|none=>Dp b)
 | .cond _ t e=>(match Dp t with|some k=>some k|none=>Dp e)
 | .block _ c=>Dp c
 | .loop c=>Dp c
 |_=>none
def aBm(A:List (Nat×Ann))(c:Code)(j:Nat):Option Ann:=match Dp c with
 |some k=>aHc A (k+j)
 |none=>none
def Np(N:Nat):List Nat->Nat
 |[] =>N
 |s::l=>(match Nat.blt s (Np N l)with|true=>Np N l|false=>s+1)
abbrev Bo:=Exit->Frm->dG->Nat->Fm
def aHm(X:Cx)(n:Nat)(raw:Nat->Nat->Bool)(id:Nat)(ops:List Oper)(draw:Bool)(F:Frm)(L:dG)(N:Nat)(K:Frm->dG->Fm):Fm:=match draw with
 |true=>(match X.P.follows .mixedOrders,Wc ops (Tt ops),dOk ops n with
  |true,true,true=>oI X n (raw id) N (ops.map (·.dst)) ops 0 F L [] fun F L log=>(match Dt (Tt ops) log with|true=>K F L|false=> .stuck (id+100000))
  |_,_,_=> .stuck (id+200000))
 |false=>(match gOk ops with
  |true=>oI X n (raw id) N (ops.map (·.dst)) ops 0 F L [] fun F L _=>K F L
  |false=> .stuck (id+300000))
def aA1(n:Nat)(L:dG)(N:Nat)(rk:List Nat)(upd:Frm)(obs:List (Nat×SOb))(qs:List Prop)(F':Frm)(L':dG):Fm:=match Wd n L N (Np N rk) rk upd obs F' L' with
 |some ps=>Do (ps++qs) .tt
 |none=> .stuck 400000
def exq{Y:Type}(w:Option Y)(f:Y->Fm):Fm:=match w with
 |some y=>f y
 |none=> .ex Y f
theorem Bb{Y:Type}{w:Option Y}{f:Y->Fm}(h:(exq w f).holds):∃y,(f y).holds:=by
 cases w with
 |some y=>exact⟨y,h⟩
 |none=>exact h
def aBK(A:List (Nat×Ann))(c:Code):Nat->Option Nat
 |0=>none
 |k+1=>(match aBm A c (30001+k)with|some _=>some (k+1)|none=>aBK A c k)
def unr(body:Bo->Frm->dG->Nat->Fm)(Q:Bo):Nat->Frm->dG->Nat->Fm
 |0,_,_,_=> .stuck 810000
 |k+1,F,L,N=>body (fun e F' L' N'=>match e with| .normal=>unr body Q k F' L' N'|e=>Q e F' L' N') F L N
def vc(X:Cx)(n:Nat)(raw:Nat->Nat->Bool):Code->(Nat->Bool)->List (Nat×Ann)->Bo->Frm->dG->Nat->Fm
 | .skip,_,_,Q,F,L,N=>Q .normal F L N
 | .region id ops draw,_,_,Q,F,L,N=>aHm X n raw id ops.toList draw F L N fun F L=>Q .normal F L (N+ops.size)
 | .seq a b,al,A,Q,F,L,N=>(match aBm A b 10000 with
   |none=>vc X n raw a al A (fun e F L N=>match e with| .normal=>vc X n raw b al A Q F L N|e=>Q e F L N) F L N
   |some (.mk Y wit rk inv upd obs _ inner)=>(match sC al (tR F rk N F)with
    |true=> .both
     (vc X n raw a (mem (asg a)) A (fun e F1 L1 N1=>match e with| .normal=>exq (wit F1 L1) fun y=>aA1 n L N rk (upd y) (obs y) (inv y) F1 L1|e=>Q e F1 L1 N1) F L N)
     (.all Y fun y=>aHv (inv y) (match sC (fun q=>mem (asg a++tR F rk N F) q.1) (upd y)with
       |true=>vc X n raw b al (inner y++A) Q (qK F (upd y) (asg a++tR F rk N F)) (tZ L (obs y)) (Np N rk)
       |false=> .stuck 500000))
    |false=> .stuck 600000))
 | .cond c t e,al,A,Q,F,L,N=>(match Ik n F c with
   | .lit true=>vc X n raw t al A Q F L N
   | .lit false=>vc X n raw e al A Q F L N
   | .prop p _=> .both (.imp p (vc X n raw t al A Q F L N)) (.imp (¬p) (vc X n raw e al A Q F L N))
   | .bool b=> .both (.imp (b=true) (vc X n raw t al A Q F L N)) (.imp (b=false) (vc X n raw e al A Q F L N))
   |_=> .stuck 700000)
 | .block id c,al,A,Q,F,L,N=>vc X n raw c al A (fun e F L N=>match e with| .exit id'=>(match Nat.beq id' id with|true=>Q .normal F L N|false=>Q (.exit id') F L N)|e=>Q e F L N) F L N
 | .loop c,al,A,Q,F,L,N=>(match aBm A c 0 with
   |none=>(match aBK A c 6 with
    |some k=>unr (fun Q F L N=>vc X n raw c al A Q F L N) Q k F L N
    |none=> .stuck 800000)
   |some (.mk Y wit rk inv upd obs mu inner)=>(match sC al (tR F rk N F)with
    |true=> .both
     (exq (wit F L) fun y=>aA1 n L N rk (upd y) (obs y) (inv y) F L)
     (.all Y fun x=>aHv (inv x) (match sC (fun q=>mem (asg c++tR F rk N F) q.1) (upd x)with
       |true=>vc X n raw c (mem (asg c)) (inner x++A) (fun e F1 L1 N1=>match e with| .normal=>exq (wit F1 L1) fun y=>aA1 n L N rk (upd y) (obs y) (inv y++[mu y<mu x]) F1 L1|e=>Q e F1 L1 N1) (qK F (upd x) (asg c++tR F rk N F)) (tZ L (obs x)) (Np N rk)
       |false=> .stuck 500000))
    |false=> .stuck 600000))
 | .exit id,_,_,Q,F,L,N=>Q (.exit id) F L N
 | .ret,_,_,Q,F,L,N=>Q .ret F L N
 |_,_,_,_,_,_,_=> .stuck 900000
theorem pD.mono{n:Nat}{S T:Nat->Prop}{F:Frm}{L:dG}{FA:List AV}{LA:Sto}{G H:Frm->dG->Prop}(hS:∀d,S d->T d)(hG:∀F L,F.ok->G F L->H F L)(h:pD n S F L FA LA G):pD n T F L FA LA H:=by
 obtain⟨F',L',a,b,c,d,e,f⟩:=h;exact⟨F',L',a,b,c,d.mono hS,e,hG F' L' c f⟩
theorem least{p:Nat->Prop}(h:∃k,p k):∃k,p k/\∀j,p j->k<=j:=by
 obtain⟨k,hk⟩:=h;induction k using Nat.strongRecOn with
 |ind k ih=>
  by_cases hh:∃j,j<k/\p j
  ·obtain⟨j,hj,hpj⟩:=hh;exact ih j hj hpj
  ·exact⟨k,hk,fun j hj=>Nat.le_of_not_lt fun hlt=>hh ⟨j,hlt,hj⟩⟩
theorem Kb{F upd:Frm}{hav:List Nat}:Pre (fun d=>d∈upd.map (·.1)\/d∈hav) F (qK F upd hav):=by
 refine⟨upd++(hav.map fun d=>(d,SV.any)),by unfold qK;simp,fun q hq=> ?_⟩
 rcases List.mem_append.1 hq with h|h
 ·exact .inl (List.mem_map.2 ⟨q,h,rfl⟩)
 ·obtain⟨d,hd,rfl⟩:=List.mem_map.1 h;exact .inr hd
theorem Ax{L:dG}{obs:List (Nat×SOb)}:sD L (tZ L obs):=⟨_,rfl⟩
theorem Qf{F upd:Frm}{hav:List Nat}(hF:F.ok)(hu:∀q∈upd,q.2.ok):(qK F upd hav).ok:=by
 intro t;unfold qK;rw[Frm.mE,Frm.mE];split
 ·split
  ·rename_i h;exact hu _ (Of h)
  ·rw[aBT];split<;>trivial
 ·exact hF t
theorem Yd{n:Nat}{F':Frm}:∀{upd:Frm} {ps:List Prop} {r:Rm},Yp n F' upd=some (ps,r)->∀q∈upd,q.2.ok
 |[],ps,r,_,q,hq=>by cases hq
 |(d,v)::upd,ps,r,h,q,hq=>by
  unfold Yp at h;split at h<;>cases h;rename_i p1 m1 p2 m2 h1 h2 h3 h4;rcases List.mem_cons.1 hq with rfl|hq
  ·exact SV.wL h2
  ·exact Yd h4 q hq
theorem Ml{n:Nat}{F F' upd:Frm}{L L':dG}{N N':Nat}{rk:List Nat}{obs:List (Nat×SOb)}{hav:List Nat}{qs:List Prop}(h:(aA1 n L N rk upd obs qs F' L').holds)
  (hF:Pre (fun d=>d∈hav) F F') (hbad:∀d∈tR F rk N F,d∈hav) (hL:sD L L'):
  qX (F'.av n) L'.sto N' ((qK F upd hav).av n) (tZ L obs).sto (Np N rk)/\(∀p∈qs,p)/\∀q∈upd,q.2.ok:=by
 unfold aA1 at h;split at h
 ·rename_i ps hm;have hp:=(mG h).1;refine⟨aAh hm (fun p hpp=>hp p (List.mem_append_left _ hpp)) hF hbad hL,fun p hpp=>hp p (List.mem_append_right _ hpp),?_⟩
  unfold Wd at hm;split at hm
  ·cases hm
  ·rename_i h1;exact Yd h1
 ·exact h.elim
theorem aD4{X:Cx}(hX:X.Ok){n:Nat}{raw:Nat->Nat->Bool}{id:Nat}{ops:Array Oper}{draw:Bool}{F:Frm}{L:dG}{N:Nat}{K:Frm->dG->Fm}(hF:F.ok)(h:(aHm X n raw id ops.toList draw F L N K).holds):
  aHB X.P draw ops.toList (F.av n) L.sto N fun FA LA=>pD n (fun d=>d∈asg (.region id ops draw)) F L FA LA fun F' L'=>(K F' L').holds:=by
 have hd:∀o∈ops.toList,o.dst∈ops.toList.map (·.dst):=fun o ho=>List.mem_map.2 ⟨o,ho,rfl⟩
 have hS:∀d,some d∈ops.toList.map (·.dst)->d∈asg (.region id ops draw):=by
  intro d hd;obtain⟨o,ho,e⟩:=List.mem_map.1 hd;exact List.mem_filterMap.2 ⟨o,ho,e⟩
 unfold aHm at h;split at h
 ·split at h
  ·rename_i h1 h2 h3;refine⟨_,h1,h2,by rw[Frm.lI];exact h3,?_⟩
   refine fC ?_ (Cr hX ops.toList 0 F L [] hd hF h);intro FA LA log ht;have hf:Dt (Tt ops.toList) log=true:=by
    obtain⟨_,_,_,_,_,_,_,hh⟩:=ht;split at hh
    ·assumption
    ·exact hh.elim
   refine⟨hf,ht.mono hS fun F L _ hh=> ?_⟩
   rw[hf]at hh;exact hh
  ·exact h.elim
 ·split at h
  ·rename_i h1;exact⟨h1,fC (fun _ _ _ ht=>ht.mono hS fun _ _ _ h=>h) (Cr hX ops.toList 0 F L [] hd hF h)⟩
  ·exact h.elim
theorem aBX{X:Cx}(hX:X.Ok){n:Nat}{raw:Nat->Nat->Bool}:∀(c:Code) (al:Nat->Bool) (A:List (Nat×Ann)) (Q:Bo) (F:Frm) (L:dG) (N:Nat),(∀d∈asg c,al d=true)->F.ok->(vc X n raw c al A Q F L N).holds->
  awp X.P c (fun e FA LA N'=>pD n (fun d=>al d=true) F L FA LA fun F' L'=>(Q e F' L' N').holds) (F.av n) L.sto N:=by
 intro c;induction c with
 |skip=>intro al A Q F L N hal hF h;exact⟨F,L,rfl,rfl,hF,Pre.rfl,sD.rfl,h⟩
 |region id ops draw=>
  intro al A Q F L N hal hF h;have:=aD4 hX hF h;show aHB _ _ _ _ _ _ _;cases draw with
  |true=>obtain⟨anc,h1,h2,h3,h4⟩:=this;exact⟨anc,h1,h2,h3,fC (fun F L log ⟨a,b⟩=>⟨a,b.mono hal fun _ _ _ h=>h⟩) h4⟩
  |false=>obtain⟨h1,h2⟩:=this;exact⟨h1,fC (fun F L log b=>b.mono hal fun _ _ _ h=>h) h2⟩
 |seq a b iha ihb=>
  intro al A Q F L N hal hF h;have hala:∀d∈asg a,al d=true:=fun d hd=>hal d (List.mem_append_left _ hd)
  have halb:∀d∈asg b,al d=true:=fun d hd=>hal d (List.mem_append_right _ hd)
  unfold vc at h;split at h
  ·have h1:=iha al A _ F L N hala hF h;refine⟨fun FA LA N'=>pD n (fun d=>al d=true) F L FA LA fun F' L'=>(vc X n raw b al A Q F' L' N').holds,nV a ?_ h1,?_⟩
   ·intro e FA LA N' h;cases e<;>exact h
   ·rintro FA LA N' ⟨F',L',rfl,rfl,hF',hpre,hpreL,hh⟩;refine⟨_,_,_,qX.rfl,nV b ?_ (ihb al A Q F' L' N' halb hF' hh)⟩;intro e FA LA N' ht;exact ht.step hpre hpreL
  ·rename_i Y wit rk inv upd obs mu inner hA;split at h
   case h_2=>exact h.elim
   rename_i hbad;have hbad:=jK hbad;obtain⟨h1,h2⟩:=Fm.nK h;have hmem:∀d,mem (asg a) d=true->d∈asg a:=fun d=>(mem_iff d _).1
   have h1:=iha (mem (asg a)) A _ F L N (fun d hd=>(mem_iff _ _).2 hd) hF h1
   refine zS (fun FA LA N'=>∃y,(∀p∈inv y,p)/\(∀q∈upd y,q.2.ok)/\FA=(qK F (upd y) (asg a++tR F rk N F)).av n/\LA=(tZ L (obs y)).sto/\N'=Np N rk) (nV a ?_ h1) ?_
   ·intro e FA LA N' ht;cases e
    case normal=>
     obtain⟨F',L',rfl,rfl,hF',hpre,hpreL,hh⟩:=ht;obtain⟨y,hh⟩:=Bb hh;obtain⟨k1,k2,k3⟩:=Ml (N':=N') (hav:=asg a++tR F rk N F) hh (hpre.mono fun d hd=>List.mem_append_left _ (hmem d hd)) (fun d hd=>List.mem_append_right _ hd) hpreL
     exact⟨_,_,_,k1,y,k2,k3,rfl,rfl,rfl⟩
    all_goals exact ht.mono (fun d hd=>hala d (hmem d hd)) fun _ _ _ h=>h
   ·rintro FA LA N' ⟨y,hy,hok,rfl,rfl,rfl⟩;have h2:=Gt ((h2:∀y:Y,Fm.holds _) y) hy;split at h2
    case h_2=>exact h2.elim
    rename_i hu;have hu:=jK hu;refine nV b ?_ (ihb al (inner y++A) Q _ _ _ halb (Qf hF hok) h2);intro e FA LA N' ht;refine ht.step (Kb.mono ?_) Ax;rintro d (hd|hd)
    ·obtain⟨q,hq,rfl⟩:=List.mem_map.1 hd;rcases List.mem_append.1 ((mem_iff _ _).1 (hu q hq))with hd|hd
     ·exact hala _ hd
     ·exact hbad _ hd
    ·rcases List.mem_append.1 hd with hd|hd
     ·exact hala _ hd
     ·exact hbad _ hd
 |cond c t e iht ihe=>
  intro al A Q F L N hal hF h;have halt:∀d∈asg t,al d=true:=fun d hd=>hal d (List.mem_append_left _ hd)
  have hale:∀d∈asg e,al d=true:=fun d hd=>hal d (List.mem_append_right _ hd)
  unfold vc at h;have ev:∀v,Ik n F c=v->eG (F.av n) c=v.av:=fun v hv=>by rw[<-Qk,hv]
  split at h
  ·rename_i hc;exact⟨true,ev _ hc,fun _=>iht al A Q F L N halt hF h,fun hh=>by cases hh⟩
  ·rename_i hc;exact⟨false,ev _ hc,(fun hh=>by cases hh),fun _=>ihe al A Q F L N hale hF h⟩
  ·rename_i p d hc;obtain⟨h1,h2⟩:=Fm.nK h;refine⟨@decide p d,ev _ hc,fun hh=>iht al A Q F L N halt hF ((h1:p->_) (of_decide_eq_true hh)),fun hh=>ihe al A Q F L N hale hF ((h2:¬p->_) (of_decide_eq_false hh))⟩
  ·rename_i b hc;obtain⟨h1,h2⟩:=Fm.nK h;exact⟨b,ev _ hc,fun hh=>iht al A Q F L N halt hF ((h1:b=true->_) hh),fun hh=>ihe al A Q F L N hale hF ((h2:b=false->_) hh)⟩
  ·exact h.elim
 |block id c ih=>
  intro al A Q F L N hal hF h;unfold vc at h;have:=ih al A _ F L N hal hF h;refine nV c ?_ this;intro e FA LA N' ht;cases e
  case exit id'=>
   dsimp only at ht|-;cases hb:Nat.beq id' id with
   |true=>
    rw[if_pos (Nat.eq_of_beq_eq_true hb)];rw[hb]at ht;exact ht
   |false=>
    rw[if_neg (Nat.ne_of_beq_eq_false hb)];rw[hb]at ht;exact ht
  all_goals exact ht
 |loop c ih=>
  intro al A Q F L N hal hF h;unfold vc at h;split at h
  ·split at h
   case h_2=>exact h.elim
   rename_i k0 _
   let rep:Nat->List AV->Sto->Nat->Prop:=fun k FA LA N'=>pD n (fun d=>al d=true) F L FA LA fun F' L'=>(unr (fun Q F L N=>vc X n raw c al A Q F L N) Q k F' L' N').holds
   have hmu:∃μ:List AV->Sto->Nat->Nat,∀FA LA N',(∃k,rep k FA LA N')->rep (μ FA LA N') FA LA N'/\∀k,rep k FA LA N'->μ FA LA N'<=k:=by
    have:∀FA LA N',∃k,(∃k,rep k FA LA N')->rep k FA LA N'/\∀j,rep j FA LA N'->k<=j:=by
     intro FA LA N';by_cases hh:∃k,rep k FA LA N'
     ·obtain⟨k,h1,h2⟩:=least hh;exact⟨k,fun _=>⟨h1,h2⟩⟩
     ·exact⟨0,fun h=>absurd h hh⟩
    exact⟨fun FA LA N'=>Classical.choose (this FA LA N'),fun FA LA N'=>Classical.choose_spec (this FA LA N')⟩
   obtain⟨μ,hμ⟩:=hmu;refine aAN (fun FA LA N'=>∃k,rep k FA LA N') μ ⟨_,_,_,qX.rfl,k0,⟨F,L,rfl,rfl,hF,Pre.rfl,sD.rfl,h⟩⟩ ?_
   intro FA LA N' hr;have hk:=(hμ FA LA N' hr).1;generalize hkk:μ FA LA N'=k at hk|-;obtain⟨F',L',rfl,rfl,hF',hpre,hpreL,hh⟩:=hk;cases k with
   |zero=>exact hh.elim
   |succ k=>
    refine nV c ?_ (ih al A _ F' L' N' hal hF' hh);intro e FA LA N2 ht;have ht:=ht.step hpre hpreL;cases e
    case normal=>
     have hr2:rep k FA LA N2:=ht;exact⟨_,_,_,qX.rfl,⟨k,hr2⟩,Nat.lt_succ_of_le ((hμ _ _ _ ⟨k,hr2⟩).2 k hr2)⟩
    all_goals exact ht
  rename_i Y wit rk inv upd obs mu inner hA;split at h
  case h_2=>exact h.elim
  rename_i hbad;have hbad:=jK hbad;obtain⟨h1,h2⟩:=Fm.nK h;obtain⟨y0,h1⟩:=Bb h1;have hmem:∀d,mem (asg c) d=true->d∈asg c:=fun d=>(mem_iff d _).1
  let hav:=asg c++tR F rk N F
  let rep:Y->List AV->Sto->Prop:=fun y FA LA=>(∀p∈inv y,p)/\(∀q∈upd y,q.2.ok)/\FA=(qK F (upd y) hav).av n/\LA=(tZ L (obs y)).sto
  obtain⟨k1,k2,k3⟩:=Ml (N':=N) (hav:=hav) h1 Pre.rfl (fun d hd=>List.mem_append_right _ hd) sD.rfl
  have hmu:∃μ:List AV->Sto->Nat,∀FA LA,(∃y,rep y FA LA)->∃y,rep y FA LA/\mu y=μ FA LA/\∀z,rep z FA LA->μ FA LA<=mu z:=by
   have:∀FA LA,∃k,(∃y,rep y FA LA)->∃y,rep y FA LA/\mu y=k/\∀z,rep z FA LA->k<=mu z:=by
    intro FA LA;by_cases hh:∃y,rep y FA LA
    ·obtain⟨y,hy⟩:=hh;obtain⟨k,⟨z,hz,e⟩,hk⟩:=least (p:=fun k=>∃y,rep y FA LA/\mu y=k) ⟨_,y,hy,rfl⟩
     exact⟨k,fun _=>⟨z,hz,e,fun u hu=>hk _ ⟨u,hu,rfl⟩⟩⟩
    ·exact⟨0,fun h=>absurd h hh⟩
   exact⟨fun FA LA=>Classical.choose (this FA LA),fun FA LA=>Classical.choose_spec (this FA LA)⟩
  obtain⟨μ,hμ⟩:=hmu;refine zJ (fun FA LA N'=>(∃y,rep y FA LA)/\N'=Np N rk) μ ⟨_,_,_,k1,⟨y0,k2,k3,rfl,rfl⟩,rfl⟩ ?_
  rintro FA LA N' ⟨hr,rfl⟩;obtain⟨x,⟨hx,hok,rfl,rfl⟩,hmx,_⟩:=hμ FA LA hr;have h2:=Gt ((h2:∀x:Y,Fm.holds _) x) hx;split at h2
  case h_2=>exact h2.elim
  rename_i hu;have hu:=jK hu;have hpre0:Pre (fun d=>d∈hav) F (qK F (upd x) hav):=by
   refine Kb.mono ?_;rintro d (hd|hd)
   ·obtain⟨q,hq,rfl⟩:=List.mem_map.1 hd;exact(mem_iff _ _).1 (hu q hq)
   ·exact hd
  refine nV c ?_ (ih (mem (asg c)) (inner x++A) _ _ _ _ (fun d hd=>(mem_iff _ _).2 hd) (Qf hF hok) h2)
  intro e FA' LA' N' ht;have up:∀(G:Frm->dG->Prop),pD n (fun d=>mem (asg c) d=true) (qK F (upd x) hav) (tZ L (obs x)) FA' LA' G->pD n (fun d=>al d=true) F L FA' LA' G:=by
   intro G ht;refine(ht.mono (fun d hd=>hal d (hmem d hd)) fun _ _ _ h=>h).step (hpre0.mono ?_) Ax
   intro d hd;rcases List.mem_append.1 hd with hd|hd
   ·exact hal d hd
   ·exact hbad _ hd
  cases e
  case normal=>
   obtain⟨F',L',rfl,rfl,hF',hpre,hpreL,hh⟩:=ht;obtain⟨y,hh⟩:=Bb hh;obtain⟨k1,k2,k3⟩:=Ml (N':=N') (hav:=hav) hh (hpre0.trans (hpre.mono fun d hd=>List.mem_append_left _ (hmem d hd))) (fun d hd=>List.mem_append_right _ hd) (Ax.trans hpreL)
   have hry:rep y ((qK F (upd y) hav).av n) (tZ L (obs y)).sto:=⟨fun p h=>k2 p (List.mem_append_left _ h),k3,rfl,rfl⟩
   refine⟨_,_,_,k1,⟨⟨y,hry⟩,rfl⟩,?_⟩;obtain⟨z,_,ez,hz⟩:=hμ _ _ ⟨y,hry⟩;have g1:=hz y hry;have g2:mu y<mu x:=k2 _ (List.mem_append_right _ (List.mem_singleton.2 rfl));omega
  all_goals exact up _ ht
 |exit id=>intro al A Q F L N hal hF h;exact⟨F,L,rfl,rfl,hF,Pre.rfl,sD.rfl,h⟩
 |ret=>intro al A Q F L N hal hF h;exact⟨F,L,rfl,rfl,hF,Pre.rfl,sD.rfl,h⟩
 |rangeFunc f params x y _ _=>intro al A Q F L N hal hF h;exact h.elim
 |scope c _=>intro al A Q F L N hal hF h;exact h.elim
 |label l=>intro al A Q F L N hal hF h;exact h.elim
 |goto l=>intro al A Q F L N hal hF h;exact h.elim
 |refuse s=>intro al A Q F L N hal hF h;exact h.elim
end Go.Proofs.YtdaeofhdgabhjaaGreat
namespace Go.Proofs.YtdaeofhdgabhjaaGreat
open Go.RowKit
def Sl(P:Program)(n:Nat)(F:Frm)(σ:Sg):List ResultVar->Option (List SV)
 |[] =>some []
 | .tmp t::rs=>(match Nat.blt t n,Sl P n F σ rs with|true,some l=>some (F.at t::l)|_,_=>none)
 | .cell a t::rs=>(match Nat.blt a n,F.at a,Sl P n F σ rs with
   |true,.ptr s off,some l=>(match σ s with
    |some (.box _ cs)=>(match xZ P t cs off with|some r=>some (r::l)|none=>none)
    |some (.arr _ _ cs)=>(match xZ P t cs off with|some r=>some (r::l)|none=>none)
    |_=>none)
   |_,_,_=>none)
theorem yJ{P:Program}{n:Nat}{F:Frm}{σ:Sg}:∀{rs:List ResultVar} {l:List SV} {K:List AV->Prop},Sl P n F σ rs=some l->K (avs l)->wF P rs (F.av n) σ.a K
 |[],l,K,h,hK=>by cases h;exact hK
 | .tmp t::rs,l,K,h,hK=>by
   unfold Sl at h;split at h<;>cases h;rename_i l' h1 h2;unfold wF;refine yJ h2 ?_;rw[Frm.vM ((jZ _ _).1 h1)];exact hK
 | .cell a t::rs,l,K,h,hK=>by
   unfold Sl at h;split at h
   case h_2=>cases h
   rename_i s off l' h1 h2 h3;unfold wF;rw[Frm.vM ((jZ _ _).1 h1),h2];show∃ob,Sg.a σ s=some ob/\_;split at h
   ·rename_i ty cs hs;split at h<;>cases h;rename_i r hr;exact⟨_,by unfold Sg.a;rw[hs];rfl,pR hr (yJ h3 hK)⟩
   ·rename_i ty ez cs hs;split at h<;>cases h;rename_i r hr;exact⟨_,by unfold Sg.a;rw[hs];rfl,pR hr (yJ h3 hK)⟩
   ·cases h
def aDP:List SV->SV
 |[x] =>x
 |l=> .tup l
def aDX(P:Program)(n:Nat)(rs:List ResultVar)(r:SV)(F:Frm)(L:dG):Fm:=match Sl P n F L.at rs with
 |some l=>(match wG (qH 3 L.at) l with
  |some (ps,m)=>(match eqv 3 r (aDP m)with
   |some (qs,[])=>Do (ps++qs) .tt
   |_=> .stuck 920000)
  |none=> .stuck 930000)
 |none=> .stuck 940000
def aKM(P:Program)(n:Nat)(rs:List ResultVar)(r:SV):Bo:=fun e F L _=>match e with
 | .normal=>aDX P n rs r F L
 | .ret=>aDX P n rs r F L
 |_=> .stuck 910000
theorem aEo{P:Program}{n:Nat}{rs:List ResultVar}{r:SV}{q:PV}(hr:r.av= .p q){e:Exit}{F:Frm}{L:dG}{N:Nat}(h:(aKM P n rs r e F L N).holds):Sk P rs q e (F.av n) L.sto N:=by
 have key:(aDX P n rs r F L).holds->wF P rs (F.av n) (look L.sto) fun l=>∃m,mY (iU 3 (look L.sto)) l=some m/\Nr m=q:=by
  intro h;unfold aDX at h;split at h
  case h_2=>exact h.elim
  rename_i l hl;split at h
  case h_2=>exact h.elim
  rename_i ps m hm;split at h
  case h_2=>exact h.elim
  rename_i qs he;have hp:=(mG h).1;have e2:Sg.a L.at=look L.sto:=funext fun s=>(dG.look L s).symm
  rw[<-e2];refine yJ hl ?_;obtain⟨u,h1,h2⟩:=Ct (fun x ps y=>Ox) hm (fun p hpp=>hp p (List.mem_append_left _ hpp))
  refine⟨u,h1,?_⟩;have h3:=yO (m:=fun _=>none) 3 r (aDP m) qs [] he (fun p hpp=>hp p (List.mem_append_right _ hpp)) (fun q hq=>by cases hq)
  rw[hr]at h3;unfold fS at h3;have h4:(aDP m).av= .p (Nr u):=by
   cases m with
   |nil=>
    have:u=[] :=by
     have:=congrArg List.length h2;simp[avs]at this;exact List.length_eq_zero_iff.1 (by omega)
    subst this;rfl
   |cons x m=>
    cases m with
    |nil=>
     cases u with
     |nil=>simp[avs]at h2
     |cons y u=>
      have h5:u=[] :=by
       have:=congrArg List.length h2;simp only[avs,List.map_cons,List.length_cons,List.length_nil,List.length_map]at this;exact List.length_eq_zero_iff.1 (by omega)
      subst h5;simp only[avs,List.map_cons,List.map_nil,List.cons.injEq,and_true]at h2;exact h2
    |cons y m=>
     have h5:(aDP (x::y::m)).av=qJ (avs (x::y::m)):=rfl;rw[h5,h2];unfold qJ;rw[dC];cases u with
     |nil=>simp[avs]at h2
     |cons a u=>
      cases u with
      |nil=>simp[avs]at h2
      |cons b u=>rfl
  rw[h4]at h3;cases h3;rfl
 cases e<;>first|exact h.elim|exact key h
structure Ar(α:Type) where
 enc:α->SV
 dec:SV->Option α
 ok:∀s a,dec s=some a->s.av=(enc a).av
 pl:∀a,∃q,(enc a).av= .p q
structure Arl(α:Type) where
 enc:α->List SV
 dec:List SV->Option α
 ok:∀s a,dec s=some a->avs s=avs (enc a)
 pl:∀a,∃q:List PV,avs (enc a)=q.map .p
def a0:Arl Unit:=⟨fun _=>[],fun l=>match l with|[] =>some ()|_=>none,fun s _ h=>(by cases s with|nil=>rfl|cons x l=>cases h),fun _=>⟨[],rfl⟩⟩
def a1{α:Type}(A:Ar α):Arl α:=⟨fun a=>[A.enc a],fun l=>match l with|[x] =>A.dec x|_=>none,fun s a h=>by
  match s,h with
  |[x],h=>simp only[avs,A.ok x a h],
 fun a=>by obtain⟨q,h⟩:=A.pl a;exact⟨[q],by simp only[avs,h,List.map_cons,List.map_nil]⟩⟩
def ac{α β:Type}(A:Ar α)(B:Arl β):Arl (α×β):=⟨fun a=>A.enc a.1::B.enc a.2,fun l=>match l with
  |x::r=>(match A.dec x,B.dec r with|some a,some b=>some (a,b)|_,_=>none)
  |_=>none,fun s a h=>by
  match s,h with
  |x::r,h=>
   dsimp only at h;split at h<;>cases h;rename_i a b h1 h2;simp only[avs,A.ok x a h1,B.ok r b h2],
 fun a=>by
  obtain⟨q,h⟩:=A.pl a.1;obtain⟨r,k⟩:=B.pl a.2;exact⟨q::r,by simp only[avs,h,k,List.map_cons]⟩⟩
def aI:Ar Int:=⟨fun n=> .int .i64 n,fun s=>match s with| .int .i64 n=>some n|_=>none,fun _ _ h=>by
 (split at h<;>cases h;rfl),fun _=>⟨_,rfl⟩⟩
def aN:Ar Nat:=⟨fun n=> .int .i64 (n:Int),fun s=>match s with| .int .i64 (.ofNat n)=>some n|_=>none,fun _ _ h=>by
 (split at h<;>cases h;rfl),fun _=>⟨_,rfl⟩⟩
def aB:Ar Bool:=⟨fun b=> .bool b,Oe,fun _ _ h=>uK h,fun _=>⟨_,rfl⟩⟩
def aV:Ar Geo.V:=⟨fun v=> .agg [.int .i64 v.x,.int .i64 v.y],fun s=>match s with| .agg [.int .i64 x,.int .i64 y] =>some ⟨x,y⟩|_=>none,fun _ _ h=>by
 (split at h<;>cases h;rfl),fun _=>⟨_,rfl⟩⟩
def aS:Ar Geo.S:=⟨fun s=> .agg [.int .i64 s.a.x,.int .i64 s.a.y,.int .i64 s.b.x,.int .i64 s.b.y],fun s=>match s with| .agg [.int .i64 x,.int .i64 y,.int .i64 z,.int .i64 w] =>some ⟨⟨x,y⟩,⟨z,w⟩⟩|_=>none,fun _ _ h=>by
 (split at h<;>cases h;rfl),fun _=>⟨_,rfl⟩⟩
def aT:Ar Geo.Pt:=⟨fun p=> .agg [.int .i64 p.x,.int .i64 p.y,.int .i64 p.den],fun s=>match s with| .agg [.int .i64 x,.int .i64 y,.int .i64 z] =>some ⟨x,y,z⟩|_=>none,fun _ _ h=>by
 (split at h<;>cases h;rfl),fun _=>⟨_,rfl⟩⟩
def Nu(t:LT)(s:SV):Option (List t.ty):=match s with
 | .lst t' l=>(match decEq t' t with| .isTrue h=>some (h▸l)| .isFalse _=>none)
 | .sl 0 [] =>some []
 | .sl n cs=>t.decs n cs
 |_=>none
theorem vI{t:LT}{s:SV}{l:List t.ty}(h:Nu t s=some l):s.av= .p (.sl l.length (t.enc l)):=by
 unfold Nu at h;split at h
 ·rename_i t' l';split at h
  ·rename_i e _;subst e;cases h;rfl
  ·cases h
 ·cases h;rfl
 ·rename_i n cs _;obtain⟨e1,e2⟩:=LT.vK h;show(match cR (avs cs)with|some q=>AV.p (.sl n q)|none=> .any)=_
  rw[e2,dC,e1]
 ·cases h
def aL(t:LT):Ar (List t.ty):=⟨fun l=> .lst t l,Nu t,fun _ _ h=>vI h,fun _=>⟨_,rfl⟩⟩
def shD(s:SV):Option Geo.Shape:=match s with
 | .agg [r,h] =>(match Nu .V r,Nu .R h with|some o,some hs=>some ⟨o,hs⟩|_,_=>none)
 |_=>none
theorem aHQ(s:SV)(a:Geo.Shape)(h:shD s=some a):s.av=(SV.agg [.lst .V a.outer,.lst .R a.holes]).av:=by
 unfold shD at h;split at h
 ·rename_i r h';split at h<;>cases h;rename_i o hs h1 h2;simp only[SV.av,avs,vI h1,vI h2]
 ·cases h
def aSh:Ar Geo.Shape:=⟨fun s=> .agg [.lst .V s.outer,.lst .R s.holes],shD,aHQ,fun _=>⟨_,rfl⟩⟩
def con{α:Type}(A:Arl α)(pre:α->List Prop)(res:α->SV):Con:=⟨α,A.dec,pre,.val false res⟩
def Sq(l:List SV):Nat->Frm
 |k=>match l with
  |[] =>[]
  |x::l=>(k,x)::Sq l (k+1)
def Vw(X:Cx)(raw:Nat->Nat->Bool)(f:Nat)(ann:List (Nat×Ann))(args:List SV)(post:Nat->List ResultVar->Bo):Fm:=match Cg X.P f,X.P.funcs[f]? with
 |true,some fn=>(match fn.body with
  |some c=>(match Nat.ble args.length fn.ntmps,sC (fun v=>match v.ape with|true=>false|false=>true) args with
   |true,true=>vc X fn.ntmps raw c (fun _=>true) ann (post fn.ntmps fn.results.toList) (Sq args 0) [] 0
   |_,_=> .stuck 950000)
  |none=> .stuck 960000)
 |_,_=> .stuck 970000
def aAX(X:Cx)(raw:Nat->Nat->Bool)(f:Nat)(ann:List (Nat×Ann))(args:List SV)(r:SV):Fm:=Vw X raw f ann args fun n rs=>aKM X.P n rs r
theorem Mp:∀(l:List SV) (k t:Nat),(Sq l k).at t=if k<=t then(match l[t-k]? with|some x=>x|none=> .undef)else .undef
 |[],k,t=>by simp[Sq,Frm.at]
 |x::l,k,t=>by
  unfold Sq;rw[Frm.nP,Mp l (k+1) t];by_cases h:t=k
  ·subst h;simp
  ·rw[if_neg h];by_cases h2:k<=t
   ·rw[if_pos h2,if_pos (by omega)]
    rw[show t-k=(t-(k+1))+1 by omega]
    simp
   ·rw[if_neg h2,if_neg (by omega)]
theorem aE5{l:List SV}{A:List PV}{n:Nat}(h:avs l=A.map .p)(hn:l.length<=n):(Sq l 0).av n=A.map .p++List.replicate (n-A.length) .undef:=by
 have hl:l.length=A.length:=by have:=congrArg List.length h;simpa[fY]using this
 apply List.ext_getElem?;intro i;unfold Frm.av;rw[List.getElem?_map];by_cases hi:i<n
 ·rw[List.getElem?_range hi,Option.map_some,Mp,if_pos (Nat.zero_le _),Nat.sub_zero];by_cases h2:i<A.length
  ·rw[List.getElem?_append_left (by simpa using h2),<-h,Dd]
   rw[List.getElem?_eq_getElem (by omega)];rfl
  ·rw[List.getElem?_append_right (by simp;omega),List.getElem?_replicate,if_pos (by simp;omega),List.getElem?_eq_none (by omega)];rfl
 ·rw[List.getElem?_eq_none (by simp;omega),List.getElem?_eq_none (by simp;omega)];rfl
theorem Oi{X:Cx}(hX:X.Ok){raw:Nat->Nat->Bool}{f:Nat}{ann:List (Nat×Ann)}{args:List SV}{post:Nat->List ResultVar->Bo}{A:List PV}{Q:List ResultVar->yD}(hA:avs args=A.map .p)
  (hQ:∀n rs e (F:Frm) (L:dG) N,(post n rs e F L N).holds->Q rs e (F.av n) L.sto N) (h:(Vw X raw f ann args post).holds):
  Cg X.P f=true/\∃fn c,X.P.funcs[f]? =some fn/\fn.body=some c/\awp X.P c (Q fn.results.toList) (A.map .p++List.replicate (fn.ntmps-A.length) .undef) [] 0:=by
 unfold Vw at h;split at h
 case h_2=>exact h.elim
 rename_i fn hok hf;split at h
 case h_2=>exact h.elim
 rename_i c hb;split at h
 case h_2=>exact h.elim
 rename_i hn hpe;have hpe:=jK hpe;have hn:=Nat.le_of_ble_eq_true hn;refine⟨hok,fn,c,hf,hb,?_⟩;rw[<-aE5 hA hn];have hF:(Sq args 0).ok:=by
  intro t;rw[Mp,if_pos (Nat.zero_le _)];split
  ·rename_i x hx;have:=hpe x (List.mem_of_getElem? hx);refine SV.wL ?_;cases hh:x.ape with
   |true=>rw[hh]at this;cases this
   |false=>rfl
  ·trivial
 refine nV c ?_ (aBX hX c (fun _=>true) ann _ _ [] 0 (fun _ _=>rfl) hF h)
 rintro e FA LA N' ⟨F',L',rfl,rfl,_,_,_,hh⟩;exact hQ _ _ _ _ _ _ hh
theorem aBV{X:Cx}(hX:X.Ok){raw:Nat->Nat->Bool}{f:Nat}{ann:List (Nat×Ann)}{args:List SV}{r:SV}{A:List PV}{q:PV}(hA:avs args=A.map .p)(hq:r.av= .p q)(h:(aAX X raw f ann args r).holds):Sat X.P false f A q:=by
 obtain⟨hok,fn,c,hf,hb,hw⟩:=Oi hX (Q:=fun rs=>Sk X.P rs q) hA (fun n rs e F L N hh=>aEo hq hh) h
 exact xC hok hf hb hw
def aDY(P:Program)(n:Nat)(rs:List ResultVar)(ty:Nat)(t:LT)(l:List t.ty)(ys:List SV)(F:Frm)(L:dG):Fm:=match Sl P n F L.at rs with
 |some (v::r)=>(match Hs (eqv 3) ys r with
  |some (qs,[])=>(match v with
   | .nil=>Do ((l=[])::qs) .tt
   | .own s _ k=>(match L.at s with
     |some (.row ty' t' l')=>(match Nat.beq ty' ty,decEq t' t with
      |true,.isTrue h=>Do ([(h▸l':List t.ty)=l,k=l'.length] ++qs) .tt
      |_,_=> .stuck 980001)
     |_=> .stuck 980002)
   |_=> .stuck 980003)
  |_=> .stuck 980004)
 |_=> .stuck 980005
def aG3(P:Program)(ty:Nat)(t:LT)(l:List t.ty)(ys:List SV)(n:Nat)(rs:List ResultVar):Bo:=fun e F L _=>match e with
 | .normal=>aDY P n rs ty t l ys F L
 | .ret=>aDY P n rs ty t l ys F L
 |_=> .stuck 910000
theorem Pi{m:Rf}:∀{q:List PV} {r:List AV},fZ m (q.map .p) r->r=q.map .p
 |[],r,h=>by rw[List.map_nil]at h;unfold fZ at h;exact h
 |x::q,r,h=>by
  rw[List.map_cons]at h;unfold fZ at h;obtain⟨y,r',rfl,h1,h2⟩:=h;unfold fS at h1;rw[h1,Pi h2];rfl
theorem aCj{P:Program}{n:Nat}{rs:List ResultVar}{ty:Nat}{t:LT}{l:List t.ty}{ys:List SV}{Y:List PV}(hY:avs ys=Y.map .p){e:Exit}{F:Frm}{L:dG}{N:Nat}(h:(aG3 P ty t l ys n rs e F L N).holds):aHr P rs ty t.w (t.enc l) l.length Y e (F.av n) L.sto N:=by
 have key:(aDY P n rs ty t l ys F L).holds->wF P rs (F.av n) (look L.sto) fun lA=>(∃s,lA= .own s 0 l.length::Y.map .p/\look L.sto s=some ⟨ty,t.w,(t.enc l).map .p⟩)\/(lA= .nil::Y.map .p/\l.length=0/\t.enc l=[]):=by
  intro h;unfold aDY at h;split at h
  case h_2=>exact h.elim
  rename_i v r hl;split at h
  case h_2=>exact h.elim
  rename_i qs he;have e2:Sg.a L.at=look L.sto:=funext fun s=>(dG.look L s).symm
  have hr:(∀p∈qs,p)->avs r=Y.map .p:=fun hp=>by
   have:=nU (m:=fun _=>none) (yO 3) he hp (fun q hq=>by cases hq)
   rw[hY]at this;exact Pi this
  rw[<-e2];refine yJ hl ?_;split at h
  ·have hp:=(mG h).1;have hl0:l=[] :=hp _ List.mem_cons_self;subst hl0;refine .inr ⟨?_,rfl,rfl⟩;show AV.nil::avs r=_;rw[hr fun p hpp=>hp p (List.mem_cons_of_mem _ hpp)]
  ·rename_i s t2 k;split at h
   case h_2=>exact h.elim
   rename_i ty' t' l' hs;split at h
   case h_2=>exact h.elim
   rename_i h2 hty _;subst h2;have hp:=(mG h).1;have h3:l'=l:=hp _ (List.mem_append_left _ List.mem_cons_self);have h4:k=l'.length:=hp _ (List.mem_append_left _ (List.mem_cons_of_mem _ List.mem_cons_self));subst h3;refine .inl ⟨s,?_,?_⟩
   ·show AV.own s 0 k::avs r=_;rw[hr fun p hpp=>hp p (List.mem_append_right _ hpp),h4]
   ·unfold Sg.a;rw[hs,<-Nat.eq_of_beq_eq_true hty];rfl
  ·exact h.elim
 cases e<;>first|exact h.elim|exact key h
def aKR{α:Type}(A:Arl α)(pre:α->List Prop)(ty:Nat)(t:LT)(l:α->List t.ty)(ys:α->List SV):Con:=⟨α,A.dec,pre,.own ty t l ys⟩
theorem aEQ{X:Cx}(hX:X.Ok){raw:Nat->Nat->Bool}{f:Nat}{α:Type}{A:Arl α}{pre:α->List Prop}{ty:Nat}{t:LT}{l:α->List t.ty}{ys:α->List SV}(ann:α->List (Nat×Ann))(hr:∀x,∃q:List PV,avs (ys x)=q.map .p)
  (h:∀x,Nw (pre x)->(Vw X raw f (ann x) (A.enc x) (aG3 X.P ty t (l x) (ys x))).holds):(aKR A pre ty t l ys).Ok X.P f:=by
 intro s x hd hp;obtain⟨B,hB⟩:=A.pl x;obtain⟨q,hq⟩:=hr x;obtain⟨hok,fn,c,hf,hb,hw⟩:=Oi hX (Q:=fun rs=>aHr X.P rs ty t.w (t.enc (l x)) (l x).length q) hB (fun n rs e F L N hh=>aCj hq hh) (h x (fB.2 hp))
 exact⟨B,q,by rw[A.ok s x hd,hB],hq,Rh hok (Nat.ne_of_gt t.aA4) hf hb hw⟩
theorem aR{X:Cx}(hX:X.Ok){raw:Nat->Nat->Bool}{f:Nat}{α:Type}{A:Arl α}{pre:α->List Prop}{res:α->SV}(ann:α->List (Nat×Ann))(hr:∀x,∃q,(res x).av= .p q)(h:∀x,Nw (pre x)->(aAX X raw f (ann x) (A.enc x) (res x)).holds):(con A pre res).Ok X.P f:=by
 intro s x hd hp;obtain⟨B,hB⟩:=A.pl x;obtain⟨q,hq⟩:=hr x;exact⟨B,q,by rw[A.ok s x hd,hB],hq,aBV hX hB hq (h x (fB.2 hp))⟩
def bT:Nat->Nat->Bool:=fun _ _=>false
theorem bP{p q:Prop}(h:p=q)(hq:q):p:=h▸hq
def cK:List (Nat×Con)->Tab->Tab
 |[],T,f=>T f
 |(k,c)::l,T,f=>match Nat.beq f k with|true=>some c|false=>cK l T f
def aHl(P:Program):List (Nat×Con)->Prop
 |[] =>True
 |q::l=>q.2.Ok P q.1/\aHl P l
theorem aH{P:Program}{T:Tab}(hT:T.Ok P):∀{l:List (Nat×Con)},aHl P l->(cK l T).Ok P
 |[],_=>hT
 |(k,c)::l,h=>by
  intro f d hd;unfold cK at hd;split at hd
  ·rename_i e;cases hd;rw[Nat.eq_of_beq_eq_true e];exact h.1
  ·exact aH hT h.2 f d hd
def aHn:Tab:=fun _=>none
theorem aD7{P:Program}:aHn.Ok P:=fun _ _ h=>by cases h
end Go.Proofs.YtdaeofhdgabhjaaGreat
namespace Go.Proofs.YtdaeofhdgabhjaaGreat
open Go.RowKit
set_option maxRecDepth 100000 in
theorem aMo(N:Nat)(a b c d:Int)(w:World):Sem.run Tryz.prog (Op.equalIn (N+1+1) 44 (.agg #[.int .i64 a,.int .i64 b]) (.agg #[.int .i64 c,.int .i64 d])) w= .ok (a==c&&b==d) w:=by
 have u3:=Tryz.underlying3;have a3:=Tryz.isAgg3;have z3:=Tryz.sizeOf3;have hS:Tryz.prog.underlying 44=some (.struct (Tryz.prog.fieldsOf 44)):=by kernel_rfl
 have hp:Tryz.prog.stoodInHeld 44=false:=by kernel_rfl
 rw[run_equalIn_agg w (N+1) 44 _ _ hS hp];simp only[Program.fieldsOf,Tryz.underlying44]
 go_simp
 by_cases h1:a=c<;>by_cases h2:b=d<;>simp[h1,h2]
set_option maxRecDepth 100000 in
theorem aMp(a b c d a' b' c' d':Int)(w:World)(N:Nat):Sem.run Tryz.prog (Op.equalIn (N+1+1+1) 46 (.agg #[.int .i64 a,.int .i64 b,.int .i64 c,.int .i64 d]) (.agg #[.int .i64 a',.int .i64 b',.int .i64 c',.int .i64 d'])) w= .ok ((a==a'&&b==b')&&(c==c'&&d==d')) w:=by
 have hS6:Tryz.prog.underlying 46=some (.struct (Tryz.prog.fieldsOf 46)):=by kernel_rfl
 have hp6:Tryz.prog.stoodInHeld 46=false:=by kernel_rfl
 rw[run_equalIn_agg w (N+1+1) 46 _ _ hS6 hp6];unfold Program.fieldsOf;rw[Tryz.underlying46];dsimp only;have a44:=Tryz.isAgg44;have z44:=Tryz.sizeOf44;have p1:∀a b c d:Int,(part 44 #[Value.int .i64 a,Value.int .i64 b,Value.int .i64 c,Value.int .i64 d] 0).run Tryz.prog w= .ok (.agg #[.int .i64 a,.int .i64 b]) w:=by
  intro a b c d;simp[part,a44,z44]
 have p2:∀a b c d:Int,(part 44 #[Value.int .i64 a,Value.int .i64 b,Value.int .i64 c,Value.int .i64 d] 2).run Tryz.prog w= .ok (.agg #[.int .i64 c,.int .i64 d]) w:=by
  intro a b c d;simp[part,a44,z44]
 have hE:=aMo N;generalize N+1+1=M at hE|-;unfold Op.eqFields;unfold Op.eqFields;unfold Op.eqFields;rw[if_pos (by decide)]
 simp only[Sem.run_bind,p1,Result.andThen_ok,hE];cases h1:(a==a')<;>cases h2:(b==b')<;>simp[hE,p2,Sem.run_bind,Result.andThen_ok];by_cases h3:c=c'<;>by_cases h4:d=d'<;>simp[h3,h4]
set_option maxRecDepth 100000 in
theorem aCT:Dz Tryz.prog 46 4:=by
 intro xs ys x y w hx hy;match xs,ys,hx,hy with
 |[a,b,c,d],[a',b',c',d'],_,_=>
  have h1:=aMp a b c d a' b' c' d' w 9997;rw[show 9997+1+1+1=10000 from rfl]at h1
  have e:(([a,b,c,d] :List Int)==[a',b',c',d'])=((a==a'&&b==b')&&(c==c'&&d==d')):=by
   rw[Bool.eq_iff_iff];simp[and_assoc]
  refine⟨?_,?_⟩
  ·simp only[List.map_cons,List.map_nil];rw[e];simp only[eqGuard,Sem.run_bind];simp[Result.andThen];rw[run_eql_struct,h1];simp[Result.andThen]
  ·simp only[List.map_cons,List.map_nil];unfold bne;rw[e];simp[eqGuard];rw[run_neq_struct,h1];simp[Result.andThen]
def ltL:List (Nat×LT)->Nat->Option LT
 |[],_=>none
 |(k,x)::l,t=>match Nat.beq t k with|true=>some x|false=>ltL l t
noncomputable def cx(T:Tab):Cx:=⟨Tryz.prog,T,ltL [(44,.V),(46,.S),(23,.R),(67,.P),(3,.I),(2,.I),(1,.I),(4,.B)],[(44,2),(46,4)]⟩
theorem bO{T:Tab}(h:T.Ok Tryz.prog):(cx T).Ok:=⟨h,fun t m hm=>by
 have hm:(t,m)∈[(44,2),(46,4)] :=hm;rcases List.mem_cons.1 hm with h|h
 ·cases h;exact aCU
 ·rw[List.mem_singleton]at h;cases h;exact aCT⟩
def qI(F:Frm)(d:Nat):Option Nat:=match F.at d with
 | .int _ v=>some v.toNat
 |_=>none
def aHa(F:Frm)(d:Nat):Option Int:=match F.at d with
 | .int _ v=>some v
 |_=>none
def aHu(F:Frm)(d e:Nat):Option (Int×Int):=match aHa F d,aHa F e with
 |some x,some y=>some (x,y)
 |_,_=>none
def lp(key d n:Nat)(I:Nat->List Prop)(rk:List Nat)(upd:Nat->Frm)(obs:Nat->List (Nat×SOb))(inner:Nat->List (Nat×Ann):=fun _=>[]):Nat×Ann:=
 (key,.mk Nat (fun F _=>qI F d) rk (fun k=>(k<=n)::I k) (fun k=>(d,.int .i64 (k:Int))::upd k) obs (fun k=>n-k) inner)
def cnt(key d n:Nat)(I:Nat->Prop)(inner:Nat->List (Nat×Ann):=fun _=>[]):Nat×Ann:=lp key d n (fun k=>[I k]) [] (fun _=>[]) (fun _=>[]) inner
def jb(key d:Nat)(b:Bool):Nat×Ann:=(key+10000,.mk Unit (fun _ _=>some ()) [] (fun _=>[]) (fun _=>[(d,.bool b)]) (fun _=>[]) (fun _=>0) (fun _=>[]))
def jP(key:Nat)(I:List Prop):Nat×Ann:=(key+10000,.mk Unit (fun _ _=>some ()) [] (fun _=>I) (fun _=>[]) (fun _=>[]) (fun _=>0) (fun _=>[]))
def jU(key:Nat)(u:Frm):Nat×Ann:=(key+10000,.mk Unit (fun _ _=>some ()) [] (fun _=>[]) (fun _=>u) (fun _=>[]) (fun _=>0) (fun _=>[]))
def jN(key d:Nat)(I:Nat->List Prop)(inner:Nat->List (Nat×Ann):=fun _=>[]):Nat×Ann:=(key+10000,.mk Nat (fun F _=>qI F d) [] I (fun k=>[(d,.int .i64 (k:Int))]) (fun _=>[]) (fun _=>0) inner)
def lU(key k:Nat):Nat×Ann:=(key+30000+k,.mk Unit (fun _ _=>none) [] (fun _=>[]) (fun _=>[]) (fun _=>[]) (fun _=>0) (fun _=>[]))
def bH(q:Nat->Prop)(k:Nat):Prop:=∀j,j<k->q j
theorem nb{b:Bool}(h:(!b)=false):b=true:=by cases b<;>simp_all
theorem nb'{b:Bool}(h:(!b)=true):b=false:=by cases b<;>simp_all
theorem bG(q:Nat->Prop):bH q 0:=fun j h=>absurd h (Nat.not_lt_zero j)
theorem aA{q:Nat->Prop}{k:Nat}(h:bH q k)(hk:q k):bH q (k+1):=fun j hj=>by
 rcases Nat.lt_or_ge j k with h1|h1
 ·exact h j h1
 ·rw[show j=k by omega];exact hk
theorem aFU:aHn.Ok Tryz.prog:=aD7
end Go.Proofs.YtdaeofhdgabhjaaGreat
namespace Go.Proofs.YtdaeofhdgabhjaaGreat
open Go.RowKit
set_option maxRecDepth 100000
noncomputable section
open Geo (nth)
theorem iF{x y A B:Int}(hx: -A<=x/\x<=A)(hy: -B<=y/\y<=B): -(A*B)<=x*y/\x*y<=A*B:=by
 have h1:0<=(A-x)*(B-y):=Int.mul_nonneg (by omega) (by omega)
 have h2:0<=(A+x)*(B+y):=Int.mul_nonneg (by omega) (by omega)
 have h3:0<=(A-x)*(B+y):=Int.mul_nonneg (by omega) (by omega)
 have h4:0<=(A+x)*(B-y):=Int.mul_nonneg (by omega) (by omega)
 constructor<;>grind
def bd(M:Int)(v:Geo.V):Prop:=(-M<=v.x/\v.x<=M)/\ -M<=v.y/\v.y<=M
theorem rJ{m M:Int}{v:Geo.V}(h:Geo.aJ v m=true)(hm:m<=M:=by decide):bd M v:=by
 unfold Geo.aJ at h;unfold bd;simp only[Bool.and_eq_true,decide_eq_true_eq]at h;omega
theorem bd.mono{m M:Int}{v:Geo.V}(h:bd m v)(hm:m<=M:=by decide):bd M v:=by unfold bd at*;omega
theorem mR{M:Int}{a b:Geo.V}(ha:bd M a)(hb:bd M b):(-(M*M)<=a.x*b.y/\a.x*b.y<=M*M)/\ -(M*M)<=a.y*b.x/\a.y*b.x<=M*M:=⟨iF ha.1 hb.2,iF ha.2 hb.1⟩
theorem jR{m:Int}{a b:Geo.V}(ha:bd m a)(hb:bd m b):bd (m+m) (Geo.sub a b):=by unfold bd Geo.sub at*;dsimp only;omega
theorem aHR(n:Int): -1<=Geo.sgn n/\Geo.sgn n<=1:=by unfold Geo.sgn;grind
theorem eC{x:Int}(h: -9000000000000000000<=x/\x<=9000000000000000000):aE x:=by unfold aE;omega
def aLx:Con:=con (ac aV (a1 aV)) (fun(_,_)=>[]) (fun(a,b)=> .bool (Geo.bX a b)
 )
theorem aNt:aLx.Ok Tryz.prog 149:=aR (bO aFU) (raw:=bT) (fun(_,_)=>[]) (fun(_,_)=>⟨_,rfl⟩) fun(a,b) _=>bP (q:=(a.y<b.y->true=Geo.bX a b)/\
 (¬a.y<b.y->(a.y=b.y->decide (a.x<b.x)=Geo.bX a b)/\
  (¬a.y=b.y->false=Geo.bX a b))) (by kernel_rfl) (by
  unfold Geo.bX;grind)
def aKi:Tab:=cK [(149,aLx)] aHn
theorem aGC:aKi.Ok Tryz.prog:=aH aFU ⟨aNt,trivial⟩
def c80:Con:=con (a1 aI) (fun _=>[]) (fun n=> .int .i64 (Geo.sgn n)
 )
theorem k80:c80.Ok Tryz.prog 80:=aR (bO aGC) (raw:=bT) (fun _=>[]) (fun _=>⟨_,rfl⟩) fun n _=>bP (q:=(0<n->1=Geo.sgn n)/\
 (¬0<n->(n<0-> -1=Geo.sgn n)/\
  (¬n<0->0=Geo.sgn n))) (by kernel_rfl) (by
  unfold Geo.sgn;grind)
def t80:Tab:=cK [(80,c80)] aKi
theorem aMx:t80.Ok Tryz.prog:=aH aGC ⟨k80,trivial⟩
def t79:Tab:=t80
theorem aI8:t79.Ok Tryz.prog:=aMx
def c35:Con:=con (ac aV (a1 aI)) (fun(_,m)=>[0<=m,m<=1000000000000]) (fun(a,m)=> .bool (Geo.aJ a m)
 )
theorem k35:c35.Ok Tryz.prog 35:=aR (bO aI8) (raw:=bT) (fun(_,_)=>[]) (fun(_,_)=>⟨_,rfl⟩) fun(a,m) hp=>bP (q:=aE (0-m)/\(0-m<=a.x->(a.x<=m->aE (0-m)/\(0-m<=a.y->decide (a.y<=m)=Geo.aJ a m)/\
   (¬0-m<=a.y->false=Geo.aJ a m))/\
  (¬a.x<=m->false=Geo.aJ a m))/\
 (¬0-m<=a.x->false=Geo.aJ a m)) (by kernel_rfl) (by
  change 0<=m/\m<=1000000000000 at hp;unfold Geo.aJ;have:= @aE;grind[aE])
def t35:Tab:=cK [(35,c35)] t79
theorem aJp:t35.Ok Tryz.prog:=aH aI8 ⟨k35,trivial⟩
def c98:Con:=con (a1 aS) (fun _=>[]) (fun s=> .bool (Geo.aK s)
 )
theorem k98:c98.Ok Tryz.prog 98:=aR (bO aJp) (raw:=bT) (fun _=>[]) (fun _=>⟨_,rfl⟩) fun s _=>bP (q:=(0:Int)<=4000/\(4000:Int)<=1000000000000/\(Geo.aJ s.a 4000=true->(0:Int)<=4000/\(4000:Int)<=1000000000000/\Geo.aJ s.b 4000=Geo.aK s)/\
 (Geo.aJ s.a 4000=false->false=Geo.aK s)) (by kernel_rfl) (by
  unfold Geo.aK;grind)
def t98:Tab:=cK [(98,c98)] t35
theorem aIW:t98.Ok Tryz.prog:=aH aJp ⟨k98,trivial⟩
def aLT:Con:=con (a1 aV) (fun _=>[]) (fun v=>(aT).enc (Geo.iD v)
 )
theorem aNP:aLT.Ok Tryz.prog 104:=aR (bO aIW) (raw:=bT) (fun _=>[]) (fun _=>⟨_,rfl⟩) fun v _=>bP (q:=v.x=(Geo.iD v).x/\v.y=(Geo.iD v).y/\1=(Geo.iD v).den) (by kernel_rfl) (by
 exact⟨rfl,rfl,rfl⟩)
def aKF:Tab:=cK [(104,aLT)] t98
theorem aGY:aKF.Ok Tryz.prog:=aH aIW ⟨aNP,trivial⟩
def aLC:Con:=con (ac aV (a1 aV)) (fun(a,b)=>[bd 2000000000 a,bd 2000000000 b]) (fun(a,b)=> .int .i64 (Geo.cross a b)
 )
theorem aNy:aLC.Ok Tryz.prog 144:=aR (bO aGY) (raw:=bT) (fun(_,_)=>[]) (fun(_,_)=>⟨_,rfl⟩) fun(a,b) hp=>bP (q:=aE (a.x*b.y)/\aE (a.y*b.x)/\aE (a.x*b.y-a.y*b.x)/\a.x*b.y-a.y*b.x=Geo.cross a b) (by kernel_rfl) (by
 change bd 2000000000 a/\bd 2000000000 b at hp;have:=mR hp.1 hp.2;exact⟨eC (by omega),eC (by omega),eC (by omega),rfl⟩)
def aKn:Tab:=cK [(144,aLC)] aKF
theorem aGG:aKn.Ok Tryz.prog:=aH aGY ⟨aNy,trivial⟩
def aLB:Con:=con (ac aV (a1 aV)) (fun(a,b)=>[bd 1000000000 a,bd 1000000000 b]) (fun(a,b)=>aV.enc (Geo.sub a b)
 )
theorem aNx:aLB.Ok Tryz.prog 145:=aR (bO aGG) (raw:=bT) (fun(_,_)=>[]) (fun(_,_)=>⟨_,rfl⟩) fun(a,b) hp=>bP (q:=aE (a.x-b.x)/\aE (a.y-b.y)/\a.x-b.x=(Geo.sub a b).x/\a.y-b.y=(Geo.sub a b).y) (by kernel_rfl) (by
 change bd 1000000000 a/\bd 1000000000 b at hp;unfold bd at hp;exact⟨eC (by omega),eC (by omega),rfl,rfl⟩)
def aKm:Tab:=cK [(145,aLB)] aKn
theorem aGF:aKm.Ok Tryz.prog:=aH aGG ⟨aNx,trivial⟩
theorem tU{s:Geo.S}(h:(!Geo.aK s)=false){M:Int}(hM:4000<=M:=by decide):bd M s.a/\bd M s.b:=by
 unfold Geo.aK at h;simp only[Bool.not_eq_false',Bool.and_eq_true]at h;exact⟨rJ h.1 hM,rJ h.2 hM⟩
theorem aBI{s:Geo.S}{p:Geo.V}{M:Int}(h1:bd M s.a/\bd M s.b)(h:Geo.gJ s p=true):bd M p:=by
 unfold Geo.gJ at h;unfold bd at*;simp only[Bool.and_eq_true,decide_eq_true_eq]at h;omega
theorem yY(s:Geo.S)(p:Geo.V): -1<=Geo.jH s p/\Geo.jH s p<=1:=by
 unfold Geo.jH Geo.turn;split
 ·omega
 ·exact aHR _
def c70:Con:=con (ac aV (ac aV (a1 aV))) (fun(a,b,c)=>[bd 1000000000 a,bd 1000000000 b,bd 1000000000 c]) (fun(a,b,c)=> .int .i64 (Geo.turn a b c)
 )
theorem k70:c70.Ok Tryz.prog 70:=aR (bO aGF) (raw:=bT) (fun(_,_,_)=>[]) (fun(_,_,_)=>⟨_,rfl⟩) fun(a,b,c) hp=>bP (q:=bd 1000000000 b/\bd 1000000000 a/\bd 1000000000 c/\bd 1000000000 a/\bd 2000000000 (Geo.sub b a)/\bd 2000000000 (Geo.sub c a)/\Geo.sgn (Geo.cross (Geo.sub b a) (Geo.sub c a))=Geo.turn a b c) (by kernel_rfl) (by
 change bd 1000000000 a/\bd 1000000000 b/\bd 1000000000 c at hp;exact⟨hp.2.1,hp.1,hp.2.2,hp.1,jR hp.2.1 hp.1,jR hp.2.2 hp.1,rfl⟩)
def t70:Tab:=cK [(70,c70)] aKm
theorem aJd:t70.Ok Tryz.prog:=aH aGF ⟨k70,trivial⟩
def aLX:Con:=con (ac aS (a1 aV)) (fun(_,_)=>[]) (fun(s,p)=> .int .i64 (Geo.jH s p)
 )
theorem aNT:aLX.Ok Tryz.prog 100:=aR (bO aJd) (raw:=bT) (fun(_,_)=>[]) (fun(_,_)=>⟨_,rfl⟩) fun(s,p) _=>bP (q:=((!Geo.aK s)=true->0=Geo.jH s p)/\
 ((!Geo.aK s)=false->(0:Int)<=4000/\(4000:Int)<=1000000000000/\((!Geo.aJ p 4000)=true->0=Geo.jH s p)/\
  ((!Geo.aJ p 4000)=false->bd 1000000000 s.a/\bd 1000000000 s.b/\bd 1000000000 p/\Geo.turn s.a s.b p=Geo.jH s p))) (by kernel_rfl) (by
  unfold Geo.jH;refine⟨fun h=>by rw[h];rfl,fun h=>⟨by decide,by decide,fun h2=>by rw[h,h2];rfl,fun h2=>⟨(tU h).1,(tU h).2,rJ (by simpa using h2),by rw[h,h2];rfl⟩⟩⟩)
def aKJ:Tab:=cK [(100,aLX)] t70
theorem aG2:aKJ.Ok Tryz.prog:=aH aJd ⟨aNT,trivial⟩
def aLl:Con:=con (ac aS (a1 aV)) (fun(_,_)=>[]) (fun(s,p)=> .bool (Geo.onS s p))
theorem aNh:aLl.Ok Tryz.prog 163:=aR (bO aG2) (raw:=bT) (fun(s,p)=>[jb 4 5 (Geo.gJ s p)]
  ) (fun(_,_)=>⟨_,rfl⟩) fun(s,p) _=>bP (q:=((!Geo.aK s)=true->false=Geo.onS s p)/\
 ((!Geo.aK s)=false->((Min.min s.a.x s.b.x<=p.x->(p.x<=Max.max s.a.x s.b.x->(Min.min s.a.y s.b.y<=p.y->decide (p.y<=Max.max s.a.y s.b.y)=Geo.gJ s p)/\
     (¬Min.min s.a.y s.b.y<=p.y->false=Geo.gJ s p))/\
    (¬p.x<=Max.max s.a.x s.b.x->false=Geo.gJ s p))/\
   (¬Min.min s.a.x s.b.x<=p.x->false=Geo.gJ s p))/\
  (∀y:Unit,(Geo.gJ s p=true->bd 1000000000 s.a/\bd 1000000000 s.b/\bd 1000000000 p/\decide (Geo.turn s.a s.b p=0)=Geo.onS s p)/\
   (Geo.gJ s p=false->false=Geo.onS s p)))) (by kernel_rfl) (by
  refine⟨fun h=>by unfold Geo.onS;simp at h;simp[h],fun h=>⟨by unfold Geo.gJ;grind,fun _=>⟨fun h2=>⟨(tU h).1,(tU h).2,aBI (tU h) h2,by unfold Geo.onS;simp at h;rw[h,h2];grind⟩,fun h2=>by unfold Geo.onS;rw[h2];simp⟩⟩⟩)
def aJ4:Tab:=cK [(163,aLl)] aKJ
theorem aGo:aJ4.Ok Tryz.prog:=aH aG2 ⟨aNh,trivial⟩
def so(l:List Geo.V)(k:Nat):List Geo.V:=Geo.kT (l.take k)
def qso(l:List Geo.V)(k j:Nat):Prop:=Geo.bX (nth (so l k) j) (nth l k)=true
def cm(s t:Geo.S)(k:Nat):List Geo.V:=([s.a,s.b,t.a,t.b].take k).filter fun p=>Geo.onS s p&&Geo.onS t p
theorem Ls{l:List Geo.V}{k:Nat}(h:k<l.length):so l (k+1)=Geo.tM (so l k) (nth l k):=by
 unfold so Geo.kT;rw[List.take_add_one,List.getElem?_eq_getElem h,List.foldl_append,nth_eq h];rfl
theorem As{p:Geo.V}:∀{l:List Geo.V} {k:Nat},k<=l.length->(∀j,j<k->Geo.bX (nth l j) p=true)->(k<l.length->¬Geo.bX (nth l k) p=true)->
  Geo.tM l p=if k<l.length/\nth l k=p then l else l.take k++p::l.drop k
 |[],k,h1,_,_=>by simp at h1;subst h1;rfl
 |q::r,0,_,_,h3=>by
  have h3:¬Geo.bX q p=true:=h3 (by simp)
  unfold Geo.tM;rw[if_neg h3];show(if q=p then q::r else p::q::r)=if 0<(q::r).length/\q=p then q::r else p::q::r
  simp
 |q::r,k+1,h1,h2,h3=>by
  have h0:Geo.bX q p=true:=h2 0 (by omega)
  unfold Geo.tM;rw[if_pos h0,As (l:=r) (k:=k) (by simpa using h1) (fun j hj=>h2 (j+1) (by omega)) (fun hk=>h3 (by simpa using hk))]
  show(q::if _ then _ else _)=if k+1<(q::r).length/\nth r k=p then q::r else q::(r.take k++p::r.drop k)
  simp only[List.length_cons,Nat.add_lt_add_iff_right];split<;>rfl
theorem aCH(l:List Geo.V)(p:Geo.V):(Geo.tM l p).length<=l.length+1:=by
 induction l with
 |nil=>simp[Geo.tM]
 |cons q r ih=>unfold Geo.tM;split;(simp;omega);split<;>simp
theorem aBu{l:List Geo.V}{k y:Nat}(hk:k<l.length)(h1:y<=(so l k).length)(h2:bH (qso l k) y)(h3:y<(so l k).length->¬qso l k y)(h4:¬(y<(so l k).length/\nth (so l k) y=nth l k)):
  ([] :List Geo.V)++List.take y (List.drop 0 (so l k))++[nth l k] ++List.take ((so l k).length-y) (List.drop y (so l k))=so l (k+1):=by
 have e:List.take ((so l k).length-y) (List.drop y (so l k))=List.drop y (so l k):=List.take_of_length_le (by simp)
 rw[Ls hk,As h1 h2 h3,if_neg h4,e];simp
theorem Wt{l:List Geo.V}{k y:Nat}(hk:k<l.length)(h1:y<=(so l k).length)(h2:bH (qso l k) y)(h3:y<(so l k).length->¬qso l k y)(h4:y<(so l k).length)(h5:nth (so l k) y=nth l k):so l k=so l (k+1):=by
 rw[Ls hk,As h1 h2 h3,if_pos ⟨h4,h5⟩]
theorem aEV(s t:Geo.S){k:Nat}(h:k<4):cm s t (k+1)=if(Geo.onS s (nth [s.a,s.b,t.a,t.b] k)&&Geo.onS t (nth [s.a,s.b,t.a,t.b] k))=true then cm s t k++[nth [s.a,s.b,t.a,t.b] k]else cm s t k:=by
 unfold cm;rw[List.take_add_one,List.getElem?_eq_getElem (show k<[s.a,s.b,t.a,t.b].length from h),List.filter_append,nth_eq (show k<[s.a,s.b,t.a,t.b].length from h)]
 simp only[Option.toList_some,List.filter_cons,List.filter_nil];split<;>simp
theorem aIj(s t:Geo.S)(k:Nat):(cm s t k).length<=4:=Nat.le_trans (List.length_filter_le _ _) (by simp;omega)
def aLk:Con:=con (a1 (aL .V)) (fun l=>[l.length<=1000]) (fun l=> .lst .V (Geo.kT l))
theorem aNg:aLk.Ok Tryz.prog 164:=aR (bO aGo) (raw:=bT) (fun l=>[lp 3 4 l.length (fun k=>[(so l k).length<=k]) [900] (fun k=>[(3,.own 900 .V (so l k).length)]) (fun k=>[(900,.row 44 .V (so l k))]) fun k=>[cnt 6 5 (so l k).length (bH (qso l k)),jN 8 5 (fun j=>[j<=(so l k).length,bH (qso l k) j,j<(so l k).length->¬qso l k j]) fun j=>[jP 9 [¬(j<(so l k).length/\nth (so l k) j=nth l k)]]]]
  ) (fun _=>⟨_,rfl⟩) fun l hp=>bP (q:=(0=(0:Int)/\(so l 0).length=0/\so l 0=([] :List Geo.V)/\(0:Nat)<=l.length/\(so l 0).length<=0)/\
 (∀x:Nat,x<=l.length/\(so l x).length<=x->((x:Int)<l.length->((0=(0:Int)/\(0:Nat)<=(so l x).length/\bH (qso l x) 0)/\
    (∀x_1:Nat,x_1<=(so l x).length/\bH (qso l x) x_1->((x_1:Int)<(so l x).length->ix (x_1:Int) (so l x).length/\x_1<(so l x).length/\ix (x:Int) l.length/\(Geo.bX (nth (so l x) x_1) (nth l x)=true->aE ((x_1:Int)+1)/\(x_1:Int)+1=((x_1+1:Nat):Int)/\x_1+1<=(so l x).length/\bH (qso l x) (x_1+1)/\(so l x).length-(x_1+1)<(so l x).length-x_1)/\
      (Geo.bX (nth (so l x) x_1) (nth l x)=false->(x_1:Int)=x_1/\x_1<=(so l x).length/\bH (qso l x) x_1/\(x_1<(so l x).length->¬qso l x x_1)))/\
     (¬(x_1:Int)<(so l x).length->(x_1:Int)=x_1/\x_1<=(so l x).length/\bH (qso l x) x_1/\(x_1<(so l x).length->¬qso l x x_1))))/\
   (∀y:Nat,y<=(so l x).length/\bH (qso l x) y/\(y<(so l x).length->¬qso l x y)->(((y:Int)<(so l x).length->ix (y:Int) (so l x).length/\y<(so l x).length/\ix (x:Int) l.length/\((nth (so l x) y)=(nth l x)->aE ((x:Int)+1)/\(x:Int)+1=((x+1:Nat):Int)/\(so l x).length=(so l (x+1)).length/\so l x=so l (x+1)/\x+1<=l.length/\(so l (x+1)).length<=x+1/\l.length-(x+1)<l.length-x)/\
      (¬(nth (so l x) y)=(nth l x)->¬(y<(so l x).length/\nth (so l x) y=nth l x)))/\
     (¬(y:Int)<(so l x).length->¬(y<(so l x).length/\nth (so l x) y=nth l x)))/\
    (∀y_1:Unit,¬(y<(so l x).length/\nth (so l x) y=nth l x)->(0<=(y:Int)/\(y:Int)<=(so l x).length)/\0+y<=(so l x).length/\([] :List Geo.V).length+(List.take y (List.drop 0 (so l x))).length<=1000000/\ix (x:Int) l.length/\(([] :List Geo.V)++List.take y (List.drop 0 (so l x))).length=(([] :List Geo.V)++List.take y (List.drop 0 (so l x))).length/\(([] :List Geo.V)++List.take y (List.drop 0 (so l x))).length+[(nth l x)].length<=1000000/\(0<=(y:Int)/\(y:Int)<=(so l x).length)/\(([] :List Geo.V)++List.take y (List.drop 0 (so l x))++[(nth l x)]).length=(([] :List Geo.V)++List.take y (List.drop 0 (so l x))++[(nth l x)]).length/\y+((so l x).length-y)<=(so l x).length/\(([] :List Geo.V)++List.take y (List.drop 0 (so l x))++[(nth l x)]).length+(List.take ((so l x).length-y) (List.drop y (so l x))).length<=1000000/\aE ((x:Int)+1)/\(x:Int)+1=((x+1:Nat):Int)/\(([] :List Geo.V)++List.take y (List.drop 0 (so l x))++[(nth l x)] ++List.take ((so l x).length-y) (List.drop y (so l x))).length=(so l (x+1)).length/\([] :List Geo.V)++List.take y (List.drop 0 (so l x))++[(nth l x)] ++List.take ((so l x).length-y) (List.drop y (so l x))=so l (x+1)/\x+1<=l.length/\(so l (x+1)).length<=x+1/\l.length-(x+1)<l.length-x)))/\
  (¬(x:Int)<l.length->(so l x).length=(so l x).length/\so l x=Geo.kT l))) (by kernel_rfl) (by
  change l.length<=1000 at hp;have e0:so l 0=[] :=rfl;have e1:so l l.length=Geo.kT l:=by unfold so;rw[List.take_length]
  have el:∀x,x<l.length->(so l x).length<=x->(so l (x+1)).length<=x+1:=by intro x h h2;rw[Ls h];exact Nat.le_trans (aCH _ _) (by omega)
  have e2:(so l 0).length=0:=rfl
  repeat' first|with_reducible apply And.intro|with_reducible intro
  all_goals repeat with_reducible cases‹_/\_›
  all_goals first|assumption|rfl|exact trivial|exact nb ‹_› |exact nb' ‹_› |omega|exact cV (by omega)|(unfold ix;omega)|(unfold aE;omega)|exact bG _|exact aA ‹_› ‹_› |(refine aA ‹_› ?_;simp_all;done)|exact aBu (by omega) ‹_› ‹_› ‹_› ‹_› |exact congrArg List.length (aBu (by omega) ‹_› ‹_› ‹_› ‹_›)|exact Wt (by omega) ‹_› ‹_› ‹_› (by omega) ‹_› |exact congrArg List.length (Wt (by omega) ‹_› ‹_› ‹_› (by omega) ‹_›)|exact el _ (by omega) ‹_› |(unfold qso at*;simp_all;done)|grind)
def aJ3:Tab:=cK [(164,aLk)] aJ4
theorem aGn:aJ3.Ok Tryz.prog:=aH aGo ⟨aNg,trivial⟩
def c99:Con:=con (ac aS (a1 aS)) (fun(_,_)=>[]) (fun(s,t)=> .lst .V (Geo.gC s t))
theorem k99:c99.Ok Tryz.prog 99:=aR (bO aGn) (raw:=bT) (fun(s,t)=>[lp 4 7 4 (fun _=>[]) [900,11] (fun k=>[(6,.own 900 .V (cm s t k).length),(5,.own 11 .V 4)]) (fun k=>[(900,.row 44 .V (cm s t k)),(11,.row 44 .V [s.a,s.b,t.a,t.b])]) fun k=>[jb 7 34 (Geo.onS s (nth [s.a,s.b,t.a,t.b] k)&&Geo.onS t (nth [s.a,s.b,t.a,t.b] k))]]
  ) (fun(_,_)=>⟨_,rfl⟩) fun(s,t) _=>bP (q:=(0=(0:Int)/\(cm s t 0).length=0/\(4:Nat)=4/\cm s t 0=([] :List Geo.V)/\[s.a,s.b,t.a,t.b] =[s.a,s.b,t.a,t.b]/\(0:Nat)<=4)/\
 (∀x:Nat,x<=4->((x:Int)<4->(ix (x:Int) 4/\x<[s.a,s.b,t.a,t.b].length/\(Geo.onS s (nth [s.a,s.b,t.a,t.b] x)=true->ix (x:Int) 4/\x<[s.a,s.b,t.a,t.b].length/\Geo.onS t (nth [s.a,s.b,t.a,t.b] x)=(Geo.onS s (nth [s.a,s.b,t.a,t.b] x)&&Geo.onS t (nth [s.a,s.b,t.a,t.b] x)))/\
    (Geo.onS s (nth [s.a,s.b,t.a,t.b] x)=false->false=(Geo.onS s (nth [s.a,s.b,t.a,t.b] x)&&Geo.onS t (nth [s.a,s.b,t.a,t.b] x))))/\
   (∀y:Unit,((Geo.onS s (nth [s.a,s.b,t.a,t.b] x)&&Geo.onS t (nth [s.a,s.b,t.a,t.b] x))=true->ix (x:Int) 4/\x<[s.a,s.b,t.a,t.b].length/\(cm s t x).length=(cm s t x).length/\(cm s t x).length+[(nth [s.a,s.b,t.a,t.b] x)].length<=1000000/\aE ((x:Int)+1)/\(x:Int)+1=((x+1:Nat):Int)/\(cm s t x++[(nth [s.a,s.b,t.a,t.b] x)]).length=(cm s t (x+1)).length/\(4:Nat)=4/\cm s t x++[(nth [s.a,s.b,t.a,t.b] x)] =cm s t (x+1)/\[s.a,s.b,t.a,t.b] =[s.a,s.b,t.a,t.b]/\x+1<=4/\4-(x+1)<4-x)/\
    ((Geo.onS s (nth [s.a,s.b,t.a,t.b] x)&&Geo.onS t (nth [s.a,s.b,t.a,t.b] x))=false->aE ((x:Int)+1)/\(x:Int)+1=((x+1:Nat):Int)/\(cm s t x).length=(cm s t (x+1)).length/\(4:Nat)=4/\cm s t x=cm s t (x+1)/\[s.a,s.b,t.a,t.b] =[s.a,s.b,t.a,t.b]/\x+1<=4/\4-(x+1)<4-x)))/\
  (¬(x:Int)<4->(cm s t x).length=(cm s t x).length/\(cm s t x).length<=1000/\Geo.kT (cm s t x)=Geo.gC s t))) (by kernel_rfl) (by
  have e0:cm s t 0=[] :=rfl;have e4:Geo.kT (cm s t 4)=Geo.gC s t:=rfl;have es:=fun k=> @aEV s t k
  have el:=aIj s t
  repeat' first|with_reducible apply And.intro|with_reducible intro
  all_goals repeat with_reducible cases‹_/\_›
  all_goals first|assumption|rfl|exact trivial|exact nb ‹_› |exact nb' ‹_› |omega|exact cV (by omega)|(unfold ix;omega)|(unfold aE;omega)|exact bG _|exact aA ‹_› ‹_› |(refine aA ‹_› ?_;simp_all;done)|grind)
def t99:Tab:=cK [(99,c99)] aJ3
theorem aIV:t99.Ok Tryz.prog:=aH aGn ⟨k99,trivial⟩
def c32:Con:=con (ac aS (a1 aS)) (fun(_,_)=>[]) (fun(s,t)=> .int .i64 (Geo.dR s t)
 )
theorem k32:c32.Ok Tryz.prog 32:=aR (bO aIV) (raw:=bT) (fun(_,_)=>[]) (fun(_,_)=>⟨_,rfl⟩) fun(s,t) _=>bP (q:=((!Geo.aK s)=true->0=Geo.dR s t)/\
 ((!Geo.aK s)=false->((!Geo.aK t)=true->0=Geo.dR s t)/\
  ((!Geo.aK t)=false->(1<((Geo.gC s t).length:Int)->3=Geo.dR s t)/\
   (¬1<((Geo.gC s t).length:Int)->(((Geo.gC s t).length:Int)=1->1=Geo.dR s t)/\
    (¬((Geo.gC s t).length:Int)=1->aE (Geo.jH s t.a*Geo.jH s t.b)/\(Geo.jH s t.a*Geo.jH s t.b<0->aE (Geo.jH t s.a*Geo.jH t s.b)/\(Geo.jH t s.a*Geo.jH t s.b<0->2=Geo.dR s t)/\
      (¬Geo.jH t s.a*Geo.jH t s.b<0->0=Geo.dR s t))/\
     (¬Geo.jH s t.a*Geo.jH s t.b<0->0=Geo.dR s t)))))) (by kernel_rfl) (by
  have d1:=yY s t.a;have d2:=yY s t.b;have d3:=yY t s.a;have d4:=yY t s.b;have m1:=iF d1 d2;have m2:=iF d3 d4;unfold Geo.dR
  repeat' first|with_reducible apply And.intro|with_reducible intro
  all_goals repeat with_reducible cases‹_/\_›
  all_goals first|assumption|rfl|exact trivial|exact nb ‹_› |exact nb' ‹_› |omega|exact cV (by omega)|(unfold ix;omega)|(unfold aE;omega)|exact bG _|exact aA ‹_› ‹_› |(refine aA ‹_› ?_;simp_all;done)|grind)
def t32:Tab:=cK [(32,c32)] t99
theorem aJr:t32.Ok Tryz.prog:=aH aIV ⟨k32,trivial⟩
end
end Go.Proofs.YtdaeofhdgabhjaaGreat
