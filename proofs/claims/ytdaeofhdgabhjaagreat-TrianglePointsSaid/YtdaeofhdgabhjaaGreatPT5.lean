/- TrianglePoints returns true for every shape and point: a point inside of a valid shape with at most 20 corners lies in a triangle, and inside of at most one, one that lies outside in none; no condition. (I2 I3 I4 I5 I6 I7 I8 I9 I10 H5 I11 I12 I13 I14 I15 I16 I17 I18 I19 I20 I21 I22 I23 I24 M2 I25 I26 M3 I27 I28 M4 K25 Q7) -/
import Derived.Test.YtdaeofhdgabhjaaGreatPT4
namespace Go.Proofs.YtdaeofhdgabhjaaGreat.Geo
theorem uD(h p:P3):ev ⟨-h.x,-h.y,-h.d⟩ p= -ev h p:=by unfold ev;grind
theorem Lf(k c:Int)(h p:P3):ev ⟨k*h.x,k*h.y,k*h.d+c⟩ p=k*ev h p+c*p.d:=by unfold ev;grind
theorem Pb{u v:V}{p q:P3}(hp:0<p.d)(hq:0<q.d)(h:P3)(hu:ev h (pt u)=0)(hv:ev h (pt v)=0)(h1:ev h p<0)(h2:ev h q<0):∃f:P3,ev f p<0/\ev f q<0/\0<ev f (pt u)/\0<ev f (pt v):=by
 refine⟨⟨(p.d+q.d)*h.x,(p.d+q.d)*h.y,(p.d+q.d)*h.d+1⟩,?_,?_,?_,?_⟩<;>rw[Lf]
 ·have:=Int.mul_le_mul_of_nonneg_left (show ev h p<= -1 by omega) (show 0<=p.d+q.d by omega);omega
 ·have:=Int.mul_le_mul_of_nonneg_left (show ev h q<= -1 by omega) (show 0<=p.d+q.d by omega);omega
 ·rw[hu];show 0<(p.d+q.d)*0+1*1;omega
 ·rw[hv];show 0<(p.d+q.d)*0+1*1;omega
theorem Wx{u v:V}{p q:P3}(hp:0<p.d)(hq:0<q.d)(h:P3)(h1:ev h p=0)(h2:ev h q=0)(hu:0<ev h (pt u))(hv:0<ev h (pt v)):∃f:P3,ev f p<0/\ev f q<0/\0<ev f (pt u)/\0<ev f (pt v):=by
 refine⟨⟨2*h.x,2*h.y,2*h.d+ -1⟩,?_,?_,?_,?_⟩<;>rw[Lf]
 ·rw[h1];omega
 ·rw[h2];omega
 ·show 0<2*ev h (pt u)+ -1*1;omega
 ·show 0<2*ev h (pt v)+ -1*1;omega
def aX(u v:V):P3:=⟨v.x-u.x,v.y-u.y,-((v.x-u.x)*u.x+(v.y-u.y)*u.y)⟩
def eK(u v:V):Int:=(v.x-u.x)*(v.x-u.x)+(v.y-u.y)*(v.y-u.y)
theorem iS(u v:V):ev (aX u v) (pt u)=0:=by unfold ev aX pt;grind
theorem nQ(u v:V):ev (aX u v) (pt v)=eK u v:=by unfold ev aX pt eK;grind
theorem vO(x:Int):0<=x*x:=by
 rcases Int.le_total 0 x with h|h
 ·exact mpp h h
 ·exact mnn h h
theorem Kw{x:Int}(h:x≠0):0<x*x:=by
 rcases Int.lt_or_gt_of_ne h with g|g
 ·exact Int.mul_pos_of_neg_of_neg g g
 ·exact Int.mul_pos g g
theorem fM{u v:V}(h:u≠v):0<eK u v:=by
 unfold eK;have h1:=vO (v.x-u.x);have h2:=vO (v.y-u.y);by_cases hx:v.x-u.x=0
 ·by_cases hy:v.y-u.y=0
  ·exfalso;apply h;cases u;cases v;simp only[V.mk.injEq]at*;omega
  ·have:=Kw hy;omega
 ·have:=Kw hx;omega
theorem jJ{u v:V}{r:P3}(h:ev (lin u v) r=0):cmb (eK u v*r.d-ev (aX u v) r) (pt u) (ev (aX u v) r) (pt v)=⟨eK u v*r.x,eK u v*r.y,eK u v*r.d⟩:=by
 unfold ev lin at h;unfold cmb ev aX pt eK;simp only[P3.mk.injEq];refine⟨?_,?_,?_⟩<;>grind
theorem sep{u v:V}{p q:P3}(hp:0<p.d)(hq:0<q.d)(hne:u≠v)(hm:¬iO ⟨u,v⟩ p q):∃f:P3,ev f p<0/\ev f q<0/\0<ev f (pt u)/\0<ev f (pt v):=by
 have hd:=aDV u v p q;have m1:= @Oc u v p q;have m2:= @We u v p q;have a1:=bB u v;have a2:=bR u v;have b1:=Mg p q;have b2:=Cy p q;have L:=fM hne;have T1:=iS u v;have T2:=nQ u v;by_cases c1:0<ev (lin u v) p/\0<ev (lin u v) q
 ·exact Pb hp hq ⟨-(lin u v).x,-(lin u v).y,-(lin u v).d⟩ (by rw[uD];omega) (by rw[uD];omega) (by rw[uD];omega) (by rw[uD];omega)
 by_cases c2:ev (lin u v) p<0/\ev (lin u v) q<0
 ·exact Pb hp hq (lin u v) a1 a2 c2.1 c2.2
 by_cases c3:0<ev (ln p q) (pt u)/\0<ev (ln p q) (pt v)
 ·exact Wx hp hq (ln p q) b1 b2 c3.1 c3.2
 by_cases c4:ev (ln p q) (pt u)<0/\ev (ln p q) (pt v)<0
 ·exact Wx hp hq ⟨-(ln p q).x,-(ln p q).y,-(ln p q).d⟩ (by rw[uD];omega) (by rw[uD];omega) (by rw[uD];omega) (by rw[uD];omega)
 have hz:ev (lin u v) p=0/\ev (lin u v) q=0:=by
  have q1:ev (lin u v) p=0\/0<ev (lin u v) p\/ev (lin u v) p<0:=by omega
  have q2:ev (lin u v) q=0\/0<ev (lin u v) q\/ev (lin u v) q<0:=by omega
  have e1:∀{x k:Int},0<k->0<x->0<x*k:=fun h1 h2=>Int.mul_pos h2 h1
  have e2:∀{x k:Int},0<k->x<0->x*k<0:=fun h1 h2=>Int.mul_neg_of_neg_of_pos h2 h1
  have p1:= @e1 (ev (lin u v) p) q.d hq;have p2:= @e2 (ev (lin u v) p) q.d hq;have p3:= @e1 (ev (lin u v) q) p.d hp;have p4:= @e2 (ev (lin u v) q) p.d hp;have z1:ev (lin u v) p=0->ev (lin u v) p*q.d=0:=fun h=>by rw[h,Int.zero_mul]
  have z2:ev (lin u v) q=0->ev (lin u v) q*p.d=0:=fun h=>by rw[h,Int.zero_mul]
  have m1:0<=ev (lin u v) p->ev (lin u v) q<=0->0<=ev (ln p q) (pt v)->ev (ln p q) (pt u)<=0->¬ev (ln p q) (pt u)<ev (ln p q) (pt v):=fun x1 x2 x3 x4 x5=>hm (m1 x1 x2 x3 x4 x5)
  have m2:ev (lin u v) p<=0->0<=ev (lin u v) q->ev (ln p q) (pt v)<=0->0<=ev (ln p q) (pt u)->¬ev (ln p q) (pt v)<ev (ln p q) (pt u):=fun x1 x2 x3 x4 x5=>hm (m2 x1 x2 x3 x4 x5)
  generalize ev (lin u v) p*q.d=AQ at*;generalize ev (lin u v) q*p.d=BP at*;rcases q1 with h|h|h<;>rcases q2 with g|g|g<;>simp only[h,g,true_implies]at p1 p2 p3 p4 z1 z2<;>omega
 have op:=jJ hz.1;have oq:=jJ hz.2;generalize hTp:ev (aX u v) p=Tp at*;generalize hTq:ev (aX u v) q=Tq at*;generalize eK u v=K at*;have np:Tp<0\/K*p.d<Tp:=by
  refine Classical.byContradiction fun hn=> ?_
  have hKp:=Int.mul_pos L hp;refine hm ⟨_,_,K,0,show 0<=K*p.d-Tp by omega,show 0<=Tp by omega,by omega,by omega,by omega,?_⟩
  rw[op];unfold cmb;simp only[P3.mk.injEq];refine⟨?_,?_,?_⟩<;>omega
 have nq:Tq<0\/K*q.d<Tq:=by
  refine Classical.byContradiction fun hn=> ?_
  have hKq:=Int.mul_pos L hq;refine hm ⟨_,_,0,K,show 0<=K*q.d-Tq by omega,show 0<=Tq by omega,by omega,by omega,by omega,?_⟩
  rw[oq];unfold cmb;simp only[P3.mk.injEq];refine⟨?_,?_,?_⟩<;>omega
 have hKp:=Int.mul_pos L hp;have hKq:=Int.mul_pos L hq;have nu:¬(Tp<0/\0<Tq)/\¬(0<Tp/\Tq<0):=by
  unfold cmb pt at op oq;simp only[P3.mk.injEq]at op oq;refine⟨fun h=> ?_,fun h=> ?_⟩
  ·have x1:=Int.mul_pos h.2 hKp;have x2:=Int.mul_neg_of_neg_of_pos h.1 hKq;refine hm ⟨Tq*(K*p.d)-Tp*(K*q.d),0,K*Tq,-(K*Tp),by omega,by omega,by omega,mpp (by omega) (by omega),by rw[<-Int.mul_neg];exact mpp (by omega) (by omega),?_⟩
   unfold cmb pt;simp only[P3.mk.injEq];refine⟨?_,?_,?_⟩<;>grind
  ·have x1:=Int.mul_pos h.1 hKq;have x2:=Int.mul_neg_of_neg_of_pos h.2 hKp;refine hm ⟨Tp*(K*q.d)-Tq*(K*p.d),0,-(K*Tq),K*Tp,by omega,by omega,by omega,by rw[<-Int.mul_neg];exact mpp (by omega) (by omega),mpp (by omega) (by omega),?_⟩
   unfold cmb pt;simp only[P3.mk.injEq];refine⟨?_,?_,?_⟩<;>grind
 have up:0<(p.d+q.d)*K:=Int.mul_pos (by omega) L
 by_cases hb:Tp<0
 ·refine⟨⟨(p.d+q.d)*(aX u v).x,(p.d+q.d)*(aX u v).y,(p.d+q.d)*(aX u v).d+1⟩,?_,?_,?_,?_⟩<;>rw[Lf]
  ·rw[hTp];have:=Int.mul_le_mul_of_nonneg_left (show Tp<= -1 by omega) (show 0<=p.d+q.d by omega);omega
  ·rw[hTq];have:=Int.mul_le_mul_of_nonneg_left (show Tq<= -1 by omega) (show 0<=p.d+q.d by omega);omega
  ·rw[T1];show 0<(p.d+q.d)*0+1*1;omega
  ·rw[T2];show 0<(p.d+q.d)*K+1*1;omega
 ·have e1:∀r T:Int,(-(p.d+q.d))*T+((p.d+q.d)*K+1)*r=(p.d+q.d)*(K*r-T)+r:=fun r T=>by grind
  refine⟨⟨-(p.d+q.d)*(aX u v).x,-(p.d+q.d)*(aX u v).y,-(p.d+q.d)*(aX u v).d+((p.d+q.d)*K+1)⟩,?_,?_,?_,?_⟩<;>rw[Lf]
  ·rw[hTp,e1];have:=Int.mul_le_mul_of_nonneg_left (show K*p.d-Tp<= -1 by omega) (show 0<=p.d+q.d by omega);omega
  ·rw[hTq,e1];have:=Int.mul_le_mul_of_nonneg_left (show K*q.d-Tq<= -1 by omega) (show 0<=p.d+q.d by omega);omega
  ·rw[T1,e1];show 0<(p.d+q.d)*(K*1-0)+1;rw[Int.mul_one,Int.sub_zero];omega
  ·rw[T2,e1];show 0<(p.d+q.d)*(K*1-K)+1;rw[Int.mul_one,Int.sub_self,Int.mul_zero];omega
def iP(F:List P3)(e:S):Prop:=∀x y:Int,0<=x->0<=y->0<x+y->∃f∈F,x*ev f (pt e.a)+y*ev f (pt e.b)<=0
def In(F:List P3)(q:P3):Prop:=0<q.d/\∀f∈F,0<ev f q
theorem iP.no{F:List P3}{e:S}(h:iP F e){p q:P3}(hp:In F p)(hq:In F q):¬iO e p q:=by
 rintro⟨x,y,s,t,h1,h2,h3,h4,h5,h6⟩;obtain⟨f,hf,g⟩:=h x y h1 h2 h3;have e1:=congrArg (ev f) h6;rw[aM,aM]at e1;have e2:=congrArg P3.d h6;simp only[cmb,pt]at e2;have g1:=mpp h4 (show 0<=ev f p by have:=hp.2 f hf;omega)
 have g2:=mpp h5 (show 0<=ev f q by have:=hq.2 f hf;omega)
 rcases Int.lt_or_le 0 s with k|k
 ·have:=Int.mul_pos k (hp.2 f hf);omega
 ·rcases Int.lt_or_le 0 t with k2|k2
  ·have:=Int.mul_pos k2 (hq.2 f hf);omega
  ·have:s=0:=by omega
   have:t=0:=by omega
   subst s t;omega
theorem iP.swap{F:List P3}{e:S}(h:iP F e):iP F ⟨e.b,e.a⟩:=fun x y h1 h2 h3=>by
 obtain⟨f,hf,g⟩:=h y x h2 h1 (by omega)
 exact⟨f,hf,by show x*ev f (pt e.b)+y*ev f (pt e.a)<=0;omega⟩
def tB(a b:V)(N:Int):P3:=⟨(aX a b).x-N*(lin a b).x,(aX a b).y-N*(lin a b).y,(aX a b).d-N*(lin a b).d⟩
def thin(a b:V)(N:Int):List P3:=[lin a b,tB a b N,⟨(aX b a).x-N*(lin a b).x,(aX b a).y-N*(lin a b).y,(aX b a).d-N*(lin a b).d⟩]
theorem iW(a b:V)(N:Int)(q:P3):ev (tB a b N) q=ev (aX a b) q-N*ev (lin a b) q:=by unfold ev tB;grind
theorem lP(a b:V)(N:Int)(q:P3):ev ⟨(aX b a).x-N*(lin a b).x,(aX b a).y-N*(lin a b).y,(aX b a).d-N*(lin a b).d⟩ q=ev (aX b a) q-N*ev (lin a b) q:=by unfold ev;grind
theorem kX{a b:V}{N:Int}{q:P3}:In (thin a b N) q↔0<q.d/\0<ev (lin a b) q/\N*ev (lin a b) q<ev (aX a b) q/\N*ev (lin a b) q<ev (aX b a) q:=by
 unfold In thin;simp only[List.mem_cons,List.not_mem_nil,or_false,forall_eq_or_imp,forall_eq,iW,lP];omega
def Off(a b:V)(e:S):Prop:=e.a≠e.b/\(¬iO e (pt a) (pt b)\/(e.a=a/\(ev (lin a b) (pt e.b)≠0\/ev (aX a b) (pt e.b)<0))\/(e.b=a/\(ev (lin a b) (pt e.a)≠0\/ev (aX a b) (pt e.a)<0))\/
 (e.a=b/\(ev (lin a b) (pt e.b)≠0\/ev (aX b a) (pt e.b)<0))\/(e.b=b/\(ev (lin a b) (pt e.a)≠0\/ev (aX b a) (pt e.a)<0)))
theorem frame(a b:V)(f q:P3):eK a b*ev f q=ev (aX b a) q*ev f (pt a)+ev (aX a b) q*ev f (pt b)+ev (lin a b) q*(f.y*(b.x-a.x)-f.x*(b.y-a.y)):=by
 unfold ev aX eK lin pt;grind
theorem Me{F:List P3}{e:S}(h:∀x y:Int,0<=x->0<=y->0<x+y->(∀f∈F,0<x*ev f (pt e.a)+y*ev f (pt e.b))->False):iP F e:=fun x y h1 h2 h3=>
 Classical.byContradiction fun hn=>h x y h1 h2 h3 fun f hf=>Classical.byContradiction fun g=>hn ⟨f,hf,by omega⟩
theorem aB2{a b:V}(hne:a≠b){e:S}(he:e.a≠e.b)(h:¬iO e (pt a) (pt b)):∃N0:Int,∀N,N0<=N->iP (thin a b N) e:=by
 obtain⟨f,f1,f2,f3,f4⟩:=sep (u:=e.a) (v:=e.b) (p:=pt a) (q:=pt b) (show(0:Int)<1 by decide) (show(0:Int)<1 by decide) he h
 refine⟨(f.y*(b.x-a.x)-f.x*(b.y-a.y)).natAbs,fun N hN=>Me fun x y h1 h2 h3 hq=> ?_⟩
 have hL:=fM hne;have e1:∀g:P3,x*ev g (pt e.a)+y*ev g (pt e.b)=ev g (cmb x (pt e.a) y (pt e.b)):=fun g=>(aM _ _ _ _ _).symm
 have hfq:0<ev f (cmb x (pt e.a) y (pt e.b)):=by
  rw[<-e1];have g1:=mpp h1 (show 0<=ev f (pt e.a) by omega)
  have g2:=mpp h2 (show 0<=ev f (pt e.b) by omega)
  rcases Int.lt_or_le 0 x with k|k
  ·have:=Int.mul_pos k f3;omega
  ·have:=Int.mul_pos (show 0<y by omega) f4;omega
 have hT:In (thin a b N) (cmb x (pt e.a) y (pt e.b)):=⟨by simp only[cmb,pt];omega,fun g hg=>by rw[<-e1];exact hq g hg⟩
 obtain⟨_,t1,t2,t3⟩:=kX.1 hT;have hF:=frame a b f (cmb x (pt e.a) y (pt e.b));generalize ev f (cmb x (pt e.a) y (pt e.b))=Q at*;generalize ev (lin a b) (cmb x (pt e.a) y (pt e.b))=X at*;generalize ev (aX a b) (cmb x (pt e.a) y (pt e.b))=T at*;generalize ev (aX b a) (cmb x (pt e.a) y (pt e.b))=T' at*;generalize f.y*(b.x-a.x)-f.x*(b.y-a.y)=c at*;have p1:=Int.mul_pos hL hfq;have hN0:0<=N*X:=mpp (by omega) (by omega)
 have p2:T'*ev f (pt a)<= -T':=by have:=Int.mul_le_mul_of_nonneg_left (show ev f (pt a)<= -1 by omega) (show 0<=T' by omega);omega
 have p3:T*ev f (pt b)<= -T:=by have:=Int.mul_le_mul_of_nonneg_left (show ev f (pt b)<= -1 by omega) (show 0<=T by omega);omega
 have p4:X*c<=N*X:=by rw[Int.mul_comm N];exact Int.mul_le_mul_of_nonneg_left (by omega) (by omega)
 omega
theorem Sy{a b:V}{e:S}(h:e.a=a):∃N0:Int,∀N,N0<=N->iP (thin a b N) e:=by
 refine⟨(ev (aX a b) (pt e.b)).natAbs,fun N hN x y h1 h2 h3=> ?_⟩
 rw[h];by_cases hX:0<y*ev (lin a b) (pt e.b)
 ·refine⟨tB a b N,by simp[thin],?_⟩
  have hy:0<y:=by
   rcases Int.lt_or_le 0 y with k|k
   ·exact k
   ·have:y=0:=by omega
    subst y;omega
  have hv:0<ev (lin a b) (pt e.b):=by
   rcases Int.lt_or_le 0 (ev (lin a b) (pt e.b))with k|k
   ·exact k
   ·have:=mpn h2 k;omega
  rw[iW,iW,iS,bB];have k1:=Int.mul_le_mul_of_nonneg_left (show 1<=ev (lin a b) (pt e.b) by omega) (show 0<=N by omega)
  have k2:=mpn h2 (show ev (aX a b) (pt e.b)-N*ev (lin a b) (pt e.b)<=0 by omega)
  omega
 ·refine⟨lin a b,by simp[thin],?_⟩
  rw[bB];omega
theorem Sx{a b:V}{e:S}(h:e.a=b):∃N0:Int,∀N,N0<=N->iP (thin a b N) e:=by
 refine⟨(ev (aX b a) (pt e.b)).natAbs,fun N hN x y h1 h2 h3=> ?_⟩
 rw[h];by_cases hX:0<y*ev (lin a b) (pt e.b)
 ·refine⟨⟨(aX b a).x-N*(lin a b).x,(aX b a).y-N*(lin a b).y,(aX b a).d-N*(lin a b).d⟩,by simp[thin],?_⟩
  have hv:0<ev (lin a b) (pt e.b):=by
   rcases Int.lt_or_le 0 (ev (lin a b) (pt e.b))with k|k
   ·exact k
   ·have:=mpn h2 k;omega
  rw[lP,lP,iS,bR];have k1:=Int.mul_le_mul_of_nonneg_left (show 1<=ev (lin a b) (pt e.b) by omega) (show 0<=N by omega)
  have k2:=mpn h2 (show ev (aX b a) (pt e.b)-N*ev (lin a b) (pt e.b)<=0 by omega)
  omega
 ·refine⟨lin a b,by simp[thin],?_⟩
  rw[bR];omega
theorem aB3{a b:V}(hne:a≠b){e:S}(h:Off a b e\/(e.a=a/\e.b=b)\/(e.a=b/\e.b=a)):∃N0:Int,∀N,N0<=N->iP (thin a b N) e:=by
 have sw:(∃N0:Int,∀N,N0<=N->iP (thin a b N) ⟨e.b,e.a⟩)->∃N0:Int,∀N,N0<=N->iP (thin a b N) e:=fun⟨N0,h⟩=>⟨N0,fun N hN=>(h N hN).swap⟩
 rcases h with⟨h0,h|h|h|h|h⟩|h|h
 ·exact aB2 hne h0 h
 ·exact Sy h.1
 ·exact sw (Sy (e:=⟨e.b,e.a⟩) h.1)
 ·exact Sx h.1
 ·exact sw (Sx (e:=⟨e.b,e.a⟩) h.1)
 ·exact Sy h.1
 ·exact Sx h.1
theorem Ot{a b:V}(hne:a≠b):∀{l:List S},(∀e∈l,Off a b e\/(e.a=a/\e.b=b)\/(e.a=b/\e.b=a))->∃N0:Int,1<=N0/\∀N,N0<=N->∀e∈l,iP (thin a b N) e
 |[],_=>⟨1,by omega,fun N _ e he=>by cases he⟩
 |e::l,h=>by
  obtain⟨N0,h0,h1⟩:=Ot hne (l:=l) fun e he=>h e (List.mem_cons_of_mem _ he)
  obtain⟨N1,h2⟩:=aB3 hne (h e List.mem_cons_self);refine⟨max N0 N1,by omega,fun N hN e' he=> ?_⟩
  rcases List.mem_cons.1 he with rfl|he
  ·exact h2 N (by omega)
  ·exact h1 N (by omega) e' he
def cS(a b:V)(M x y:Int):P3:=⟨M*(a.x+b.x)+x,M*(a.y+b.y)+y,2*M⟩
theorem xN(a b:V)(M x y:Int):ev (lin a b) (cS a b M x y)=(b.x-a.x)*y-(b.y-a.y)*x:=by unfold ev lin cS;grind
theorem aC3(a b:V)(M x y:Int):ev (aX a b) (cS a b M x y)=M*eK a b+((b.x-a.x)*x+(b.y-a.y)*y):=by unfold ev aX cS eK;grind
theorem aC2(a b:V)(M x y:Int):ev (aX b a) (cS a b M x y)=M*eK a b-((b.x-a.x)*x+(b.y-a.y)*y):=by unfold ev aX cS eK;grind
theorem wA(a b:V):eK b a=eK a b:=by unfold eK;grind
theorem vA(a b:V)(M x y:Int):cS b a M x y=cS a b M x y:=by unfold cS;simp only[P3.mk.injEq];refine⟨?_,?_,trivial⟩<;>grind
theorem jQ{a b:V}(hne:a≠b){x y:Int}(h:0<(b.x-a.x)*y-(b.y-a.y)*x)(N:Int):∃M0:Int,1<=M0/\∀M,M0<=M->In (thin a b N) (cS a b M x y):=by
 have hL:=fM hne;refine⟨1+(N*((b.x-a.x)*y-(b.y-a.y)*x)).natAbs+((b.x-a.x)*x+(b.y-a.y)*y).natAbs,by omega,fun M hM=> ?_⟩
 rw[kX,xN,aC3,aC2];have:=Int.mul_le_mul_of_nonneg_left (show 1<=eK a b by omega) (show 0<=M by omega)
 generalize N*((b.x-a.x)*y-(b.y-a.y)*x)=c at*;generalize (b.x-a.x)*x+(b.y-a.y)*y=d at*;refine⟨by show 0<2*M;omega,h,?_,?_⟩<;>omega
theorem Wl{g:S->Bool}{e:S}:∀{l:List S},l.Nodup->e∈l->g e=true->(∀e'∈l,e'≠e->g e'=false)->fD (l.map g)=true
 |[],_,h,_,_=>by cases h
 |x::l,hn,h,h1,h2=>by
  rw[List.nodup_cons]at hn;have h0:∀{l:List S},(∀e'∈l,g e'=false)->fD (l.map g)=false:=by
   intro l;induction l with
   |nil=>intro _;rfl
   |cons y l ih=>
    intro hh;show(g y !=fD (l.map g))=false;rw[hh y List.mem_cons_self,ih fun z hz=>hh z (List.mem_cons_of_mem _ hz)];rfl
  show(g x !=fD (l.map g))=true;rcases List.mem_cons.1 h with rfl|h
  ·rw[h1,h0 fun z hz=>h2 z (List.mem_cons_of_mem _ hz) fun e=>hn.1 (e▸hz)];rfl
  ·rw[h2 x List.mem_cons_self fun e'=>hn.1 (e'▸h),Wl hn.2 h h1 fun z hz=>h2 z (List.mem_cons_of_mem _ hz)];rfl
theorem aAD{a b:V}{N:Int}(hN:0<=N){e:S}(ho:Off a b e)(h1:iP (thin a b N) e)(h2:iP (thin b a N) e){p q:P3}(hp:In (thin b a N) p)(hq:In (thin a b N) q):¬iO e p q:=by
 rintro⟨x,y,s,t,hx,hy,hxy,hs,ht,he⟩;obtain⟨p0,p1,p2,p3⟩:=kX.1 hp;obtain⟨q0,q1,q2,q3⟩:=kX.1 hq;have lsw:∀r:P3,ev (lin b a) r= -ev (lin a b) r:=fun r=>lO a b r
 rw[lsw]at p1 p2 p3;have ed:=congrArg P3.d he;simp only[cmb,pt]at ed;have eX:=congrArg (ev (lin a b)) he;have eA:=congrArg (ev (aX a b)) he;have eB:=congrArg (ev (aX b a)) he;rw[aM,aM]at eX eA eB;have hst:0<s\/0<t:=by
  refine Classical.byContradiction fun hn=> ?_
  have:s=0:=by omega
  have:t=0:=by omega
  subst s t;omega
 have kpos:∀{u v:Int},0<u->0<v->0<s*u+t*v:=fun{u v} hu hv=>by
  have g1:=mpp hs (show 0<=u by omega)
  have g2:=mpp ht (show 0<=v by omega)
  rcases hst with k|k
  ·have:=Int.mul_pos k hu;omega
  ·have:=Int.mul_pos k hv;omega
 have nX:N*(-(ev (lin a b) p))= -(N*ev (lin a b) p):=by rw[Int.mul_neg]
 have nn:0<=N* -(ev (lin a b) p):=mpp hN (by omega)
 have nq:0<=N*ev (lin a b) q:=mpp hN (by omega)
 have hA:=kpos (u:=ev (aX a b) p) (v:=ev (aX a b) q) (by omega) (by omega)
 have hB:=kpos (u:=ev (aX b a) p) (v:=ev (aX b a) q) (by omega) (by omega)
 have hA1:=kpos (u:=ev (aX a b) p-N*ev (lin a b) p) (v:=ev (aX a b) q-N*ev (lin a b) q) (by omega) (by omega)
 have hB1:=kpos (u:=ev (aX b a) p-N*ev (lin a b) p) (v:=ev (aX b a) q-N*ev (lin a b) q) (by omega) (by omega)
 have hA2:=kpos (u:=ev (aX a b) p+N*ev (lin a b) p) (v:=ev (aX a b) q+N*ev (lin a b) q) (by omega) (by omega)
 have hB2:=kpos (u:=ev (aX b a) p+N*ev (lin a b) p) (v:=ev (aX b a) q+N*ev (lin a b) q) (by omega) (by omega)
 have z1:∀(g:P3),x*ev g (pt e.a)+y*ev g (pt e.b)=s*ev g p+t*ev g q:=fun g=>by
  have:=congrArg (ev g) he;rw[aM,aM]at this;exact this
 rcases Int.lt_trichotomy (x*ev (lin a b) (pt e.a)+y*ev (lin a b) (pt e.b)) 0 with hX|hX|hX
 ·obtain⟨f,hf,g⟩:=h2 x y hx hy hxy;rw[z1]at g;simp only[thin,List.mem_cons,List.not_mem_nil,or_false]at hf;rcases hf with rfl|rfl|rfl
  ·rw[lsw,lsw,Int.mul_neg,Int.mul_neg]at g;omega
  ·rw[iW,iW,lsw,lsw,Int.mul_neg,Int.mul_neg,Int.sub_neg,Int.sub_neg]at g;omega
  ·rw[lP,lP,lsw,lsw,Int.mul_neg,Int.mul_neg,Int.sub_neg,Int.sub_neg]at g;omega
 ·rcases ho with⟨_,h|⟨h,g⟩|⟨h,g⟩|⟨h,g⟩|⟨h,g⟩⟩
  ·have hne:a≠b:=fun hab=>by
    subst hab;have:∀r:P3,ev (lin a a) r=0:=fun r=>by unfold ev lin;grind
    rw[this]at q1;omega
   have hL:=fM hne;have hz:ev (lin a b) (cmb x (pt e.a) y (pt e.b))=0:=by rw[aM];exact hX
   have oz:=jJ hz;have hab:ev (aX b a) (cmb x (pt e.a) y (pt e.b))=eK a b*(cmb x (pt e.a) y (pt e.b)).d-ev (aX a b) (cmb x (pt e.a) y (pt e.b)):=by
    unfold ev aX eK;grind
   rw[aM,eB]at hab;rw[aM,eA]at oz hab;refine h ⟨eK a b*x,eK a b*y,eK a b*(cmb x (pt e.a) y (pt e.b)).d-(s*ev (aX a b) p+t*ev (aX a b) q),s*ev (aX a b) p+t*ev (aX a b) q,mpp (by omega) hx,mpp (by omega) hy,by have:=Int.mul_pos hL hxy;rw[Int.mul_add]at this;exact this,by omega,by omega,?_⟩
   rw[oz];unfold cmb;simp only[P3.mk.injEq];refine⟨?_,?_,?_⟩<;>grind
  ·rw[h,bB]at hX;rw[h,iS]at eA;have hy0:0<y:=by
    rcases Int.lt_or_le 0 y with k|k
    ·exact k
    ·have:y=0:=by omega
     subst y;omega
   have hv:ev (lin a b) (pt e.b)=0:=by
    have:y*ev (lin a b) (pt e.b)=0:=by omega
    rcases Int.mul_eq_zero.1 this with k|k
    ·omega
    ·exact k
   have:=Int.mul_neg_of_pos_of_neg hy0 (show ev (aX a b) (pt e.b)<0 by omega)
   omega
  ·rw[h,bB]at hX;rw[h,iS]at eA;have hy0:0<x:=by
    rcases Int.lt_or_le 0 x with k|k
    ·exact k
    ·have:x=0:=by omega
     subst x;omega
   have hv:ev (lin a b) (pt e.a)=0:=by
    have:x*ev (lin a b) (pt e.a)=0:=by omega
    rcases Int.mul_eq_zero.1 this with k|k
    ·omega
    ·exact k
   have:=Int.mul_neg_of_pos_of_neg hy0 (show ev (aX a b) (pt e.a)<0 by omega)
   omega
  ·rw[h,bR]at hX;rw[h,iS]at eB;have hy0:0<y:=by
    rcases Int.lt_or_le 0 y with k|k
    ·exact k
    ·have:y=0:=by omega
     subst y;omega
   have hv:ev (lin a b) (pt e.b)=0:=by
    have:y*ev (lin a b) (pt e.b)=0:=by omega
    rcases Int.mul_eq_zero.1 this with k|k
    ·omega
    ·exact k
   have:=Int.mul_neg_of_pos_of_neg hy0 (show ev (aX b a) (pt e.b)<0 by omega)
   omega
  ·rw[h,bR]at hX;rw[h,iS]at eB;have hy0:0<x:=by
    rcases Int.lt_or_le 0 x with k|k
    ·exact k
    ·have:x=0:=by omega
     subst x;omega
   have hv:ev (lin a b) (pt e.a)=0:=by
    have:x*ev (lin a b) (pt e.a)=0:=by omega
    rcases Int.mul_eq_zero.1 this with k|k
    ·omega
    ·exact k
   have:=Int.mul_neg_of_pos_of_neg hy0 (show ev (aX b a) (pt e.a)<0 by omega)
   omega
 ·obtain⟨f,hf,g⟩:=h1 x y hx hy hxy;rw[z1]at g;simp only[thin,List.mem_cons,List.not_mem_nil,or_false]at hf;rcases hf with rfl|rfl|rfl
  ·omega
  ·rw[iW,iW]at g;omega
  ·rw[lP,lP]at g;omega
theorem flip{r:aC}(h2:2<=r.length)(hn:(edges r).Nodup){a b:V}(hne:a≠b)(he:(⟨a,b⟩:S)∈edges r){N:Int}(hN:0<=N)
  (ho:∀e∈edges r,e≠⟨a,b⟩->Off a b e/\iP (thin a b N) e/\iP (thin b a N) e):∃p q:P3,In (thin b a N) p/\In (thin a b N) q/\dV r p≠dV r q:=by
 have sum:∀{p q:P3},0<p.d->0<q.d->p.y*q.d<=q.y*p.d->(∀e∈edges r,e≠⟨a,b⟩->¬iO e p q)->((hit p ⟨a,b⟩ !=hit q ⟨a,b⟩) !=(rgt p q a !=rgt p q b))=true->dV r p≠dV r q:=by
  intro p q hp hq hy hm hab;have h1:=Wl (g:=fun e=>(hit p e !=hit q e) !=(rgt p q e.a !=rgt p q e.b)) hn he hab fun e he hne=>by
   rw[Ka hp hq hy (hm e he hne)];cases(rgt p q e.a !=rgt p q e.b)<;>rfl
  rw[vG,vG,vG,Ec h2]at h1;unfold dV;generalize fD ((edges r).map (hit p))=x at*;generalize fD ((edges r).map (hit q))=y at*;cases x<;>cases y<;>simp at h1|-
 have off:∀{p q:P3},In (thin b a N) p->In (thin a b N) q->∀e∈edges r,e≠⟨a,b⟩->¬iO e p q:=fun hp hq e he hne=>aAD hN (ho e he hne).1 (ho e he hne).2.1 (ho e he hne).2.2 hp hq
 have hdn:∀(M x y:Int) (w:V),dn (cS a b M x y) w=decide (w.y*(2*M)<=M*(a.y+b.y)+y):=fun _ _ _ _=>rfl
 have hln:∀(M:Int) (w:V),ev (ln (cS a b M 0 (-1)) (cS a b M 0 1)) (pt w)=2*M*(a.x+b.x-2*w.x):=fun M w=>by unfold ev ln cS pt;grind
 have horiz:∀M:Int,1<=M->a.y=b.y->a.x≠b.x->((hit (cS a b M 0 (-1)) ⟨a,b⟩ !=hit (cS a b M 0 1) ⟨a,b⟩) !=(rgt (cS a b M 0 (-1)) (cS a b M 0 1) a !=rgt (cS a b M 0 (-1)) (cS a b M 0 1) b))=true:=by
  intro M hM hy hx;have e1:M*(a.y+b.y)=a.y*(2*M):=by rw[<-hy];grind
  have e2:M*(a.y+b.y)=b.y*(2*M):=by rw[hy];grind
  have a1:dn (cS a b M 0 (-1)) a=false:=by rw[hdn];exact decide_eq_false (by omega)
  have a2:dn (cS a b M 0 (-1)) b=false:=by rw[hdn];exact decide_eq_false (by omega)
  have a3:dn (cS a b M 0 1) a=true:=by rw[hdn];exact decide_eq_true (by omega)
  have a4:dn (cS a b M 0 1) b=true:=by rw[hdn];exact decide_eq_true (by omega)
  unfold hit rgt;dsimp only;rw[a1,a2,a3,a4,hln,hln];rcases Int.lt_or_gt_of_ne hx with hx|hx
  ·have p1:=Int.mul_pos (show 0<2*M by omega) (show 0<a.x+b.x-2*a.x by omega)
   have p2:=Int.mul_neg_of_pos_of_neg (show 0<2*M by omega) (show a.x+b.x-2*b.x<0 by omega)
   rw[decide_eq_false (show¬2*M*(a.x+b.x-2*a.x)<0 by omega),decide_eq_true p2];rfl
  ·have p1:=Int.mul_neg_of_pos_of_neg (show 0<2*M by omega) (show a.x+b.x-2*a.x<0 by omega)
   have p2:=Int.mul_pos (show 0<2*M by omega) (show 0<a.x+b.x-2*b.x by omega)
   rw[decide_eq_true p1,decide_eq_false (show¬2*M*(a.x+b.x-2*b.x)<0 by omega)];rfl
 have ydec:∀M:Int,1<=M->(cS a b M 0 (-1)).y*(cS a b M 0 1).d<=(cS a b M 0 1).y*(cS a b M 0 (-1)).d:=fun M hM=>by
  unfold cS;dsimp only;have:(M*(a.y+b.y)+ -1)*(2*M)+2*(2*M)=(M*(a.y+b.y)+1)*(2*M):=by grind
  omega
 have vert:∀M x:Int,1<=M->a.y≠b.y->0<(b.x-a.x)*0-(b.y-a.y)*x->((hit (cS a b M (-x) 0) ⟨a,b⟩ !=hit (cS a b M x 0) ⟨a,b⟩) !=(rgt (cS a b M (-x) 0) (cS a b M x 0) a !=rgt (cS a b M (-x) 0) (cS a b M x 0) b))=true:=by
  intro M x hM hy hx;have hne':dn (cS a b M x 0) a≠dn (cS a b M x 0) b:=by
   rw[hdn,hdn];have e1:M*(a.y+b.y)-a.y*(2*M)=M*(b.y-a.y):=by grind
   have e2:M*(a.y+b.y)-b.y*(2*M)=M*(a.y-b.y):=by grind
   rcases Int.lt_or_gt_of_ne hy with h|h
   ·have p1:=Int.mul_pos (show 0<M by omega) (show 0<b.y-a.y by omega)
    have p2:=Int.mul_neg_of_pos_of_neg (show 0<M by omega) (show a.y-b.y<0 by omega)
    rw[decide_eq_true (show a.y*(2*M)<=M*(a.y+b.y)+0 by omega),decide_eq_false (show¬b.y*(2*M)<=M*(a.y+b.y)+0 by omega)];simp
   ·have p1:=Int.mul_neg_of_pos_of_neg (show 0<M by omega) (show b.y-a.y<0 by omega)
    have p2:=Int.mul_pos (show 0<M by omega) (show 0<a.y-b.y by omega)
    rw[decide_eq_false (show¬a.y*(2*M)<=M*(a.y+b.y)+0 by omega),decide_eq_true (show b.y*(2*M)<=M*(a.y+b.y)+0 by omega)];simp
  have same:∀w,dn (cS a b M (-x) 0) w=dn (cS a b M x 0) w:=fun w=>by rw[hdn,hdn]
  unfold hit rgt;dsimp only;rw[same,same,xN,xN];rw[decide_eq_true hx,decide_eq_false (show¬0<(b.x-a.x)*0-(b.y-a.y)* -x by rw[Int.mul_neg];omega)]
  revert hne';cases dn (cS a b M x 0) a<;>cases dn (cS a b M x 0) b<;>simp
 have hne2:b≠a:=fun e=>hne e.symm
 by_cases hy:a.y=b.y
 ·have hx:a.x≠b.x:=fun hx=>hne (by cases a;cases b;simp only[V.mk.injEq]at*;omega)
  rcases Int.lt_or_gt_of_ne hx with hx'|hx'
  ·obtain⟨M0,hM,hI⟩:=jQ hne (x:=0) (y:=1) (by omega) N
   obtain⟨M1,hM1,hI1⟩:=jQ hne2 (x:=0) (y:= -1) (by omega) N
   have i1:=hI (max M0 M1) (by omega)
   have i2:=hI1 (max M0 M1) (by omega)
   rw[vA]at i2;exact⟨_,_,i2,i1,sum i2.1 i1.1 (ydec _ (by omega)) (off i2 i1) (horiz _ (by omega) hy hx)⟩
  ·obtain⟨M0,hM,hI⟩:=jQ hne (x:=0) (y:= -1) (by omega) N
   obtain⟨M1,hM1,hI1⟩:=jQ hne2 (x:=0) (y:=1) (by omega) N
   have i1:=hI (max M0 M1) (by omega)
   have i2:=hI1 (max M0 M1) (by omega)
   rw[vA]at i2;exact⟨_,_,i2,i1,fun h=>sum i1.1 i2.1 (ydec _ (by omega)) (fun e he hne hm=>off i2 i1 e he hne hm.flip) (horiz _ (by omega) hy hx) h.symm⟩
 ·have go:∀x:Int,0<(b.x-a.x)*0-(b.y-a.y)*x->∃p q:P3,In (thin b a N) p/\In (thin a b N) q/\dV r p≠dV r q:=by
   intro x hx;obtain⟨M0,hM,hI⟩:=jQ hne (x:=x) (y:=0) hx N;obtain⟨M1,hM1,hI1⟩:=jQ hne2 (x:= -x) (y:=0) (by rw[Int.mul_neg,show a.y-b.y= -(b.y-a.y) by omega,Int.neg_mul];omega) N
   have i1:=hI (max M0 M1) (by omega)
   have i2:=hI1 (max M0 M1) (by omega)
   rw[vA]at i2;exact⟨_,_,i2,i1,sum i2.1 i1.1 (Int.le_refl _) (off i2 i1) (vert _ _ (by omega) hy hx)⟩
  rcases Int.lt_or_gt_of_ne hy with h|h
  ·exact go (-1) (by omega)
  ·exact go 1 (by omega)
end Go.Proofs.YtdaeofhdgabhjaaGreat.Geo
namespace Go.Proofs.YtdaeofhdgabhjaaGreat.Geo
structure Net(W:List V)(side:V->V->Prop):Prop where
 symm:∀{a b},side a b->side b a
 ne:∀{a b},side a b->a≠b
 mem:∀{a b},side a b->a∈W
 clear:∀{a b v},side a b->v∈W->∀s t k:Int,0<=s->0<=t->cmb s (pt a) t (pt b)=cmb k (pt v) 0 (pt v)->0<k->v=a\/v=b
 apart:∀{a b c d},side a b->side c d->∀x y s t:Int,0<x->0<y->0<s->0<t->cmb x (pt a) y (pt b)=cmb s (pt c) t (pt d)->(a=c/\b=d)\/(a=d/\b=c)
theorem gP(x y:Int)(p q:P3):cmb x p y q=cmb y q x p:=by unfold cmb;simp only[P3.mk.injEq];refine⟨?_,?_,?_⟩<;>omega
theorem aAX{F G z g:P3}(h1:0<ev F z)(h2:0<ev G z)(h:ev F g<0\/ev G g<0):
  ∃s t:Int,0<s/\0<t/\((ev F (cmb s z t g)=0/\0<=ev G (cmb s z t g))\/(ev G (cmb s z t g)=0/\0<=ev F (cmb s z t g))):=by
 have i1:ev F (cmb (-(ev F g)) z (ev F z) g)=0:=by rw[aM,Int.neg_mul,Int.mul_comm];omega
 have i2:ev G (cmb (-(ev G g)) z (ev G z) g)=0:=by rw[aM,Int.neg_mul,Int.mul_comm];omega
 have i3:ev G (cmb (-(ev F g)) z (ev F z) g)= -ev F (cmb (-(ev G g)) z (ev G z) g):=by
  rw[aM,aM,Int.neg_mul,Int.neg_mul,Int.mul_comm (ev F z),Int.mul_comm (ev G z)];rw[Int.mul_comm (ev F g),Int.mul_comm (ev G g)];omega
 by_cases hF:ev F g<0
 ·by_cases hG:0<=ev G (cmb (-(ev F g)) z (ev F z) g)
  ·exact⟨_,_,by omega,h1,.inl ⟨i1,hG⟩⟩
  ·have hg:ev G g<0:=by
    rw[aM]at hG;refine Int.not_le.1 fun hn=>hG ?_
    have:=mpp (show 0<= -(ev F g) by omega) (show 0<=ev G z by omega)
    have:=mpp (show 0<=ev F z by omega) hn
    omega
   exact⟨_,_,by omega,h2,.inr ⟨i2,by omega⟩⟩
 ·have hg:ev G g<0:=by omega
  refine⟨_,_,by omega,h2,.inr ⟨i2,?_⟩⟩
  rw[aM];have:=mpp (show 0<= -(ev G g) by omega) (show 0<=ev F z by omega)
  have:=mpp (show 0<=ev G z by omega) (show 0<=ev F g by omega)
  omega
theorem aLY(a b c:V)(f q:P3):ev (lin a b) (pt c)*ev f q=ev (lin b c) q*ev f (pt a)+ev (lin c a) q*ev f (pt b)+ev (lin a b) q*ev f (pt c):=by
 unfold ev lin pt;grind
theorem Fg(a b c:V)(q:P3):ev (lin a b) (pt c)*q.d=ev (lin b c) q+ev (lin c a) q+ev (lin a b) q:=by
 unfold ev lin pt;grind
theorem oL{a b c:V}{q:P3}(h:ev (lin a b) q=0):cmb (ev (lin b c) q) (pt a) (ev (lin c a) q) (pt b)=⟨ev (lin a b) (pt c)*q.x,ev (lin a b) (pt c)*q.y,ev (lin a b) (pt c)*q.d⟩:=by
 unfold ev lin at h;unfold cmb ev lin pt;simp only[P3.mk.injEq];refine⟨?_,?_,?_⟩<;>grind
theorem iR(a b c:V):ev (lin b c) (pt a)=ev (lin a b) (pt c):=by unfold ev lin pt;grind
theorem rS{a b:V}{s t:Int}(ht:0<t)(h:cmb s (pt a) t (pt b)=cmb (s+t) (pt a) 0 (pt a)):b=a:=by
 unfold cmb pt at h;simp only[P3.mk.injEq]at h;obtain⟨h1,h2,_⟩:=h;have e1:t*(b.x-a.x)=0:=by grind
 have e2:t*(b.y-a.y)=0:=by grind
 cases a;cases b;simp only[V.mk.injEq];rcases Int.mul_eq_zero.1 e1 with k|k<;>rcases Int.mul_eq_zero.1 e2 with k2|k2<;>first|omega|(dsimp only at*;omega)
section
variable {W:List V} {side:V->V->Prop}
theorem Net.same(H:Net W side){a b u v:V}(hab:side a b)(huv:side u v){x y s t:Int}(hx:0<x)(hy:0<y)(hs:0<=s)(ht:0<=t)(h:cmb x (pt u) y (pt v)=cmb s (pt a) t (pt b)):
  (u=a/\v=b)\/(u=b/\v=a):=by
 have hd:=congrArg P3.d h;simp only[cmb,pt]at hd;rcases Int.lt_or_le 0 s with hs'|hs'
 ·rcases Int.lt_or_le 0 t with ht'|ht'
  ·exact H.apart huv hab x y s t hx hy hs' ht' h
  ·have t0:t=0:=by omega
   subst t0;have h':cmb x (pt u) y (pt v)=cmb s (pt a) 0 (pt a):=by rw[h];unfold cmb;simp
   rcases H.clear huv (H.mem hab) x y s (by omega) (by omega) h' hs' with e|e
   ·exfalso;subst e;have:=rS (a:=a) (b:=v) (s:=x) hy (by rw[h'];unfold cmb pt;simp;refine⟨?_,?_,?_⟩<;>grind)
    exact H.ne huv this.symm
   ·exfalso;subst e;have:=rS (a:=a) (b:=u) (s:=y) hx (by rw[gP,h'];unfold cmb pt;simp;refine⟨?_,?_,?_⟩<;>grind)
    exact H.ne huv this
 ·have s0:s=0:=by omega
  subst s0;have h':cmb x (pt u) y (pt v)=cmb t (pt b) 0 (pt b):=by rw[h];unfold cmb;simp
  rcases H.clear huv (H.mem (H.symm hab)) x y t (by omega) (by omega) h' (by omega)with e|e
  ·exfalso;subst e;have:=rS (a:=b) (b:=v) (s:=x) hy (by rw[h'];unfold cmb pt;simp;refine⟨?_,?_,?_⟩<;>grind)
   exact H.ne huv this.symm
  ·exfalso;subst e;have:=rS (a:=b) (b:=u) (s:=y) hx (by rw[gP,h'];unfold cmb pt;simp;refine⟨?_,?_,?_⟩<;>grind)
   exact H.ne huv this
structure Corner(W:List V)(side:V->V->Prop)(a b c:V)(h:Int):Prop where
 ab:side a b
 ac:side a c
 left:0<ev (lin a b) (pt c)
 none:∀x,side a x->¬(0<ev (lin a b) (pt x)/\0<ev (lin c a) (pt x))
 low:0<=h
 top:∀w∈W,w≠a->0<=ev (lin a b) (pt w)->0<=ev (lin c a) (pt w)->ev (lin b c) (pt w)<=h
def over(b c:V)(h:Int):P3:=⟨(lin b c).x,(lin b c).y,(lin b c).d-h⟩
theorem lC(b c:V)(h:Int)(q:P3):ev (over b c h) q=ev (lin b c) q-h*q.d:=by unfold ev over;grind
theorem Corner.free(H:Net W side){a b c:V}{h:Int}(K:Corner W side a b c h){u v:V}(huv:side u v):iP [lin a b,lin c a,over b c h] ⟨u,v⟩:=by
 have key:∀{u v:V},side u v->∀x y:Int,0<=x->0<=y->0<x+y->0<ev (lin a b) (cmb x (pt u) y (pt v))->0<ev (lin c a) (cmb x (pt u) y (pt v))->0<ev (over b c h) (cmb x (pt u) y (pt v))->0<ev (over b c h) (pt u)->0<x->False:=by
  intro u v huv x y hx hy hxy h1 h2 h3 h4 hx0;have hη:0<ev (lin b c) (pt u):=by rw[lC]at h4;have:=K.low;simp only[pt]at h4|-;omega
  by_cases hin:0<=ev (lin a b) (pt u)/\0<=ev (lin c a) (pt u)
  ·by_cases hua:u=a
   ·subst hua;have:=K.none v huv;rw[aM,bB]at h1;rw[aM,bR]at h2;refine this ⟨?_,?_⟩
    ·rcases Int.lt_or_le 0 (ev (lin u b) (pt v))with g|g
     ·exact g
     ·have:=mpn hy g;omega
    ·rcases Int.lt_or_le 0 (ev (lin c u) (pt v))with g|g
     ·exact g
     ·have:=mpn hy g;omega
   ·have:=K.top u (H.mem huv) hua hin.1 hin.2;rw[lC]at h4;simp only[pt]at h4 this;omega
  ·obtain⟨s,t,hs,ht,hp⟩:=aAX (F:=lin a b) (G:=lin c a) (z:=cmb x (pt u) y (pt v)) (g:=pt u) h1 h2 (by omega)
   have hover:0<ev (over b c h) (cmb s (cmb x (pt u) y (pt v)) t (pt u)):=by
    rw[aM];have:=Int.mul_pos hs h3;have:=Int.mul_pos ht h4;omega
   have hd:0<(cmb s (cmb x (pt u) y (pt v)) t (pt u)).d:=by
    simp only[cmb,pt];have:=Int.mul_pos hs hxy;grind
   have hη2:0<ev (lin b c) (cmb s (cmb x (pt u) y (pt v)) t (pt u)):=by
    rw[lC]at hover;have:=mpp K.low (show 0<=(cmb s (cmb x (pt u) y (pt v)) t (pt u)).d by omega);omega
   have hy0:0<y:=by
    rcases Int.lt_or_le 0 y with g|g
    ·exact g
    ·have:y=0:=by omega
     subst y;rw[aM]at h1 h2;exfalso;apply hin;refine⟨?_,?_⟩
     ·rcases Int.lt_or_le (ev (lin a b) (pt u)) 0 with g|g
      ·have:=Int.mul_neg_of_pos_of_neg hx0 g;omega
      ·exact g
     ·rcases Int.lt_or_le (ev (lin c a) (pt u)) 0 with g|g
      ·have:=Int.mul_neg_of_pos_of_neg hx0 g;omega
      ·exact g
   have exp:cmb s (cmb x (pt u) y (pt v)) t (pt u)=cmb (s*x+t) (pt u) (s*y) (pt v):=by
    unfold cmb;simp only[P3.mk.injEq];refine⟨?_,?_,?_⟩<;>grind
   have w1:0<s*x+t:=by have:=Int.mul_pos hs hx0;omega
   have w2:0<s*y:=Int.mul_pos hs hy0;rw[exp]at hp hη2;have D:=K.left;have sc:∀{q:P3} {p1 p2:V} {m n:Int},cmb m (pt p1) n (pt p2)=⟨ev (lin a b) (pt c)*q.x,ev (lin a b) (pt c)*q.y,ev (lin a b) (pt c)*q.d⟩->∀{X Y:Int},q=cmb X (pt u) Y (pt v)->cmb (ev (lin a b) (pt c)*X) (pt u) (ev (lin a b) (pt c)*Y) (pt v)=cmb m (pt p1) n (pt p2):=by
    intro q p1 p2 m n hq X Y hXY;rw[hq,hXY];unfold cmb;simp only[P3.mk.injEq];refine⟨?_,?_,?_⟩<;>grind
   rcases hp with⟨g1,g2⟩|⟨g1,g2⟩
   ·have:=sc (oL (c:=c) g1) rfl;rcases H.same K.ab huv (Int.mul_pos D w1) (Int.mul_pos D w2) (by omega) g2 this with⟨rfl,rfl⟩|⟨rfl,rfl⟩
    ·rw[aM,bB,bR]at h1;omega
    ·rw[aM,bB,bR]at h1;omega
   ·have e0:ev (lin c a) (pt b)=ev (lin a b) (pt c):=(iR b c a).symm▸by rw[iR]
    have:=oL (a:=c) (b:=a) (c:=b) g1;rw[e0]at this;have:=sc this rfl;rcases H.same (H.symm K.ac) huv (Int.mul_pos D w1) (Int.mul_pos D w2) g2 (by omega) this with⟨rfl,rfl⟩|⟨rfl,rfl⟩
    ·rw[aM,bB,bR]at h2;omega
    ·rw[aM,bB,bR]at h2;omega
 refine Me fun x y hx hy hxy hq=> ?_
 have e1:∀g:P3,x*ev g (pt u)+y*ev g (pt v)=ev g (cmb x (pt u) y (pt v)):=fun g=>(aM _ _ _ _ _).symm
 simp only[List.mem_cons,List.not_mem_nil,or_false,forall_eq_or_imp,forall_eq,e1]at hq;obtain⟨h1,h2,h3⟩:=hq;have h3':=h3;rw[aM]at h3';by_cases hu:0<x*ev (over b c h) (pt u)
 ·have hx0:0<x:=by
   rcases Int.lt_or_le 0 x with g|g
   ·exact g
   ·have:x=0:=by omega
    subst x;omega
  refine key huv x y hx hy hxy h1 h2 h3 ?_ hx0;rcases Int.lt_or_le 0 (ev (over b c h) (pt u))with g|g
  ·exact g
  ·have:=mpn hx g;omega
 ·have hv:0<y*ev (over b c h) (pt v):=by omega
  have hy0:0<y:=by
   rcases Int.lt_or_le 0 y with g|g
   ·exact g
   ·have:y=0:=by omega
    subst y;omega
  rw[gP]at h1 h2 h3;refine key (H.symm huv) y x hy hx (by omega) h1 h2 h3 ?_ hy0
  rcases Int.lt_or_le 0 (ev (over b c h) (pt v))with g|g
  ·exact g
  ·have:=mpn hy g;omega
end
end Go.Proofs.YtdaeofhdgabhjaaGreat.Geo
namespace Go.Proofs.YtdaeofhdgabhjaaGreat.Geo
structure Filled(W:List V)(side:V->V->Prop)(ins:P3->Bool):Prop where
 net:Net W side
 same:∀p q:P3,0<p.d->0<q.d->(∀u v,side u v->¬iO ⟨u,v⟩ p q)->ins p=ins q
 max:∀u∈W,∀w∈W,u≠w->(∀c d,side c d->∀x y s t:Int,0<=x->0<=y->0<s->0<t->cmb x (pt c) y (pt d)≠cmb s (pt u) t (pt w))->ins (cmb 1 (pt u) 1 (pt w))=true->side u w
 far:∃B:Int,0<=B/\∀q:P3,0<q.d->(B*q.d<q.x\/q.x< -(B*q.d)\/B*q.d<q.y\/q.y< -(B*q.d))->ins q=false
def Lft(ins:P3->Bool)(a b:V):Prop:=∃N0:Int,∀N,N0<=N->∀q,In (thin a b N) q->ins q=true
theorem Lk{α:Type}(f:α->Int):∀{l:List α},l≠[]->∃x∈l,∀y∈l,f y<=f x
 |[],h=>absurd rfl h
 |[x],_=>⟨x,List.mem_cons_self,fun y hy=>by rw[List.mem_singleton.1 hy];exact Int.le_refl _⟩
 |x::y::l,_=>by
  obtain⟨z,hz,h⟩:=Lk f (l:=y::l) (by simp)
  by_cases hx:f z<=f x
  ·exact⟨x,List.mem_cons_self,fun w hw=>by rcases List.mem_cons.1 hw with rfl|hw;exact Int.le_refl _;have:=h w hw;omega⟩
  ·exact⟨z,List.mem_cons_of_mem _ hz,fun w hw=>by rcases List.mem_cons.1 hw with rfl|hw;omega;exact h w hw⟩
section
variable {W:List V} {side:V->V->Prop} {ins:P3->Bool}
theorem Filled.const(H:Filled W side ins){F:List P3}(hF:∀u v,side u v->iP F ⟨u,v⟩){p q:P3}(hp:In F p)(hq:In F q):ins p=ins q:=
 H.same p q hp.1 hq.1 fun u v huv=>(hF u v huv).no hp hq
theorem Lft.near{a b c:V}(hne:a≠b)(hL:Lft ins a b)(hc:0<ev (lin a b) (pt c)){h:Int}(hh:h<ev (lin a b) (pt c)):
  ∃q,In [lin a b,lin c a,over b c h] q/\ins q=true:=by
 obtain⟨N0,hN⟩:=hL;have hL2:=fM hne;have e9:(b.x-a.x)*(b.x-a.x)-(b.y-a.y)* -(b.y-a.y)=eK a b:=by unfold eK;grind
 obtain⟨M0,hM0,hI⟩:=jQ hne (x:= -(b.y-a.y)) (y:=b.x-a.x) (by omega) (max N0 0)
 have e1:∀M:Int,ev (lin c a) (cS a b M (-(b.y-a.y)) (b.x-a.x))=M*ev (lin a b) (pt c)+ev (lin c a) ⟨-(b.y-a.y),b.x-a.x,0⟩:=fun M=>by unfold ev lin cS pt;grind
 generalize hk:ev (lin c a) ⟨-(b.y-a.y),b.x-a.x,0⟩=k at e1;have hP:=hI (M0+k.natAbs) (by omega)
 have hβ:0<ev (lin c a) (cS a b (M0+k.natAbs) (-(b.y-a.y)) (b.x-a.x)):=by
  rw[e1];have:=Int.mul_le_mul_of_nonneg_left (show 1<=ev (lin a b) (pt c) by omega) (show 0<=M0+(k.natAbs:Int) by omega)
  omega
 generalize cS a b (M0+k.natAbs) (-(b.y-a.y)) (b.x-a.x)=P at*;obtain⟨p0,p1,p2,p3⟩:=kX.1 hP;have e0:ev (lin b c) (pt a)=ev (lin a b) (pt c):=iR a b c;refine⟨cmb (1+(ev (over b c h) P).natAbs) (pt a) 1 P,⟨by simp only[cmb,pt];omega,?_⟩,hN (max N0 0) (by omega) _ ?_⟩
 ·simp only[List.mem_cons,List.not_mem_nil,or_false,forall_eq_or_imp,forall_eq];refine⟨?_,?_,?_⟩
  ·rw[aM,bB];omega
  ·rw[aM,bR];omega
  ·rw[aM];have ho:1<=ev (over b c h) (pt a):=by rw[lC,e0];show 1<=ev (lin a b) (pt c)-h*1;omega
   have:=Int.mul_le_mul_of_nonneg_left ho (show 0<=1+((ev (over b c h) P).natAbs:Int) by omega)
   omega
 ·rw[kX,aM,aM,aM,bB,iS,nQ,wA];have g1:=mpp (show 0<=1+((ev (over b c h) P).natAbs:Int) by omega) (show 0<=eK a b by omega)
  have g2:max N0 0*(1*ev (lin a b) P)=max N0 0*ev (lin a b) P:=by rw[Int.one_mul]
  refine⟨by simp only[cmb,pt];omega,by omega,?_,?_⟩<;>rw[Int.mul_zero,Int.zero_add]at* <;>omega
theorem aH5{u v b c:V}{D p q r s:Int}(hD:D≠0)(g1:cmb p (pt b) q (pt c)=⟨D*u.x,D*u.y,D⟩)(g2:cmb r (pt b) s (pt c)=⟨D*v.x,D*v.y,D⟩):
  cmb r (pt u) (-p) (pt v)=cmb (q-s) (pt c) 0 (pt c)/\cmb (-s) (pt u) q (pt v)=cmb (q-s) (pt b) 0 (pt b):=by
 unfold cmb pt at*;simp only[P3.mk.injEq]at*;obtain⟨a1,a2,a3⟩:=g1;obtain⟨b1,b2,b3⟩:=g2;refine⟨⟨?_,?_,by omega⟩,⟨?_,?_,by omega⟩⟩<;>(apply Int.eq_of_mul_eq_mul_left hD;grind)
theorem ear(H:Filled W side ins){a b c:V}(hab:side a b)(hac:side a c)(hc:0<ev (lin a b) (pt c))(hn:∀x,side a x->¬(0<ev (lin a b) (pt x)/\0<ev (lin c a) (pt x)))(hL:Lft ins a b):
  (∀w∈W,0<=ev (lin a b) (pt w)->0<=ev (lin b c) (pt w)->0<=ev (lin c a) (pt w)->w=a\/w=b\/w=c)/\
  (∀u v,side u v->iP [lin a b,lin c a,over b c 0] ⟨u,v⟩)/\(∀q,In [lin a b,lin c a,over b c 0] q->ins q=true)/\side b c:=by
 have N:=H.net;have hne:=N.ne hab;by_cases hE:W.filter (fun w=>decide (0<=ev (lin a b) (pt w))&&decide (0<=ev (lin b c) (pt w))&&decide (0<=ev (lin c a) (pt w))&&decide (w≠a)&&decide (w≠b)&&decide (w≠c))=[]
 case neg=>
  exfalso;obtain⟨w,hw,hmax⟩:=Lk (fun w=>ev (lin b c) (pt w)) hE
  simp only[List.mem_filter,Bool.and_eq_true,decide_eq_true_eq]at hw hmax;obtain⟨hwW,⟨⟨⟨⟨⟨w1,w2⟩,w3⟩,w4⟩,w5⟩,w6⟩⟩:=hw;have K:Corner W side a b c (ev (lin b c) (pt w)):=by
   refine⟨hab,hac,hc,hn,w2,fun w' hw' ha h1 h2=> ?_⟩
   by_cases h3:ev (lin b c) (pt w')<=0
   ·omega
   ·refine hmax w' ⟨hw',⟨⟨⟨⟨⟨h1,by omega⟩,h2⟩,ha⟩,?_⟩,?_⟩⟩
    ·rintro rfl;rw[bB]at h3;omega
    ·rintro rfl;rw[bR]at h3;omega
  have bs:=Fg a b c (pt w);have α0:ev (lin a b) (pt w)≠0:=fun h0=>by
   have hb:=oL (c:=c) h0;rcases N.clear hab hwW (ev (lin b c) (pt w)) (ev (lin c a) (pt w)) (ev (lin a b) (pt c)) w2 w3 (by rw[hb];unfold cmb;simp) hc with e|e
   ·exact w4 e
   ·exact w5 e
  have β0:ev (lin c a) (pt w)≠0:=fun h0=>by
   have hb:=oL (a:=c) (b:=a) (c:=b) h0;have e0:ev (lin c a) (pt b)=ev (lin a b) (pt c):=by unfold ev lin pt;grind
   rw[e0]at hb;rcases N.clear (N.symm hac) hwW (ev (lin a b) (pt w)) (ev (lin b c) (pt w)) (ev (lin a b) (pt c)) w1 w2 (by rw[hb];unfold cmb;simp) hc with e|e
   ·exact w6 e
   ·exact w4 e
  simp only[pt]at bs;have hlt:ev (lin b c) (pt w)<ev (lin a b) (pt c):=by simp only[pt]at*;omega
  have hfree:∀u v,side u v->iP _ ⟨u,v⟩:=fun u v huv=>K.free N huv
  have hin:∀s t:Int,0<s->0<t->In [lin a b,lin c a,over b c (ev (lin b c) (pt w))] (cmb s (pt a) t (pt w)):=by
   intro s t hs ht;refine⟨by simp only[cmb,pt];omega,?_⟩
   simp only[List.mem_cons,List.not_mem_nil,or_false,forall_eq_or_imp,forall_eq];refine⟨?_,?_,?_⟩
   ·rw[aM,bB];have:=Int.mul_pos ht (show 0<ev (lin a b) (pt w) by omega);omega
   ·rw[aM,bR];have:=Int.mul_pos ht (show 0<ev (lin c a) (pt w) by omega);omega
   ·rw[aM,lC,lC,iR];have e1:ev (lin b c) (pt w)-ev (lin b c) (pt w)*(pt w).d=0:=by simp only[pt];omega
    have:=Int.mul_pos hs (show 0<ev (lin a b) (pt c)-ev (lin b c) (pt w)*(pt a).d by simp only[pt]at*;omega)
    rw[e1];omega
  obtain⟨q,hq,hqi⟩:=hL.near hne hc hlt;have hmid:ins (cmb 1 (pt a) 1 (pt w))=true:=by rw[H.const hfree (hin 1 1 (by omega) (by omega)) hq];exact hqi
  have haw:=H.max a (N.mem hab) w hwW (fun e=>w4 e.symm) (fun c' d' hcd x y s t hx hy hs ht he=>by
   obtain⟨f,hf,g⟩:=hfree c' d' hcd x y hx hy (by have:=congrArg P3.d he;simp only[cmb,pt]at this;omega)
   have:=(hin s t hs ht).2 f hf;rw[<-he,aM]at this;change x*ev f (pt c')+y*ev f (pt d')<=0 at g;omega) hmid
  exact hn w haw ⟨by omega,by omega⟩
 case pos=>
  have hv:∀w∈W,0<=ev (lin a b) (pt w)->0<=ev (lin b c) (pt w)->0<=ev (lin c a) (pt w)->w=a\/w=b\/w=c:=by
   intro w hw h1 h2 h3;refine Classical.byContradiction fun hne'=> ?_
   have:w∈([] :List V):=by
    rw[<-hE];simp only[List.mem_filter,Bool.and_eq_true,decide_eq_true_eq];refine⟨hw,⟨⟨⟨⟨⟨h1,h2⟩,h3⟩,?_⟩,?_⟩,?_⟩⟩<;>intro e<;>exact hne' (by simp[e])
   cases this
  have K:Corner W side a b c 0:=by
   refine⟨hab,hac,hc,hn,Int.le_refl _,fun w' hw' ha h1 h2=> ?_⟩
   refine Int.not_lt.1 fun h3=> ?_
   rcases hv w' hw' h1 (by omega) h2 with e|e|e
   ·exact ha e
   ·rw[e,bB]at h3;omega
   ·rw[e,bR]at h3;omega
  have hfree:∀u v,side u v->iP [lin a b,lin c a,over b c 0] ⟨u,v⟩:=fun u v huv=>K.free N huv
  obtain⟨q,hq,hqi⟩:=hL.near hne hc hc;have hins:∀q,In [lin a b,lin c a,over b c 0] q->ins q=true:=fun q' hq'=>by rw[H.const hfree hq' hq];exact hqi
  refine⟨hv,hfree,hins,?_⟩;have hbc:b≠c:=fun e=>by subst e;rw[bR]at hc;omega
  have e1:ev (lin c a) (pt b)=ev (lin a b) (pt c):=by unfold ev lin pt;grind
  have bs:∀w:V,ev (lin a b) (pt c)=ev (lin b c) (pt w)+ev (lin c a) (pt w)+ev (lin a b) (pt w):=fun w=>by
   have:=Fg a b c (pt w);simp only[pt]at this|-;omega
  refine Classical.byContradiction fun hns=> ?_
  have hopen:∀c' d',side c' d'->∀x y s t:Int,0<=x->0<=y->0<s->0<t->cmb x (pt c') y (pt d')≠cmb s (pt b) t (pt c):=by
   intro u v huv x y s t hx hy hs ht he;have ed:=congrArg P3.d he;have eη:=congrArg (ev (lin b c)) he;have eα:=congrArg (ev (lin a b)) he;have eβ:=congrArg (ev (lin c a)) he;simp only[cmb,pt]at ed;rw[aM,aM,bB,bR]at eη;rw[aM,aM,bR]at eα;rw[aM,aM,bB,e1]at eβ;have p1:=Int.mul_pos ht hc;have p2:=Int.mul_pos hs hc;have novert:∀w,w∈W->∀k:Int,0<k->k*ev (lin a b) (pt w)=t*ev (lin a b) (pt c)->k*ev (lin c a) (pt w)=s*ev (lin a b) (pt c)->k*ev (lin b c) (pt w)=0->False:=by
    intro w hw k hk h1 h2 h3;have g1:0<ev (lin a b) (pt w):=by
     rcases Int.lt_or_le 0 (ev (lin a b) (pt w))with g|g
     ·exact g
     ·have:=mpn (show 0<=k by omega) g;omega
    have g2:0<ev (lin c a) (pt w):=by
     rcases Int.lt_or_le 0 (ev (lin c a) (pt w))with g|g
     ·exact g
     ·have:=mpn (show 0<=k by omega) g;omega
    have g3:ev (lin b c) (pt w)=0:=by
     rcases Int.mul_eq_zero.1 h3 with g|g
     ·omega
     ·exact g
    rcases hv w hw (by omega) (by omega) (by omega)with e|e|e<;>subst e
    ·rw[bB]at g1;omega
    ·rw[bR]at g1;omega
    ·rw[bB]at g2;omega
   have hx0:0<x:=by
    rcases Int.lt_or_le 0 x with g|g
    ·exact g
    ·have:x=0:=by omega
     subst x;exact(novert v (N.mem (N.symm huv)) y (by omega) (by omega) (by omega) (by omega)).elim
   have hy0:0<y:=by
    rcases Int.lt_or_le 0 y with g|g
    ·exact g
    ·have:y=0:=by omega
     subst y;exact(novert u (N.mem huv) x (by omega) (by omega) (by omega) (by omega)).elim
   have up:∀{u v:V} {x y:Int},side u v->0<x->0<y->x*ev (lin b c) (pt u)+y*ev (lin b c) (pt v)=0->0<x*ev (lin a b) (pt u)+y*ev (lin a b) (pt v)->0<x*ev (lin c a) (pt u)+y*ev (lin c a) (pt v)->¬0<ev (lin b c) (pt u):=by
    intro u v x y huv hx hy h1 h2 h3 h4;obtain⟨f,hf,g⟩:=hfree u v huv ((1+(ev (lin a b) (pt u)).natAbs+(ev (lin c a) (pt u)).natAbs)*x+1) ((1+(ev (lin a b) (pt u)).natAbs+(ev (lin c a) (pt u)).natAbs)*y) (by have:=mpp (show 0<=(1:Int)+(ev (lin a b) (pt u)).natAbs+(ev (lin c a) (pt u)).natAbs by omega) (show 0<=x by omega);omega) (mpp (by omega) (by omega)) (by have:=mpp (show 0<=(1:Int)+(ev (lin a b) (pt u)).natAbs+(ev (lin c a) (pt u)).natAbs by omega) (show 0<=x by omega);have:=mpp (show 0<=(1:Int)+(ev (lin a b) (pt u)).natAbs+(ev (lin c a) (pt u)).natAbs by omega) (show 0<=y by omega);omega)
    change (_*x+1)*ev f (pt u)+_*y*ev f (pt v)<=0 at g;have e2:∀K A B:Int,(K*x+1)*A+K*y*B=K*(x*A+y*B)+A:=fun K A B=>by grind
    rw[e2]at g;simp only[List.mem_cons,List.not_mem_nil,or_false]at hf;rcases hf with rfl|rfl|rfl
    ·have:=Int.mul_le_mul_of_nonneg_left (show 1<=x*ev (lin a b) (pt u)+y*ev (lin a b) (pt v) by omega) (show 0<=(1:Int)+(ev (lin a b) (pt u)).natAbs+(ev (lin c a) (pt u)).natAbs by omega)
     omega
    ·have:=Int.mul_le_mul_of_nonneg_left (show 1<=x*ev (lin c a) (pt u)+y*ev (lin c a) (pt v) by omega) (show 0<=(1:Int)+(ev (lin a b) (pt u)).natAbs+(ev (lin c a) (pt u)).natAbs by omega)
     omega
    ·have e3:∀w:V,ev (over b c 0) (pt w)=ev (lin b c) (pt w):=fun w=>by rw[lC];omega
     rw[e3,e3,h1]at g;omega
   have uu:=up huv hx0 hy0 (by omega) (by omega) (by omega)
   have vv:=up (N.symm huv) hy0 hx0 (by omega) (by omega) (by omega)
   have s1:=mpn (show 0<=x by omega) (show ev (lin b c) (pt u)<=0 by omega)
   have s2:=mpn (show 0<=y by omega) (show ev (lin b c) (pt v)<=0 by omega)
   have u0:ev (lin b c) (pt u)=0:=by
    rcases Int.mul_eq_zero.1 (show x*ev (lin b c) (pt u)=0 by omega)with g|g
    ·omega
    ·exact g
   have v0:ev (lin b c) (pt v)=0:=by
    rcases Int.mul_eq_zero.1 (show y*ev (lin b c) (pt v)=0 by omega)with g|g
    ·omega
    ·exact g
   have out:∀w∈W,ev (lin b c) (pt w)=0->¬(0<ev (lin a b) (pt w)/\0<ev (lin c a) (pt w)):=by
    rintro w hw h0 ⟨h1,h2⟩;rcases hv w hw (by omega) (by omega) (by omega)with e|e|e<;>subst e
    ·rw[bB]at h1;omega
    ·rw[bR]at h1;omega
    ·rw[bB]at h2;omega
   have ou:=out u (N.mem huv) u0;have ov:=out v (N.mem (N.symm huv)) v0;have bu:=bs u;have bv:=bs v;have fin:∀{u v:V},side u v->ev (lin b c) (pt u)=0->ev (lin b c) (pt v)=0->0<ev (lin a b) (pt u)->ev (lin c a) (pt u)<=0->0<ev (lin c a) (pt v)->ev (lin a b) (pt v)<=0->False:=by
    intro u v huv u0 v0 h1 h2 h3 h4;have bu:=bs u;have bv:=bs v;have D0:ev (lin a b) (pt c)≠0:=by omega
    have g1:=oL (a:=b) (b:=c) (c:=a) (q:=pt u) u0;have g2:=oL (a:=b) (b:=c) (c:=a) (q:=pt v) v0;rw[iR a b c]at g1 g2;have cc:=aH5 (u:=u) (v:=v) D0 (g1.trans (by show(⟨_,_,ev (lin a b) (pt c)*1⟩:P3)=_;rw[Int.mul_one];rfl)) (g2.trans (by show(⟨_,_,ev (lin a b) (pt c)*1⟩:P3)=_;rw[Int.mul_one];rfl))
    have k1:c=u\/c=v:=N.clear huv (N.mem (N.symm hac)) (ev (lin c a) (pt v)) (-(ev (lin c a) (pt u))) (ev (lin a b) (pt u)-ev (lin a b) (pt v)) (by omega) (by omega) cc.1 (by omega)
    have k2:b=u\/b=v:=N.clear huv (N.mem (N.symm hab)) (-(ev (lin a b) (pt v))) (ev (lin a b) (pt u)) (ev (lin a b) (pt u)-ev (lin a b) (pt v)) (by omega) (by omega) cc.2 (by omega)
    rcases k1 with e|e<;>rcases k2 with e'|e'
    ·exact hbc (e'.trans e.symm)
    ·subst e e';exact hns (N.symm huv)
    ·subst e e';exact hns huv
    ·exact hbc (e'.trans e.symm)
   by_cases hu:0<ev (lin a b) (pt u)
   ·have:ev (lin c a) (pt u)<=0:=by omega
    have hvv:0<ev (lin c a) (pt v):=by
     rcases Int.lt_or_le 0 (ev (lin c a) (pt v))with g|g
     ·exact g
     ·have:=mpn (show 0<=x by omega) this;have:=mpn (show 0<=y by omega) g;omega
    exact fin huv u0 v0 hu this hvv (by omega)
   ·have hu':0<ev (lin c a) (pt u):=by omega
    have hvv:0<ev (lin a b) (pt v):=by
     rcases Int.lt_or_le 0 (ev (lin a b) (pt v))with g|g
     ·exact g
     ·have:=mpn (show 0<=x by omega) (show ev (lin a b) (pt u)<=0 by omega);have:=mpn (show 0<=y by omega) g;omega
    exact fin (N.symm huv) v0 u0 hvv (by omega) hu' (by omega)
  refine hns (H.max b (N.mem (N.symm hab)) c (N.mem (N.symm hac)) hbc hopen ?_);rw[<-hqi];refine H.same _ _ (by simp only[cmb,pt];omega) hq.1 fun u v huv hm=> ?_
  obtain⟨x,y,s,t,hx,hy,hxy,hs,ht,he⟩:=hm;rcases Int.lt_or_le 0 t with ht0|ht0
  ·obtain⟨f,hf,g⟩:=hfree u v huv x y hx hy hxy;have eF:=congrArg (ev f) he;rw[aM,aM]at eF;change x*ev f (pt u)+y*ev f (pt v)<=0 at g;change x*ev f (pt u)+y*ev f (pt v)=_ at eF;have g1:=Int.mul_pos ht0 (hq.2 f hf);have g2:0<=s*ev f (cmb 1 (pt b) 1 (pt c)):=mpp hs (by
    simp only[List.mem_cons,List.not_mem_nil,or_false]at hf;rcases hf with rfl|rfl|rfl
    ·rw[aM,bR];omega
    ·rw[aM,bB,e1];omega
    ·rw[aM,lC,lC,bB,bR];omega)
   omega
  ·have t0:t=0:=by omega
   subst t0;have hs0:0<s:=by
    have:=congrArg P3.d he;simp only[cmb,pt]at this;rcases Int.lt_or_le 0 s with g|g
    ·exact g
    ·have:s=0:=by omega
     subst s;omega
   refine hopen u v huv x y s s hx hy hs0 hs0 ?_;rw[show cmb x (pt u) y (pt v)=cmb s (cmb 1 (pt b) 1 (pt c)) 0 q from he]
   unfold cmb;simp only[P3.mk.injEq];refine⟨?_,?_,?_⟩<;>grind
end
end Go.Proofs.YtdaeofhdgabhjaaGreat.Geo
namespace Go.Proofs.YtdaeofhdgabhjaaGreat.Geo
theorem De{α:Type}(f g:α->Int):∀{l:List α},l≠[]->(∀x∈l,0<g x)->∃x∈l,∀y∈l,f x*g y<=f y*g x
 |[],h,_=>absurd rfl h
 |[x],_,_=>⟨x,List.mem_cons_self,fun y hy=>by rw[List.mem_singleton.1 hy];exact Int.le_refl _⟩
 |x::y::l,_,hg=>by
  obtain⟨z,hz,h⟩:=De f g (l:=y::l) (by simp) fun w hw=>hg w (List.mem_cons_of_mem _ hw)
  have gx:=hg x List.mem_cons_self;have gz:=hg z (List.mem_cons_of_mem _ hz);by_cases hx:f x*g z<=f z*g x
  ·refine⟨x,List.mem_cons_self,fun w hw=> ?_⟩
   rcases List.mem_cons.1 hw with rfl|hw
   ·exact Int.le_refl _
   ·have gw:=hg w (List.mem_cons_of_mem _ hw);have h1:=h w hw;have e1:=Int.mul_le_mul_of_nonneg_right hx (show 0<=g w by omega)
    have e2:=Int.mul_le_mul_of_nonneg_right h1 (show 0<=g x by omega)
    have e3:(f x*g w)*g z<=(f w*g x)*g z:=by
     have a1:f x*g w*g z=f x*g z*g w:=by grind
     have a2:f w*g x*g z=f w*g z*g x:=by grind
     have a3:f z*g x*g w=f z*g w*g x:=by grind
     omega
    exact Int.le_of_mul_le_mul_right e3 gz
  ·refine⟨z,List.mem_cons_of_mem _ hz,fun w hw=> ?_⟩
   rcases List.mem_cons.1 hw with rfl|hw
   ·omega
   ·exact h w hw
theorem La{a b:V}{P r:P3}(h:ev (ln (pt a) P) r=0)(f:P3):ev (lin a b) P*ev f r=(ev (lin a b) P*r.d-ev (lin a b) r*P.d)*ev f (pt a)+ev (lin a b) r*ev f P:=by
 unfold ev ln lin pt at*;grind
theorem aBx{a b:V}{P r:P3}(h:ev (ln (pt a) P) r=0):cmb (ev (lin a b) P) r 0 r=cmb (ev (lin a b) P*r.d-ev (lin a b) r*P.d) (pt a) (ev (lin a b) r) P:=by
 unfold cmb ev ln lin pt at*;simp only[P3.mk.injEq];refine⟨?_,?_,?_⟩<;>grind
theorem around{a b x:V}{P q:P3}:ev (lin a b) P*ev (lin a x) q=ev (lin a b) (pt x)*ev (ln (pt a) P) q-ev (lin a b) q*ev (ln (pt a) P) (pt x):=by
 unfold ev ln lin pt;grind
theorem fan{a b u:V}{P w:P3}:ev (ln (pt a) P) (pt u)*ev (lin a b) w=ev (lin u a) w*ev (lin a b) P+ev (ln (pt a) P) w*ev (lin a b) (pt u):=by
 unfold ev ln lin pt;grind
theorem aAB(u v:V)(a:V)(P:P3)(f:P3):ev f (cmb (-(ev (ln (pt a) P) (pt v))) (pt u) (ev (ln (pt a) P) (pt u)) (pt v))=ev (lin u v) P*ev f (pt a)-ev (lin u v) (pt a)*ev f P:=by
 unfold ev cmb ln lin pt;grind
theorem zD{u v:V}{p:P3}(h:ev (lin v u) p=0)(f:P3):eK v u*ev f p=(eK v u*p.d-ev (aX v u) p)*ev f (pt v)+ev (aX v u) p*ev f (pt u):=by
 have h1:=congrArg (ev f) (jJ h);rw[aM]at h1;rw[h1];unfold ev;grind
theorem aBC{u v:V}(hne:u≠v){ρ q p:P3}(hq:ev (lin v u) q=0)(hp:ev (lin v u) p=0)(h0:ev ρ q=0)(f:P3):
  ev ρ (pt u)*q.d*ev f p=(ev ρ (pt u)*p.d-ev ρ p)*ev f q+ev ρ p*q.d*ev f (pt u):=by
 have hL:=fM (u:=v) (v:=u) fun e=>hne e.symm
 have a1:=zD hp f;have a2:=zD hp ρ;have a3:=zD hq f;have a4:=zD hq ρ;rw[h0]at a4;generalize ev (aX v u) p=B at*;generalize ev (aX v u) q=D at*;generalize eK v u=L at*;generalize ev f p=fp at*;generalize ev f q=fq at*;generalize ev ρ p=rp at*;generalize ev ρ (pt u)=ru at*;generalize ev ρ (pt v)=rv at*;generalize ev f (pt u)=fu at*;generalize ev f (pt v)=fv at*;have hL2:L*L≠0:=Int.mul_ne_zero (by omega) (by omega)
 apply Int.eq_of_mul_eq_mul_left hL2;have e1:L*L*(ru*q.d*fp)=ru*(L*q.d)*(L*fp):=by grind
 have e2:L*L*((ru*p.d-rp)*fq+rp*q.d*fu)=(ru*(L*p.d)-L*rp)*(L*fq)+(L*rp)*(L*q.d)*fu:=by grind
 rw[e1,e2,a1,a2,a3];generalize hA:L*p.d-B=A at*;generalize hC:L*q.d-D=C at*;have f1:L*p.d=A+B:=by omega
 have f2:L*q.d=C+D:=by omega
 rw[f1,f2];grind
section
variable {W:List V} {side:V->V->Prop} {ins:P3->Bool}
structure Seen(W:List V)(side:V->V->Prop)(a b u v x:V)(P q:P3):Prop where
 net:Net W side
 pos:0<ev (lin a b) P
 thinR:∀w∈W,0<ev (lin a b) (pt w)->0<ev (ln (pt a) P) (pt w)
 uv:side u v
 ru:0<ev (ln (pt a) P) (pt u)
 rv:ev (ln (pt a) P) (pt v)<0
 au:0<ev (lin a b) (pt u)
 first:∀c d,side c d->0<ev (ln (pt a) P) (pt c)->ev (ln (pt a) P) (pt d)<0->∀p:P3,0<p.d->ev (ln (pt a) P) p=0->0<ev (lin a b) p->(∃x y:Int,0<x/\0<y/\p=cmb x (pt c) y (pt d))->ev (lin v u) p<=0
 ka:0<ev (lin v u) (pt a)
 mem:x∈W
 rx:0<ev (ln (pt a) P) (pt x)
 kx:0<=ev (lin v u) (pt x)
 ax:0<ev (lin a b) (pt x)
 ux:0<=ev (lin a x) (pt u)
 least:∀w∈W,0<ev (ln (pt a) P) (pt w)->0<=ev (lin v u) (pt w)->0<=ev (lin a w) (pt u)->0<=ev (lin a x) (pt w)/\(ev (lin a x) (pt w)=0->ev (lin a b) (pt x)<=ev (lin a b) (pt w))
 qd:0<q.d
 qr:ev (ln (pt a) P) q=0
 qk:ev (lin v u) q=0
 qa:0<ev (lin a b) q
 quv:∃x y:Int,0<x/\0<y/\q=cmb x (pt u) y (pt v)
theorem dZ{a k:Int}(hk:0<k)(h:0<k*a):0<a:=by
 rcases Int.lt_or_le 0 a with g|g
 ·exact g
 ·have:=mpn (show 0<=k by omega) g;omega
theorem pV{a k:Int}(hk:0<k)(h:k*a<0):a<0:=by
 rcases Int.lt_or_le a 0 with g|g
 ·exact g
 ·have:=mpp (show 0<=k by omega) g;omega
theorem Seen.ang{a b u v x:V}{P q:P3}(_S:Seen W side a b u v x P q){w:V}(r:P3):ev (lin a b) P*ev (lin a w) r=ev (lin a b) (pt w)*ev (ln (pt a) P) r-ev (lin a b) r*ev (ln (pt a) P) (pt w):=around
theorem Seen.wedge{a b u v x:V}{P q:P3}(S:Seen W side a b u v x P q){c d:V}(hcd:side c d){x1 y1:Int}(hx1:0<x1)(hy1:0<=y1)
  (h1:0<ev (ln (pt a) P) (cmb x1 (pt c) y1 (pt d))) (h2:0<ev (lin v u) (cmb x1 (pt c) y1 (pt d))) (h3:ev (lin a x) (cmb x1 (pt c) y1 (pt d))<=0) (hc:ev (lin a x) (pt c)<0):False:=by
 have N:=S.net;have hap:=S.pos;have hvu:u≠v:=N.ne S.uv;by_cases hin:0<=ev (ln (pt a) P) (pt c)/\0<=ev (lin v u) (pt c)
 ·
  have e1:=S.ang (w:=x) (pt c);have n1:=Int.mul_neg_of_pos_of_neg hap hc;have hr:0<ev (ln (pt a) P) (pt c):=by
   rcases Int.lt_or_le 0 (ev (ln (pt a) P) (pt c))with g|g
   ·exact g
   ·exfalso;have r0:ev (ln (pt a) P) (pt c)=0:=by omega
    have ac:ev (lin a b) (pt c)<=0:=by
     refine Int.not_lt.1 fun g2=> ?_
     have:=S.thinR c (N.mem hcd) g2;omega
    rw[r0,Int.mul_zero]at e1;have:=mnp ac (show 0<=ev (ln (pt a) P) (pt x) by have:=S.rx;omega)
    omega
  have hac:0<ev (lin a b) (pt c):=by
   have p1:=Int.mul_pos S.ax hr;have p2:0<ev (lin a b) (pt c)*ev (ln (pt a) P) (pt x):=by omega
   rw[Int.mul_comm]at p2;exact dZ S.rx p2
  have eu:=S.ang (w:=x) (pt u);have ec:=S.ang (w:=c) (pt u);have m1:=mpp (show 0<=ev (lin a b) P by omega) S.ux
  have key:0<=ev (lin a b) P*ev (lin a c) (pt u):=by
   rw[ec];have k1:ev (ln (pt a) P) (pt c)*ev (lin a b) (pt x)<ev (ln (pt a) P) (pt x)*ev (lin a b) (pt c):=by
    rw[Int.mul_comm (ev (ln (pt a) P) (pt c)),Int.mul_comm (ev (ln (pt a) P) (pt x))];omega
   have k2:ev (ln (pt a) P) (pt x)*ev (lin a b) (pt u)<=ev (ln (pt a) P) (pt u)*ev (lin a b) (pt x):=by
    rw[Int.mul_comm (ev (ln (pt a) P) (pt x)),Int.mul_comm (ev (ln (pt a) P) (pt u))];omega
   have k3:=xI (n1:=ev (ln (pt a) P) (pt c)) (d1:=ev (lin a b) (pt c)) (n2:=ev (ln (pt a) P) (pt x)) (d2:=ev (lin a b) (pt x)) (n3:=ev (ln (pt a) P) (pt u)) (d3:=ev (lin a b) (pt u)) hac S.ax S.au k1 k2;rw[Int.mul_comm (ev (lin a b) (pt c)),Int.mul_comm (ev (lin a b) (pt u))];omega
  have hsc:0<=ev (lin a c) (pt u):=nnl hap (by rw[Int.mul_comm];exact key)
  have:=(S.least c (N.mem hcd) hr hin.2 hsc).1;omega
 ·obtain⟨s,t,hs,ht,hp⟩:=aAX (F:=ln (pt a) P) (G:=lin v u) (z:=cmb x1 (pt c) y1 (pt d)) (g:=pt c) h1 h2 (by omega)
  have hd0:0<(cmb s (cmb x1 (pt c) y1 (pt d)) t (pt c)).d:=by
   simp only[cmb,pt];have:=mpp (show 0<=s by omega) (show 0<=x1*1+y1*1 by omega);omega
  have hγ:ev (lin a x) (cmb s (cmb x1 (pt c) y1 (pt d)) t (pt c))<0:=by
   rw[aM];have:=mpn (show 0<=s by omega) h3;have:=Int.mul_neg_of_pos_of_neg ht hc;omega
  have hy0:0<y1:=by
   rcases Int.lt_or_le 0 y1 with g|g
   ·exact g
   ·have:y1=0:=by omega
    subst y1;rw[aM,Int.zero_mul,Int.add_zero]at h1 h2;exact(hin ⟨by have:=dZ hx1 h1;omega,by have:=dZ hx1 h2;omega⟩).elim
  have exp:cmb s (cmb x1 (pt c) y1 (pt d)) t (pt c)=cmb (s*x1+t) (pt c) (s*y1) (pt d):=by
   unfold cmb;simp only[P3.mk.injEq];refine⟨?_,?_,?_⟩<;>grind
  have w1:0<s*x1+t:=by have:=Int.mul_pos hs hx1;omega
  have w2:0<s*y1:=Int.mul_pos hs hy0;have hev:∀f,ev f (cmb s (cmb x1 (pt c) y1 (pt d)) t (pt c))=s*ev f (cmb x1 (pt c) y1 (pt d))+t*ev f (pt c):=fun f=>aM _ _ _ _ _
  have hr1:=hev (ln (pt a) P);generalize hpp:cmb s (cmb x1 (pt c) y1 (pt d)) t (pt c)=p at*;obtain⟨xq,yq,hxq,hyq,hq⟩:=S.quv;have clash:∀k m:Int,0<k->0<m->cmb k p 0 p=cmb m q 0 q->False:=by
   intro k m hk hm he;have:cmb (k*(s*x1+t)) (pt c) (k*(s*y1)) (pt d)=cmb (m*xq) (pt u) (m*yq) (pt v):=by
    rw[exp,hq]at he;unfold cmb at he|-;simp only[P3.mk.injEq]at he|-;refine⟨?_,?_,?_⟩<;>grind
   rcases N.apart hcd S.uv _ _ _ _ (Int.mul_pos hk w1) (Int.mul_pos hk w2) (Int.mul_pos hm hxq) (Int.mul_pos hm hyq) this with⟨rfl,rfl⟩|⟨rfl,rfl⟩
   ·rw[aM,bB,bR]at h2;omega
   ·rw[aM,bB,bR]at h2;omega
  have caseR:ev (ln (pt a) P) p=0->0<=ev (lin v u) p->False:=by
   intro g1 g2;have e1:=S.ang (w:=x) p;have n1:=Int.mul_neg_of_pos_of_neg hap hγ;have hap':0<ev (lin a b) p:=by
    rw[g1,Int.mul_zero]at e1;have p2:0<ev (lin a b) p*ev (ln (pt a) P) (pt x):=by omega
    rw[Int.mul_comm]at p2;exact dZ S.rx p2
   have rz:=Int.mul_pos hs h1;have rc:ev (ln (pt a) P) (pt c)<0:=pV ht (by omega)
   have rd:0<ev (ln (pt a) P) (pt d):=by
    rw[aM]at h1;have:=Int.mul_neg_of_pos_of_neg hx1 rc;exact dZ hy0 (by omega)
   have hf:=S.first d c (N.symm hcd) rd rc p hd0 g1 hap' ⟨s*y1,s*x1+t,w2,w1,by rw[exp,gP]⟩
   have k0:ev (lin v u) p=0:=by omega
   have r1:=aBx (a:=a) (b:=b) g1;have r2:=aBx (a:=a) (b:=b) S.qr;have v1:=La (a:=a) (b:=b) g1 (lin v u);have v2:=La (a:=a) (b:=b) S.qr (lin v u);rw[k0,Int.mul_zero]at v1;rw[S.qk,Int.mul_zero]at v2;have hqa:=S.qa;have hka:=S.ka;have hqd:=S.qd;have cross:ev (lin a b) q*p.d=ev (lin a b) p*q.d:=by
    have e3:ev (lin a b) P*ev (lin v u) (pt a)*(ev (lin a b) q*p.d-ev (lin a b) p*q.d)=0:=by
     generalize ev (lin a b) P=A at*;generalize ev (lin v u) (pt a)=K at*;generalize ev (lin a b) q=aq at*;generalize ev (lin a b) p=ap at*;generalize ev (lin v u) P=KP at*;grind
    rcases Int.mul_eq_zero.1 e3 with g|g
    ·have:=Int.mul_pos hap hka;omega
    ·omega
   refine clash (ev (lin a b) P*ev (lin a b) q) (ev (lin a b) P*ev (lin a b) p) (Int.mul_pos hap hqa) (Int.mul_pos hap hap') ?_;unfold cmb at r1 r2|-;simp only[P3.mk.injEq]at r1 r2|-;generalize ev (lin a b) P=A at*;generalize ev (lin a b) q=aq at*;generalize ev (lin a b) p=ap at*;refine⟨?_,?_,?_⟩<;>grind
  rcases hp with⟨g1,g2⟩|⟨g1,g2⟩
  ·exact caseR g1 g2
  ·by_cases hr0:ev (ln (pt a) P) p=0
   ·exact caseR hr0 (by omega)
   ·have hrp:0<ev (ln (pt a) P) p:=by omega
    have lq:=aBC hvu S.qk g1 S.qr (lin a x);have γq:ev (lin a x) q<0:=by
     have e1:=S.ang (w:=x) q;rw[S.qr,Int.mul_zero]at e1;have:=Int.mul_pos S.qa S.rx;exact pV hap (by omega)
    have hbet:0<ev (ln (pt a) P) (pt u)*p.d-ev (ln (pt a) P) p:=by
     refine Int.not_le.1 fun hn=> ?_
     have t1:=mnn hn (show ev (lin a x) q<=0 by omega)
     have t2:=mpp (mpp (show 0<=ev (ln (pt a) P) p by omega) (show 0<=q.d by have:=S.qd;omega)) S.ux
     have t3:=Int.mul_neg_of_pos_of_neg (Int.mul_pos S.ru S.qd) hγ;omega
    have lx:∀f,ev (ln (pt a) P) (pt u)*q.d*ev f p=(ev (ln (pt a) P) (pt u)*p.d-ev (ln (pt a) P) p)*ev f q+ev (ln (pt a) P) p*q.d*ev f (pt u):=fun f=>aBC hvu S.qk g1 S.qr f
    have cx:=lx ⟨1,0,0⟩;have cy:=lx ⟨0,1,0⟩;have cd:=lx ⟨0,0,1⟩;have ex:∀r:P3,ev ⟨1,0,0⟩ r=r.x:=fun r=>by unfold ev;simp
    have ey:∀r:P3,ev ⟨0,1,0⟩ r=r.y:=fun r=>by unfold ev;simp
    have ed:∀r:P3,ev ⟨0,0,1⟩ r=r.d:=fun r=>by unfold ev;simp
    rw[ex,ex,ex]at cx;rw[ey,ey,ey]at cy;rw[ed,ed,ed]at cd;have hM:0<ev (ln (pt a) P) (pt u)*q.d:=Int.mul_pos S.ru S.qd;have hB:0<ev (ln (pt a) P) p*q.d:=Int.mul_pos hrp S.qd;generalize ev (ln (pt a) P) (pt u)*q.d=M at*;generalize ev (ln (pt a) P) (pt u)*p.d-ev (ln (pt a) P) p=A at*;generalize ev (ln (pt a) P) p*q.d=B at*;have:cmb (M*(s*x1+t)) (pt c) (M*(s*y1)) (pt d)=cmb (A*xq+B) (pt u) (A*yq) (pt v):=by
     rw[exp,hq]at cx cy cd;unfold cmb at*;simp only[P3.mk.injEq]at*;refine⟨?_,?_,?_⟩<;>grind
    rcases N.apart hcd S.uv _ _ _ _ (Int.mul_pos hM w1) (Int.mul_pos hM w2) (show 0<A*xq+B by have:=Int.mul_pos hbet hxq;omega) (Int.mul_pos hbet hyq) this with⟨rfl,rfl⟩|⟨rfl,rfl⟩
    ·rw[aM,bB,bR]at h2;omega
    ·rw[aM,bB,bR]at h2;omega
end
end Go.Proofs.YtdaeofhdgabhjaaGreat.Geo
namespace Go.Proofs.YtdaeofhdgabhjaaGreat.Geo
theorem aHg{α:Type}(f:α->Int):∀l:List α,∃M:Int,0<=M/\∀x∈l,f x<=M/\ -M<=f x
 |[] =>⟨0,Int.le_refl _,fun x hx=>by cases hx⟩
 |x::l=>by
  obtain⟨M,h0,h⟩:=aHg f l;refine⟨M+(f x).natAbs,by omega,fun y hy=> ?_⟩
  rcases List.mem_cons.1 hy with rfl|hy
  ·omega
  ·have:=h y hy;omega
section
variable {W:List V} {side:V->V->Prop} {ins:P3->Bool}
theorem Lft.start{a b:V}(hne:a≠b)(hL:Lft ins a b)(W:List V):∃(N:Int) (P:P3),0<=N/\In (thin a b N) P/\(∀q,In (thin a b N) q->ins q=true)/\∀w∈W,0<ev (lin a b) (pt w)->0<ev (ln (pt a) P) (pt w):=by
 obtain⟨N0,hN⟩:=hL;have hL2:=fM hne;have e9:(b.x-a.x)*(b.x-a.x)-(b.y-a.y)* -(b.y-a.y)=eK a b:=by unfold eK;grind
 obtain⟨M0,hM0,hI⟩:=jQ hne (x:= -(b.y-a.y)) (y:=b.x-a.x) (by omega) (max N0 0)
 obtain⟨M1,hM1,hB⟩:=aHg (fun w=>ev (ln (pt a) ⟨-(b.y-a.y),b.x-a.x,0⟩) (pt w)) W
 refine⟨max N0 0,cS a b (M0+M1) (-(b.y-a.y)) (b.x-a.x),by omega,hI _ (by omega),hN _ (by omega),fun w hw h=> ?_⟩
 have e1:∀M:Int,ev (ln (pt a) (cS a b M (-(b.y-a.y)) (b.x-a.x))) (pt w)=M*ev (lin a b) (pt w)+ev (ln (pt a) ⟨-(b.y-a.y),b.x-a.x,0⟩) (pt w):=fun M=>by unfold ev ln lin cS pt;grind
 rw[e1];have:=hB w hw;have h2:=Int.mul_le_mul_of_nonneg_left (show 1<=ev (lin a b) (pt w) by omega) (show 0<=M0+M1 by omega)
 omega
theorem aEB(a w u:V):ev (lin u a) (pt w)=ev (lin a w) (pt u):=by unfold ev lin pt;grind
open Classical in
theorem see(H:Filled W side ins){a b:V}(hab:side a b)(hL:Lft ins a b):
  ∃(N:Int) (u v x:V) (P q:P3),0<=N/\In (thin a b N) P/\(∀q,In (thin a b N) q->ins q=true)/\Seen W side a b u v x P q:=by
 have Nt:=H.net;have hne:=Nt.ne hab;obtain⟨N,P,hN0,hP,hin,hW⟩:=hL.start hne W;obtain⟨p0,p1,p2,p3⟩:=kX.1 hP;have hray:ev (ln (pt a) P) P=0:=Cy _ _;have hra:ev (ln (pt a) P) (pt a)=0:=Mg _ _;obtain⟨B,hB0,hB⟩:=H.far;have hfar:∃T:Int,0<=T/\ins (cmb (-(T*P.d)) (pt a) (T+1) P)=false:=by
  have hd:∀T:Int,(cmb (-(T*P.d)) (pt a) (T+1) P).d=P.d:=fun T=>by simp only[cmb,pt];grind
  have hx:∀T:Int,(cmb (-(T*P.d)) (pt a) (T+1) P).x=P.x+T*(P.x-a.x*P.d):=fun T=>by simp only[cmb,pt];grind
  have hy:∀T:Int,(cmb (-(T*P.d)) (pt a) (T+1) P).y=P.y+T*(P.y-a.y*P.d):=fun T=>by simp only[cmb,pt];grind
  have hB2:=mpp hB0 (show 0<=P.d by omega)
  refine⟨1+B*P.d+P.x.natAbs+P.y.natAbs,by omega,hB _ (by rw[hd];exact p0) ?_⟩
  rw[hd,hx,hy];have hδ:P.x-a.x*P.d≠0\/P.y-a.y*P.d≠0:=by
   refine Classical.byContradiction fun hn=> ?_
   have h1:P.x=a.x*P.d:=by omega
   have h2:P.y=a.y*P.d:=by omega
   have:ev (lin a b) P=0:=by unfold ev lin;rw[h1,h2];grind
   omega
  have grow:∀δ:Int,0<δ->1+B*P.d+P.x.natAbs+P.y.natAbs<=(1+B*P.d+P.x.natAbs+P.y.natAbs)*δ:=fun δ h=>by
   have:=Int.mul_le_mul_of_nonneg_left (show 1<=δ by omega) (show 0<=1+B*P.d+(P.x.natAbs:Int)+(P.y.natAbs:Int) by omega);omega
  rcases hδ with h|h
  ·rcases Int.lt_or_gt_of_ne h with g|g
   ·have:=grow (-(P.x-a.x*P.d)) (by omega);rw[Int.mul_neg]at this;omega
   ·have:=grow _ g;omega
  ·rcases Int.lt_or_gt_of_ne h with g|g
   ·have:=grow (-(P.y-a.y*P.d)) (by omega);rw[Int.mul_neg]at this;omega
   ·have:=grow _ g;omega
 obtain⟨T,hT0,hT⟩:=hfar;have hTd:(cmb (-(T*P.d)) (pt a) (T+1) P).d=P.d:=by simp only[cmb,pt];grind
 have hcross:∃c d,side c d/\0<ev (ln (pt a) P) (pt c)/\ev (ln (pt a) P) (pt d)<0/\0<ev (lin a b) (cmb (-(ev (ln (pt a) P) (pt d))) (pt c) (ev (ln (pt a) P) (pt c)) (pt d)):=by
  refine Classical.byContradiction fun hn=> ?_
  have hs:ins P=ins (cmb (-(T*P.d)) (pt a) (T+1) P):=by
   refine H.same _ _ p0 (by rw[hTd];exact p0) fun c d hcd hm=> ?_
   obtain⟨x,y,s,t,hx,hy,hxy,hs,ht,he⟩:=hm;have eρ:=congrArg (ev (ln (pt a) P)) he;have eα:=congrArg (ev (lin a b)) he;have ed:=congrArg P3.d he;rw[aM,aM,aM,hray,hra]at eρ;rw[aM,aM,aM,bB,Int.mul_zero,Int.zero_add]at eα;rw[Int.mul_zero,Int.mul_zero,Int.mul_zero,Int.add_zero,Int.mul_zero,Int.add_zero]at eρ;dsimp only at eρ eα;have hst:0<s\/0<t:=by
    simp only[cmb,pt]at ed;refine Classical.byContradiction fun h0=> ?_
    have:s=0:=by omega
    have:t=0:=by omega
    subst s t;omega
   have hα:0<x*ev (lin a b) (pt c)+y*ev (lin a b) (pt d):=by
    have g1:=mpp hs (show 0<=ev (lin a b) P by omega)
    have g2:=mpp ht (show 0<=(T+1)*ev (lin a b) P from mpp (by omega) (by omega))
    rcases hst with k|k
    ·have:=Int.mul_pos k p1;omega
    ·have:=Int.mul_pos k (Int.mul_pos (show 0<T+1 by omega) p1);omega
   have hρ:x*ev (ln (pt a) P) (pt c)+y*ev (ln (pt a) P) (pt d)=0:=by omega
   have nv:∀w,w∈W->ev (ln (pt a) P) (pt w)<=0->ev (lin a b) (pt w)<=0:=fun w hw h=>by
    refine Int.not_lt.1 fun g=> ?_
    have:=hW w hw g;omega
   have hcW:=Nt.mem hcd;have hdW:=Nt.mem (Nt.symm hcd);rcases Int.lt_trichotomy (ev (ln (pt a) P) (pt c)) 0 with h1|h1|h1
   ·have a1:=nv c hcW (by omega)
    have m1:=mpn hx a1;have hy0:0<y:=by
     rcases Int.lt_or_le 0 y with g|g
     ·exact g
     ·have:y=0:=by omega
      subst y;omega
    have a2:0<ev (lin a b) (pt d):=dZ hy0 (by omega)
    have r2:=hW d hdW a2;refine hn ⟨d,c,Nt.symm hcd,r2,h1,?_⟩;rw[aM];have hx0:0<x:=by
     rcases Int.lt_or_le 0 x with g|g
     ·exact g
     ·have:x=0:=by omega
      subst x;have:=Int.mul_pos hy0 r2;omega
    refine dZ hx0 ?_;have e2:x*(-(ev (ln (pt a) P) (pt c))*ev (lin a b) (pt d)+ev (ln (pt a) P) (pt d)*ev (lin a b) (pt c))=ev (ln (pt a) P) (pt d)*(x*ev (lin a b) (pt c)+y*ev (lin a b) (pt d)):=by
     generalize ev (ln (pt a) P) (pt c)=rc at*;generalize ev (ln (pt a) P) (pt d)=rd at*;generalize ev (lin a b) (pt c)=ac at*;generalize ev (lin a b) (pt d)=ad at*;grind
    rw[e2];exact Int.mul_pos r2 hα
   ·have a1:=nv c hcW (by omega)
    have m1:=mpn hx a1;rw[h1]at hρ;have hy0:0<y:=by
     rcases Int.lt_or_le 0 y with g|g
     ·exact g
     ·have:y=0:=by omega
      subst y;omega
    have r0:ev (ln (pt a) P) (pt d)=0:=by
     rcases Int.mul_eq_zero.1 (show y*ev (ln (pt a) P) (pt d)=0 by omega)with g|g
     ·omega
     ·exact g
    have a2:=nv d hdW (by omega)
    have:=mpn hy a2;omega
   ·by_cases hx0:0<x
    ·have r2:ev (ln (pt a) P) (pt d)<0:=by
      have:=Int.mul_pos hx0 h1;refine Int.not_le.1 fun g=> ?_
      have:=mpp hy g;omega
     have hy0:0<y:=by
      rcases Int.lt_or_le 0 y with g|g
      ·exact g
      ·have:y=0:=by omega
       subst y;have:=Int.mul_pos hx0 h1;omega
     refine hn ⟨c,d,hcd,h1,r2,?_⟩;rw[aM];refine dZ hy0 ?_;have e2:y*(-(ev (ln (pt a) P) (pt d))*ev (lin a b) (pt c)+ev (ln (pt a) P) (pt c)*ev (lin a b) (pt d))=ev (ln (pt a) P) (pt c)*(x*ev (lin a b) (pt c)+y*ev (lin a b) (pt d)):=by
      generalize ev (ln (pt a) P) (pt c)=rc at*;generalize ev (ln (pt a) P) (pt d)=rd at*;generalize ev (lin a b) (pt c)=ac at*;generalize ev (lin a b) (pt d)=ad at*;grind
     rw[e2];exact Int.mul_pos h1 hα
    ·have x0:x=0:=by omega
     subst x;have hy0:0<y:=by omega
     have r0:ev (ln (pt a) P) (pt d)=0:=by
      rcases Int.mul_eq_zero.1 (show y*ev (ln (pt a) P) (pt d)=0 by omega)with g|g
      ·omega
      ·exact g
     have a2:=nv d hdW (by omega)
     have:=mpn hy a2;omega
  rw[hin P hP,hT]at hs;cases hs
 have hl:((W.flatMap fun c=>W.map fun d=>(c,d)).filter fun q=>decide (side q.1 q.2/\0<ev (ln (pt a) P) (pt q.1)/\ev (ln (pt a) P) (pt q.2)<0/\0<ev (lin a b) (cmb (-(ev (ln (pt a) P) (pt q.2))) (pt q.1) (ev (ln (pt a) P) (pt q.1)) (pt q.2))))≠[] :=by
  obtain⟨c,d,h1,h2⟩:=hcross;exact List.ne_nil_of_mem (List.mem_filter.2 ⟨List.mem_flatMap.2 ⟨c,Nt.mem h1,List.mem_map.2 ⟨d,Nt.mem (Nt.symm h1),rfl⟩⟩,decide_eq_true ⟨h1,h2⟩⟩)
 obtain⟨⟨u,v⟩,huv,hmin⟩:=De (fun q:V×V=>ev (lin a b) (cmb (-(ev (ln (pt a) P) (pt q.2))) (pt q.1) (ev (ln (pt a) P) (pt q.1)) (pt q.2))) (fun q:V×V=>ev (ln (pt a) P) (pt q.1)-ev (ln (pt a) P) (pt q.2)) hl fun q hq=>by
  have:=of_decide_eq_true (List.mem_filter.1 hq).2;omega
 have hs:=of_decide_eq_true (List.mem_filter.1 huv).2;dsimp only at hs hmin;obtain⟨suv,ru,rv,aq⟩:=hs;have uW:=Nt.mem suv;have vW:=Nt.mem (Nt.symm suv);have qd:(cmb (-(ev (ln (pt a) P) (pt v))) (pt u) (ev (ln (pt a) P) (pt u)) (pt v)).d=ev (ln (pt a) P) (pt u)-ev (ln (pt a) P) (pt v):=by
  show-(ev (ln (pt a) P) (pt v))*1+ev (ln (pt a) P) (pt u)*1=_;omega
 have qr:ev (ln (pt a) P) (cmb (-(ev (ln (pt a) P) (pt v))) (pt u) (ev (ln (pt a) P) (pt u)) (pt v))=0:=by
  rw[aM,Int.neg_mul,Int.mul_comm];omega
 have qk:ev (lin v u) (cmb (-(ev (ln (pt a) P) (pt v))) (pt u) (ev (ln (pt a) P) (pt u)) (pt v))=0:=by
  rw[aM,bB,bR];omega
 have ka:0<ev (lin v u) (pt a):=by
  have:=aAB u v a P (lin a b);rw[this,bB,Int.mul_zero,Int.zero_sub,<-Int.neg_mul]at aq;rw[lO];rw[Int.mul_comm]at aq;exact dZ p1 aq
 have av:ev (lin a b) (pt v)<=0:=by
  refine Int.not_lt.1 fun g=> ?_
  have:=hW v vW g;omega
 have au:0<ev (lin a b) (pt u):=by
  rw[aM]at aq;have:=mpn (show 0<=ev (ln (pt a) P) (pt u) by omega) av
  exact dZ (show 0< -(ev (ln (pt a) P) (pt v)) by omega) (by omega)
 have αX:∀w:V,0<ev (ln (pt a) P) (pt w)->0<=ev (lin a w) (pt u)->0<ev (lin a b) (pt w):=fun w h1 h2=>by
  have:=fan (a:=a) (b:=b) (u:=u) (P:=P) (w:=pt w);rw[aEB a w u]at this;have g1:=mpp h2 (show 0<=ev (lin a b) P by omega)
  have g2:=Int.mul_pos h1 au;exact dZ ru (by omega)
 have hX:(W.filter fun w=>decide (0<ev (ln (pt a) P) (pt w))&&decide (0<=ev (lin v u) (pt w))&&decide (0<=ev (lin a w) (pt u)))≠[] :=by
  refine List.ne_nil_of_mem (a:=u) (List.mem_filter.2 ⟨uW,?_⟩);rw[decide_eq_true ru,bR,bR];rfl
 have memX:∀{w:V},w∈(W.filter fun w=>decide (0<ev (ln (pt a) P) (pt w))&&decide (0<=ev (lin v u) (pt w))&&decide (0<=ev (lin a w) (pt u)))↔(w∈W/\0<ev (ln (pt a) P) (pt w)/\0<=ev (lin v u) (pt w)/\0<=ev (lin a w) (pt u)):=fun{w}=>by
  simp only[List.mem_filter,Bool.and_eq_true,decide_eq_true_eq];constructor
  ·rintro⟨h1,⟨h2,h3⟩,h4⟩;exact⟨h1,h2,h3,h4⟩
  ·rintro⟨h1,h2,h3,h4⟩;exact⟨h1,⟨h2,h3⟩,h4⟩
 obtain⟨x1,hx1,hm1⟩:=De (fun w:V=>ev (ln (pt a) P) (pt w)) (fun w:V=>ev (lin a b) (pt w)) hX fun w hw=>by
  obtain⟨_,h1,_,h2⟩:=memX.1 hw;exact αX w h1 h2
 have ang:∀w r:V,ev (lin a b) P*ev (lin a w) (pt r)=ev (lin a b) (pt w)*ev (ln (pt a) P) (pt r)-ev (lin a b) (pt r)*ev (ln (pt a) P) (pt w):=fun w r=>around
 have hX2:((W.filter fun w=>decide (0<ev (ln (pt a) P) (pt w))&&decide (0<=ev (lin v u) (pt w))&&decide (0<=ev (lin a w) (pt u))).filter fun w=>decide (ev (lin a x1) (pt w)=0))≠[] :=
  List.ne_nil_of_mem (a:=x1) (List.mem_filter.2 ⟨hx1,by rw[bR];rfl⟩)
 obtain⟨x,hx2,hm2⟩:=Lk (fun w:V=> -(ev (lin a b) (pt w))) hX2
 obtain⟨hx,hx0⟩:=List.mem_filter.1 hx2;have hx0:ev (lin a x1) (pt x)=0:=of_decide_eq_true hx0;obtain⟨xW,xr,xk,xs⟩:=memX.1 hx;obtain⟨x1W,x1r,x1k,x1s⟩:=memX.1 hx1;have ax:=αX x xr xs;have ax1:=αX x1 x1r x1s;have eq1:ev (lin a b) (pt x1)*ev (ln (pt a) P) (pt x)=ev (lin a b) (pt x)*ev (ln (pt a) P) (pt x1):=by
  have:=ang x1 x;rw[hx0,Int.mul_zero]at this;omega
 refine⟨N,u,v,x,P,_,hN0,hP,hin,Nt,p1,hW,suv,ru,rv,au,?_,ka,xW,xr,xk,ax,xs,?_,by rw[qd];omega,qr,qk,aq,⟨_,_,by omega,ru,rfl⟩⟩
 ·intro c d hcd rc rd p hpd hpr hpa ⟨x',y',hx',hy',hp⟩;have cW:=Nt.mem hcd;have dW:=Nt.mem (Nt.symm hcd);have eρ:=hpr;rw[hp,aM]at eρ;have prop:∀f:P3,ev (ln (pt a) P) (pt c)*ev f p=y'*ev f (cmb (-(ev (ln (pt a) P) (pt d))) (pt c) (ev (ln (pt a) P) (pt c)) (pt d)):=fun f=>by
   rw[hp,aM,aM];generalize ev (ln (pt a) P) (pt c)=rc' at*;generalize ev (ln (pt a) P) (pt d)=rd' at*;grind
  have pα:=prop (lin a b);have pd:=prop ⟨0,0,1⟩;have ed:∀r:P3,ev ⟨0,0,1⟩ r=r.d:=fun r=>by unfold ev;simp
  rw[ed,ed]at pd;have cd':(cmb (-(ev (ln (pt a) P) (pt d))) (pt c) (ev (ln (pt a) P) (pt c)) (pt d)).d=ev (ln (pt a) P) (pt c)-ev (ln (pt a) P) (pt d):=by
   show-(ev (ln (pt a) P) (pt d))*1+ev (ln (pt a) P) (pt c)*1=_;omega
  have hca:0<ev (lin a b) (cmb (-(ev (ln (pt a) P) (pt d))) (pt c) (ev (ln (pt a) P) (pt c)) (pt d)):=
   dZ hy' (by rw[<-pα];exact Int.mul_pos rc hpa)
  have hm:=hmin (c,d) (List.mem_filter.2 ⟨List.mem_flatMap.2 ⟨c,cW,List.mem_map.2 ⟨d,dW,rfl⟩⟩,decide_eq_true ⟨hcd,rc,rd,hca⟩⟩);dsimp only at hm;rw[<-cd',<-qd]at hm;have v1:=La (a:=a) (b:=b) hpr (lin v u);have v2:=La (a:=a) (b:=b) qr (lin v u);rw[qk,Int.mul_zero]at v2;have hqd:0<(cmb (-(ev (ln (pt a) P) (pt v))) (pt u) (ev (ln (pt a) P) (pt u)) (pt v)).d:=by rw[qd];omega
  generalize cmb (-(ev (ln (pt a) P) (pt v))) (pt u) (ev (ln (pt a) P) (pt u)) (pt v)=q at*;generalize cmb (-(ev (ln (pt a) P) (pt d))) (pt c) (ev (ln (pt a) P) (pt c)) (pt d)=q' at*;refine Int.not_lt.1 fun hk=> ?_
  have e3:ev (lin a b) P*(ev (lin a b) q*ev (lin v u) p)=ev (lin a b) P*(ev (lin v u) (pt a)*(ev (lin a b) q*p.d-ev (lin a b) p*q.d)):=by
   generalize ev (lin a b) P=A at*;generalize ev (lin v u) (pt a)=K at*;generalize ev (lin a b) q=aq' at*;generalize ev (lin a b) p=ap at*;generalize ev (lin v u) P=KP at*;generalize ev (lin v u) p=kp at*;grind
  have e4:=Int.eq_of_mul_eq_mul_left (show ev (lin a b) P≠0 by omega) e3
  have g1:=Int.mul_pos aq hk;have g2:0<ev (lin a b) q*p.d-ev (lin a b) p*q.d:=dZ ka (by omega)
  have g3:=Int.mul_le_mul_of_nonneg_left hm (show 0<=y' by omega)
  have g4:ev (ln (pt a) P) (pt c)*(ev (lin a b) q*p.d-ev (lin a b) p*q.d)<=0:=by
   have a1:ev (ln (pt a) P) (pt c)*(ev (lin a b) q*p.d-ev (lin a b) p*q.d)=ev (lin a b) q*(ev (ln (pt a) P) (pt c)*p.d)-(ev (ln (pt a) P) (pt c)*ev (lin a b) p)*q.d:=by grind
   rw[a1,pα,pd];have a2:ev (lin a b) q*(y'*q'.d)=y'*(ev (lin a b) q*q'.d):=by grind
   have a3:y'*ev (lin a b) q'*q.d=y'*(ev (lin a b) q'*q.d):=by grind
   rw[a2,a3];omega
  have:=Int.mul_pos rc g2;omega
 ·intro w wW wr wk ws;have hw:=memX.2 ⟨wW,wr,wk,ws⟩;have aw:=αX w wr ws;have h1:=hm1 w hw;have e1:=ang x w;have e2:ev (lin a b) (pt x1)*(ev (lin a b) (pt x)*ev (ln (pt a) P) (pt w)-ev (lin a b) (pt w)*ev (ln (pt a) P) (pt x))=ev (lin a b) (pt x)*(ev (ln (pt a) P) (pt w)*ev (lin a b) (pt x1)-ev (ln (pt a) P) (pt x1)*ev (lin a b) (pt w)):=by
   generalize ev (lin a b) (pt x1)=A1 at*;generalize ev (lin a b) (pt x)=A at*;generalize ev (lin a b) (pt w)=Aw at*;generalize ev (ln (pt a) P) (pt x1)=R1 at*;generalize ev (ln (pt a) P) (pt x)=R at*;generalize ev (ln (pt a) P) (pt w)=Rw at*;grind
  constructor
  ·have g:=mpp (show 0<=ev (lin a b) (pt x) by omega) (show 0<=ev (ln (pt a) P) (pt w)*ev (lin a b) (pt x1)-ev (ln (pt a) P) (pt x1)*ev (lin a b) (pt w) by omega)
   rw[<-e2]at g;have g2:0<=ev (lin a b) (pt x)*ev (ln (pt a) P) (pt w)-ev (lin a b) (pt w)*ev (ln (pt a) P) (pt x):=by
    rw[Int.mul_comm]at g;exact nnl ax1 g
   rw[<-e1]at g2;rw[Int.mul_comm]at g2;exact nnl p1 g2
  ·intro h0;rw[h0,Int.mul_zero]at e1;rw[<-e1,Int.mul_zero]at e2;have z:ev (ln (pt a) P) (pt w)*ev (lin a b) (pt x1)-ev (ln (pt a) P) (pt x1)*ev (lin a b) (pt w)=0:=by
    rcases Int.mul_eq_zero.1 e2.symm with g|g
    ·omega
    ·exact g
   have e3:=ang x1 w;have z2:ev (lin a x1) (pt w)=0:=by
    have:ev (lin a b) P*ev (lin a x1) (pt w)=0:=by rw[e3,Int.mul_comm (ev (lin a b) (pt x1)),Int.mul_comm (ev (lin a b) (pt w))];exact z
    rcases Int.mul_eq_zero.1 this with g|g
    ·omega
    ·exact g
   have:=hm2 w (List.mem_filter.2 ⟨hw,decide_eq_true z2⟩);omega
theorem yS{a b x w:V}(h0:ev (lin a x) (pt w)=0)(f:P3):ev (lin a b) (pt x)*ev f (pt w)=(ev (lin a b) (pt x)-ev (lin a b) (pt w))*ev f (pt a)+ev (lin a b) (pt w)*ev f (pt x):=by
 unfold ev lin pt at*;grind
theorem aMr{a b x c d:V}(hA:ev (lin a b) (pt x)≠0)(c0:ev (lin a x) (pt c)=0)(d0:ev (lin a x) (pt d)=0):
  cmb (ev (lin a b) (pt d)) (pt c) (-(ev (lin a b) (pt c))) (pt d)=cmb (ev (lin a b) (pt d)-ev (lin a b) (pt c)) (pt a) 0 (pt a):=by
 have rc1:=yS (b:=b) c0 ⟨1,0,0⟩;have rc2:=yS (b:=b) c0 ⟨0,1,0⟩;have rd1:=yS (b:=b) d0 ⟨1,0,0⟩;have rd2:=yS (b:=b) d0 ⟨0,1,0⟩;have ex:∀w:V,ev ⟨1,0,0⟩ (pt w)=w.x:=fun w=>by unfold ev pt;simp
 have ey:∀w:V,ev ⟨0,1,0⟩ (pt w)=w.y:=fun w=>by unfold ev pt;simp
 rw[ex,ex,ex]at rc1 rd1;rw[ey,ey,ey]at rc2 rd2;clear c0 d0 ex ey;generalize ev (lin a b) (pt x)=A at*;generalize ev (lin a b) (pt c)=C at*;generalize ev (lin a b) (pt d)=D at*;unfold cmb pt;simp only[P3.mk.injEq];refine⟨?_,?_,by omega⟩
 ·apply Int.eq_of_mul_eq_mul_left hA;grind
 ·apply Int.eq_of_mul_eq_mul_left hA;grind
theorem aCf{a x c d:V}{z:P3}{x1 y1 s:Int}(he:cmb x1 (pt c) y1 (pt d)=cmb s (cmb 1 (pt a) 1 (pt x)) 0 z):cmb x1 (pt c) y1 (pt d)=cmb s (pt a) s (pt x):=by
 rw[he];unfold cmb;simp only[P3.mk.injEq];refine⟨?_,?_,?_⟩<;>grind
set_option maxHeartbeats 2000000 in
theorem Yy(H:Filled W side ins){a b:V}(hab:side a b)(hL:Lft ins a b):∃x,side a x/\0<ev (lin a b) (pt x):=by
 have Nt:=H.net;have hne:=Nt.ne hab;refine Classical.byContradiction fun hno=> ?_
 obtain⟨N,u,v,x,P,q,hN0,hP,hin,S⟩:=see H hab hL;obtain⟨p0,p1,p2,p3⟩:=kX.1 hP;have hra:ev (ln (pt a) P) (pt a)=0:=Mg _ _;have hka:=S.ka;have hax:=S.ax;have hrx:=S.rx;have hkx:=S.kx;have hane:a≠x:=fun e=>by rw[<-e,bB]at hax;omega
 have vr:∀s t:Int,0<s->0<t->0<ev (ln (pt a) P) (cmb s (pt a) t (pt x)):=fun s t hs ht=>by rw[aM,hra];have:=Int.mul_pos ht hrx;omega
 have vk:∀s t:Int,0<s->0<t->0<ev (lin v u) (cmb s (pt a) t (pt x)):=fun s t hs ht=>by rw[aM];have:=Int.mul_pos hs hka;have:=mpp (show 0<=t by omega) hkx;omega
 have vg:∀s t:Int,ev (lin a x) (cmb s (pt a) t (pt x))=0:=fun s t=>by rw[aM,bB,bR];omega
 have tie:∀w∈W,ev (lin a x) (pt w)=0->0<ev (lin a b) (pt w)->0<=ev (lin v u) (pt w)->ev (lin a b) (pt x)<=ev (lin a b) (pt w):=by
  intro w hw h0 h1 h2;have e1:=S.ang (w:=x) (pt w);rw[h0,Int.mul_zero]at e1;have rw':0<ev (ln (pt a) P) (pt w):=S.thinR w hw h1;have eu:=S.ang (w:=x) (pt u);have ew:=S.ang (w:=w) (pt u);have m1:=mpp (show 0<=ev (lin a b) P by omega) S.ux
  have e2:ev (lin a b) (pt x)*(ev (lin a b) (pt w)*ev (ln (pt a) P) (pt u)-ev (lin a b) (pt u)*ev (ln (pt a) P) (pt w))=ev (lin a b) (pt w)*(ev (lin a b) (pt x)*ev (ln (pt a) P) (pt u)-ev (lin a b) (pt u)*ev (ln (pt a) P) (pt x)):=by
   generalize ev (lin a b) (pt x)=A at*;generalize ev (lin a b) (pt w)=Aw at*;generalize ev (ln (pt a) P) (pt x)=R at*;generalize ev (ln (pt a) P) (pt w)=Rw at*;generalize ev (ln (pt a) P) (pt u)=Ru at*;generalize ev (lin a b) (pt u)=Au at*;grind
  have g1:=mpp (show 0<=ev (lin a b) (pt w) by omega) (show 0<=ev (lin a b) (pt x)*ev (ln (pt a) P) (pt u)-ev (lin a b) (pt u)*ev (ln (pt a) P) (pt x) by omega)
  rw[<-e2,Int.mul_comm]at g1;have g2:=nnl hax g1;rw[<-ew,Int.mul_comm]at g2;exact(S.least w hw rw' h2 (nnl p1 g2)).2 h0
 have hopen:∀c d,side c d->∀x1 y1 s t:Int,0<=x1->0<=y1->0<s->0<t->cmb x1 (pt c) y1 (pt d)≠cmb s (pt a) t (pt x):=by
  intro c d hcd x1 y1 s t hx1 hy1 hs ht he;have zr:=vr s t hs ht;have zk:=vk s t hs ht;have zg:=vg s t;have ed:=congrArg P3.d he;simp only[cmb,pt]at ed;have eα:=congrArg (ev (lin a b)) he;rw[aM,aM,bB]at eα;have m1:=Int.mul_pos ht hax;rw[<-he]at zr zk zg;have hz:=zg;rw[aM]at hz;have n1:¬(0<x1/\ev (lin a x) (pt c)<0):=fun⟨h1,h2⟩=>S.wedge hcd h1 hy1 zr zk (by omega) h2
  have n2:¬(0<y1/\ev (lin a x) (pt d)<0):=fun⟨h1,h2⟩=>by
   rw[gP]at zr zk zg;exact S.wedge (Nt.symm hcd) h1 hx1 zr zk (by omega) h2
  have t1:0<=x1*ev (lin a x) (pt c):=by
   rcases Int.lt_or_le 0 x1 with g|g
   ·exact mpp hx1 (by omega)
   ·have:x1=0:=by omega
    subst x1;omega
  have t2:0<=y1*ev (lin a x) (pt d):=by
   rcases Int.lt_or_le 0 y1 with g|g
   ·exact mpp hy1 (by omega)
   ·have:y1=0:=by omega
    subst y1;omega
  have kr:=zk;rw[aM]at kr;have alone:∀{w:V} {k:Int},w∈W->0<k->k*ev (lin a x) (pt w)=0->k*ev (lin a b) (pt w)=t*ev (lin a b) (pt x)->0<k*ev (lin v u) (pt w)->k=s+t->False:=by
   intro w k hw hk h1 h2 h3 h4;have g0:ev (lin a x) (pt w)=0:=by
    rcases Int.mul_eq_zero.1 h1 with g|g
    ·omega
    ·exact g
   have:=tie w hw g0 (dZ hk (by omega)) (by have:=dZ hk h3;omega)
   have q1:=Int.mul_le_mul_of_nonneg_left this (show 0<=k by omega)
   rw[h2,h4,Int.add_mul]at q1;have:=Int.mul_pos hs hax;omega
  by_cases hx0:x1=0
  ·subst x1;exact alone (Nt.mem (Nt.symm hcd)) (show 0<y1 by omega) (by omega) (by omega) (by omega) (by omega)
  by_cases hy0:y1=0
  ·subst y1;exact alone (Nt.mem hcd) (show 0<x1 by omega) (by omega) (by omega) (by omega) (by omega)
  have c0:ev (lin a x) (pt c)=0:=by
   rcases Int.mul_eq_zero.1 (show x1*ev (lin a x) (pt c)=0 by omega)with g|g
   ·omega
   ·exact g
  have d0:ev (lin a x) (pt d)=0:=by
   rcases Int.mul_eq_zero.1 (show y1*ev (lin a x) (pt d)=0 by omega)with g|g
   ·omega
   ·exact g
  have fin:∀{c d:V} {x1 y1:Int},side c d->0<x1->0<y1->ev (lin a x) (pt c)=0->ev (lin a x) (pt d)=0->x1*ev (lin a b) (pt c)+y1*ev (lin a b) (pt d)=t*ev (lin a b) (pt x)->x1+y1=s+t->ev (lin a b) (pt c)<=ev (lin a b) (pt d)->False:=by
   intro c d x1 y1 hcd hx1 hy1 c0 d0 hs1 hs2 hle;have hca:c≠a:=fun e=>by
    subst e;rw[bB]at hs1;exact hno ⟨d,hcd,dZ hy1 (by omega)⟩
   have hda:d≠a:=fun e=>by
    subst e;rw[bB]at hs1;exact hno ⟨c,Nt.symm hcd,dZ hx1 (by omega)⟩
   rcases Int.lt_or_le 0 (ev (lin a b) (pt c))with g|g
   ·
    have hlt:ev (lin a b) (pt c)<ev (lin a b) (pt x):=by
     have q1:=Int.mul_le_mul_of_nonneg_left hle (show 0<=y1 by omega)
     have q2:(s+t)*ev (lin a b) (pt c)<=t*ev (lin a b) (pt x):=by rw[<-hs2,Int.add_mul];omega
     have q3:=Int.mul_pos hs hax;refine Int.not_le.1 fun h=> ?_
     have q4:=Int.mul_le_mul_of_nonneg_left h (show 0<=s+t by omega)
     have q5:(s+t)*ev (lin a b) (pt x)=s*ev (lin a b) (pt x)+t*ev (lin a b) (pt x):=Int.add_mul _ _ _;omega
    have hk:0<=ev (lin v u) (pt c):=by
     have r:=yS (b:=b) c0 (lin v u);have q1:=mpp (show 0<=ev (lin a b) (pt x)-ev (lin a b) (pt c) by omega) (show 0<=ev (lin v u) (pt a) by omega)
     have q2:=mpp (show 0<=ev (lin a b) (pt c) by omega) hkx
     exact nnl hax (by rw[Int.mul_comm];omega)
    have:=tie c (Nt.mem hcd) c0 g hk;omega
   ·
    have hd:0<ev (lin a b) (pt d):=by
     have:=mpn (show 0<=x1 by omega) g
     exact dZ hy1 (by omega)
    have k:a=c\/a=d:=Nt.clear hcd (Nt.mem hab) (ev (lin a b) (pt d)) (-(ev (lin a b) (pt c))) (ev (lin a b) (pt d)-ev (lin a b) (pt c)) (by omega) (by omega) (aMr (by omega) c0 d0) (by omega)
    rcases k with e|e
    ·exact hca e.symm
    ·exact hda e.symm
  rcases Int.le_total (ev (lin a b) (pt c)) (ev (lin a b) (pt d))with h|h
  ·exact fin (x1:=x1) (y1:=y1) hcd (by omega) (by omega) c0 d0 (by omega) (by omega) h
  ·exact fin (x1:=y1) (y1:=x1) (Nt.symm hcd) (by omega) (by omega) d0 c0 (by omega) (by omega) h
 have hG:∀c d,side c d->iP [ln (pt a) P,lin x a,lin v u] ⟨c,d⟩:=by
  intro c d hcd;refine Me fun x1 y1 hx1 hy1 hxy hq=> ?_
  have e1:∀g:P3,x1*ev g (pt c)+y1*ev g (pt d)=ev g (cmb x1 (pt c) y1 (pt d)):=fun g=>(aM _ _ _ _ _).symm
  simp only[List.mem_cons,List.not_mem_nil,or_false,forall_eq_or_imp,forall_eq,e1]at hq;obtain⟨h1,h2,h3⟩:=hq;rw[lO]at h2;have h2':=h2;rw[aM]at h2';by_cases hc:x1*ev (lin a x) (pt c)<0
  ·have hx0:0<x1:=by
    rcases Int.lt_or_le 0 x1 with g|g
    ·exact g
    ·have:x1=0:=by omega
     subst x1;omega
   exact S.wedge hcd hx0 hy1 h1 h3 (by omega) (pV hx0 hc)
  ·have hd:y1*ev (lin a x) (pt d)<0:=by omega
   have hy0:0<y1:=by
    rcases Int.lt_or_le 0 y1 with g|g
    ·exact g
    ·have:y1=0:=by omega
     subst y1;omega
   rw[gP]at h1 h2 h3;exact S.wedge (Nt.symm hcd) hy0 hx1 h1 h3 (by omega) (pV hy0 hd)
 have hγP:ev (lin a x) P<0:=by
  have:=S.ang (w:=x) P;rw[show ev (ln (pt a) P) P=0 from Cy _ _,Int.mul_zero]at this
  have:=Int.mul_pos p1 hrx;exact pV p1 (by omega)
 have hL2:=fM hne;have hpt:∃z,In [ln (pt a) P,lin x a,lin v u] z/\In (thin a b N) z:=by
  let K:Int:=1+(ev (tB a b N) (pt x)).natAbs
  have hK:0<K:=by show 0<1+((ev (tB a b N) (pt x)).natAbs:Int);omega
  have hKdef:ev (tB a b N) (pt x)<=K-1/\ -(K-1)<=ev (tB a b N) (pt x):=by show _<=1+((ev (tB a b N) (pt x)).natAbs:Int)-1/\_;omega
  have hFa:1<=ev (tB a b N) P:=by rw[iW];omega
  generalize K=K at*;obtain⟨M,hM⟩:∃M:Int,0<=M/\0<M*ev (lin v u) (pt a)+(K*ev (lin v u) P+ev (lin v u) (pt x))/\0<M*eK a b+(K*(ev (aX b a) P-N*ev (lin a b) P)+(ev (aX b a) (pt x)-N*ev (lin a b) (pt x))):=by
   refine⟨1+(K*ev (lin v u) P+ev (lin v u) (pt x)).natAbs+(K*(ev (aX b a) P-N*ev (lin a b) P)+(ev (aX b a) (pt x)-N*ev (lin a b) (pt x))).natAbs,by omega,?_,?_⟩
   ·have:=Int.mul_le_mul_of_nonneg_left (show 1<=ev (lin v u) (pt a) by omega) (show 0<=1+((K*ev (lin v u) P+ev (lin v u) (pt x)).natAbs:Int)+((K*(ev (aX b a) P-N*ev (lin a b) P)+(ev (aX b a) (pt x)-N*ev (lin a b) (pt x))).natAbs:Int) by omega)
    omega
   ·have:=Int.mul_le_mul_of_nonneg_left (show 1<=eK a b by omega) (show 0<=1+((K*ev (lin v u) P+ev (lin v u) (pt x)).natAbs:Int)+((K*(ev (aX b a) P-N*ev (lin a b) P)+(ev (aX b a) (pt x)-N*ev (lin a b) (pt x))).natAbs:Int) by omega)
    omega
  obtain⟨hM0,hM1,hM2⟩:=hM;have hzd:0<(cmb 1 (cmb M (pt a) K P) 1 (pt x)).d:=by simp only[cmb,pt];have:=Int.mul_pos hK p0;omega
  refine⟨cmb 1 (cmb M (pt a) K P) 1 (pt x),⟨hzd,?_⟩,?_⟩
  ·simp only[List.mem_cons,List.not_mem_nil,or_false,forall_eq_or_imp,forall_eq];refine⟨?_,?_,?_⟩
   ·rw[aM,aM,hra,show ev (ln (pt a) P) P=0 from Cy _ _];omega
   ·rw[lO,aM,aM,bB,bR];have:=Int.mul_neg_of_pos_of_neg hK hγP;omega
   ·rw[aM,aM];omega
  ·rw[kX];refine⟨hzd,?_,?_,?_⟩
   ·rw[aM,aM,bB];have:=Int.mul_pos hK p1;omega
   ·have g:0<ev (tB a b N) (cmb 1 (cmb M (pt a) K P) 1 (pt x)):=by
     rw[aM,aM];have z:ev (tB a b N) (pt a)=0:=by rw[iW,iS,bB];omega
     rw[z];have:=Int.mul_le_mul_of_nonneg_left hFa (show 0<=K by omega)
     omega
    rw[iW]at g;omega
   ·rw[aM,aM,aM,aM,nQ,wA,bB];rw[Int.mul_sub]at hM2;have e1:N*(1*(M*0+K*ev (lin a b) P)+1*ev (lin a b) (pt x))=K*(N*ev (lin a b) P)+N*ev (lin a b) (pt x):=by grind
    omega
 obtain⟨z,hz1,hz2⟩:=hpt;have hzi:=hin z hz2;refine hno ⟨x,H.max a (Nt.mem hab) x S.mem hane hopen ?_,hax⟩;rw[<-hzi];refine H.same _ _ (by simp only[cmb,pt];omega) hz1.1 fun c d hcd hm=> ?_
 obtain⟨x1,y1,s,t,hx1,hy1,hxy,hs,ht,he⟩:=hm;rcases Int.lt_or_le 0 t with ht0|ht0
 ·obtain⟨f,hf,g⟩:=hG c d hcd x1 y1 hx1 hy1 hxy;have eF:=congrArg (ev f) he;rw[aM,aM]at eF;change x1*ev f (pt c)+y1*ev f (pt d)<=0 at g;change x1*ev f (pt c)+y1*ev f (pt d)=_ at eF;have g1:=Int.mul_pos ht0 (hz1.2 f hf);have g2:0<=s*ev f (cmb 1 (pt a) 1 (pt x)):=mpp hs (by
   simp only[List.mem_cons,List.not_mem_nil,or_false]at hf;rcases hf with rfl|rfl|rfl
   ·have:=vr 1 1 (by omega) (by omega);omega
   ·rw[lO,vg];omega
   ·have:=vk 1 1 (by omega) (by omega);omega)
  omega
 ·have t0:t=0:=by omega
  subst t0;have hs0:0<s:=by
   have:=congrArg P3.d he;simp only[cmb,pt]at this;rcases Int.lt_or_le 0 s with g|g
   ·exact g
   ·have:s=0:=by omega
    subst s;omega
  exact hopen c d hcd x1 y1 s s hx1 hy1 hs0 hs0 (aCf he)
end
end Go.Proofs.YtdaeofhdgabhjaaGreat.Geo
namespace Go.Proofs.YtdaeofhdgabhjaaGreat.Geo
section
variable {W:List V} {side:V->V->Prop} {ins:P3->Bool}
structure Tri(W:List V)(side:V->V->Prop)(ins:P3->Bool)(a b c:V):Prop where
 ab:side a b
 bc:side b c
 ca:side c a
 left:0<ev (lin a b) (pt c)
 empty:∀w∈W,0<=ev (lin a b) (pt w)->0<=ev (lin b c) (pt w)->0<=ev (lin c a) (pt w)->w=a\/w=b\/w=c
 mid:ins ⟨a.x+b.x+c.x,a.y+b.y+c.y,3⟩=true
def ctr(a b c:V):P3:=⟨a.x+b.x+c.x,a.y+b.y+c.y,3⟩
theorem Tri.rot{a b c:V}(h:Tri W side ins a b c):Tri W side ins b c a:=by
 refine⟨h.bc,h.ca,h.ab,by rw[iR];exact h.left,fun w hw h1 h2 h3=> ?_,?_⟩
 ·rcases h.empty w hw h3 h1 h2 with e|e|e
  ·exact .inr (.inr e)
  ·exact .inl e
  ·exact .inr (.inl e)
 ·have:=h.mid;rw[show(⟨b.x+c.x+a.x,b.y+c.y+a.y,3⟩:P3)=⟨a.x+b.x+c.x,a.y+b.y+c.y,3⟩ by simp only[P3.mk.injEq];refine⟨?_,?_,trivial⟩<;>omega]
  exact this
theorem Lj{a b c:V}(h:0<ev (lin a b) (pt c)):In [lin a b,lin b c,lin c a] (ctr a b c):=by
 refine⟨by show(0:Int)<3;omega,?_⟩
 have e:∀f:P3,ev f (ctr a b c)=ev f (pt a)+ev f (pt b)+ev f (pt c):=fun f=>by unfold ev ctr pt;grind
 have e1:ev (lin c a) (pt b)=ev (lin a b) (pt c):=by unfold ev lin pt;grind
 simp only[List.mem_cons,List.not_mem_nil,or_false,forall_eq_or_imp,forall_eq];refine⟨?_,?_,?_⟩
 ·rw[e,bB,bR];omega
 ·rw[e,bB,bR,iR a b c];omega
 ·rw[e,bB,bR,e1];omega
theorem aB1(N:Net W side){a b c:V}(hab:side a b)(hbc:side b c)(hca:side c a)(hD:0<ev (lin a b) (pt c))(hv:∀w∈W,0<=ev (lin a b) (pt w)->0<=ev (lin b c) (pt w)->0<=ev (lin c a) (pt w)->w=a\/w=b\/w=c):
  ∀u v,side u v->iP [lin a b,lin b c,lin c a] ⟨u,v⟩:=by
 have e1:ev (lin c a) (pt b)=ev (lin a b) (pt c):=by unfold ev lin pt;grind
 have sector:∀x,side a x->¬(0<ev (lin a b) (pt x)/\0<ev (lin c a) (pt x)):=by
  rintro x hax ⟨h1,h2⟩;by_cases h3:0<=ev (lin b c) (pt x)
  ·rcases hv x (N.mem (N.symm hax)) (by omega) h3 (by omega)with e|e|e<;>subst e
   ·rw[bB]at h1;omega
   ·rw[bR]at h1;omega
   ·rw[bB]at h2;omega
  ·
   have hp:ev (lin b c) (cmb (-(ev (lin b c) (pt x))) (pt a) (ev (lin a b) (pt c)) (pt x))=0:=by rw[aM,iR a b c,Int.neg_mul,Int.mul_comm];omega
   have g:=oL (a:=b) (b:=c) (c:=a) hp;rw[iR a b c]at g;have p1:=Int.mul_pos hD h1;have p2:=Int.mul_pos hD h2;have v1:ev (lin c a) (cmb (-(ev (lin b c) (pt x))) (pt a) (ev (lin a b) (pt c)) (pt x))=ev (lin a b) (pt c)*ev (lin c a) (pt x):=by rw[aM,bR];omega
   have v2:ev (lin a b) (cmb (-(ev (lin b c) (pt x))) (pt a) (ev (lin a b) (pt c)) (pt x))=ev (lin a b) (pt c)*ev (lin a b) (pt x):=by rw[aM,bB];omega
   rw[v1,v2]at g;have:cmb (ev (lin a b) (pt c)* -(ev (lin b c) (pt x))) (pt a) (ev (lin a b) (pt c)*ev (lin a b) (pt c)) (pt x)=cmb (ev (lin a b) (pt c)*ev (lin c a) (pt x)) (pt b) (ev (lin a b) (pt c)*ev (lin a b) (pt x)) (pt c):=by
    rw[g];unfold cmb;simp only[P3.mk.injEq];refine⟨?_,?_,?_⟩<;>grind
   rcases N.apart hax hbc _ _ _ _ (Int.mul_pos hD (by omega)) (Int.mul_pos hD hD) p2 p1 this with⟨rfl,rfl⟩|⟨rfl,rfl⟩
   ·exact N.ne hab rfl
   ·exact N.ne hca rfl
 have K:Corner W side a b c 0:=by
  refine⟨hab,N.symm hca,hD,sector,Int.le_refl _,fun w hw ha h1 h2=> ?_⟩
  refine Int.not_lt.1 fun h3=> ?_
  rcases hv w hw h1 (by omega) h2 with e|e|e
  ·exact ha e
  ·rw[e,bB]at h3;omega
  ·rw[e,bR]at h3;omega
 intro u v huv x y hx hy hxy;obtain⟨f,hf,g⟩:=K.free N huv x y hx hy hxy;simp only[List.mem_cons,List.not_mem_nil,or_false]at hf;rcases hf with rfl|rfl|rfl
 ·exact⟨lin a b,by simp,g⟩
 ·exact⟨lin c a,by simp,g⟩
 ·refine⟨lin b c,by simp,?_⟩
  have e3:∀w:V,ev (over b c 0) (pt w)=ev (lin b c) (pt w):=fun w=>by rw[lC];omega
  rw[e3,e3]at g;exact g
theorem Tri.free(N:Net W side){a b c:V}(h:Tri W side ins a b c):∀u v,side u v->iP [lin a b,lin b c,lin c a] ⟨u,v⟩:=aB1 N h.ab h.bc h.ca h.left h.empty
open Classical in
theorem yX(H:Filled W side ins){a b:V}(hab:side a b)(hL:Lft ins a b):∃c,Tri W side ins a b c:=by
 have N:=H.net;have hne:=N.ne hab;have hL2:=fM hne;obtain⟨x0,hx0,hα0⟩:=Yy H hab hL;have hl:(W.filter fun x=>decide (side a x/\0<ev (lin a b) (pt x)))≠[] :=List.ne_nil_of_mem (List.mem_filter.2 ⟨N.mem (N.symm hx0),decide_eq_true ⟨hx0,hα0⟩⟩)
 obtain⟨c,hc,hm⟩:=De (fun x:V=> -(ev (aX a b) (pt x))) (fun x:V=>ev (lin a b) (pt x)) hl fun x hx=>(of_decide_eq_true (List.mem_filter.1 hx).2).2
 obtain⟨hac,hD⟩:=of_decide_eq_true (List.mem_filter.1 hc).2;have ang:∀x:V,eK a b*ev (lin a c) (pt x)=ev (aX a b) (pt c)*ev (lin a b) (pt x)-ev (lin a b) (pt c)*ev (aX a b) (pt x):=fun x=>by unfold eK ev aX lin pt;grind
 have hn:∀x,side a x->¬(0<ev (lin a b) (pt x)/\0<ev (lin c a) (pt x)):=by
  rintro x hx ⟨h1,h2⟩;have:=hm x (List.mem_filter.2 ⟨N.mem (N.symm hx),decide_eq_true ⟨hx,h1⟩⟩);have e1:=ang x;rw[lO]at h2;have:=Int.mul_neg_of_pos_of_neg hL2 (show ev (lin a c) (pt x)<0 by omega)
  rw[Int.neg_mul,Int.neg_mul]at*;have e2:ev (lin a b) (pt c)*ev (aX a b) (pt x)=ev (aX a b) (pt x)*ev (lin a b) (pt c):=Int.mul_comm _ _;omega
 obtain⟨e1,e2,e3,e4⟩:=ear H hab hac hD hn hL;refine⟨c,hab,e4,N.symm hac,hD,e1,e3 _ ?_⟩;obtain⟨c0,c1⟩:=Lj hD;refine⟨c0,fun f hf=> ?_⟩
 simp only[List.mem_cons,List.not_mem_nil,or_false]at hf;rcases hf with rfl|rfl|rfl
 ·exact c1 _ (by simp)
 ·exact c1 _ (by simp)
 ·have:=c1 (lin b c) (by simp)
  rw[lC];show 0<ev (lin b c) (ctr a b c)-0*3;omega
theorem Tw(N:Net W side){a b c c':V}(h:Tri W side ins a b c)(h':Tri W side ins a b c'):c=c':=by
 refine Classical.byContradiction fun hne=> ?_
 have cW:=N.mem h.ca;have cW':=N.mem h'.ca;have d:=h.left;have d':=h'.left;have hca:c≠a:=N.ne h.ca;have hca':c'≠a:=N.ne h'.ca;have hcb:c≠b:=fun e=>N.ne h.bc e.symm
 have hcb':c'≠b:=fun e=>N.ne h'.bc e.symm
 have n1:¬(0<=ev (lin b c) (pt c')/\0<=ev (lin c a) (pt c')):=fun⟨h1,h2⟩=>by
  rcases h.empty c' cW' (by omega) h1 h2 with e|e|e
  ·exact hca' e
  ·exact hcb' e
  ·exact hne e.symm
 have n2:¬(0<=ev (lin b c') (pt c)/\0<=ev (lin c' a) (pt c)):=fun⟨h1,h2⟩=>by
  rcases h'.empty c cW (by omega) h1 h2 with e|e|e
  ·exact hca e
  ·exact hcb e
  ·exact hne e
 have s1:ev (lin b c') (pt c)= -ev (lin b c) (pt c'):=by unfold ev lin pt;grind
 have s2:ev (lin c' a) (pt c)= -ev (lin c a) (pt c'):=by unfold ev lin pt;grind
 have key:∀{c c':V},side c a->side b c->side c' a->side b c'->c≠c'->0<ev (lin a b) (pt c)->0<ev (lin a b) (pt c')->ev (lin b c) (pt c')<0->0<ev (lin c a) (pt c')->False:=by
  intro c c' hca hbc hca' hbc' hne d d' h1 h2;have hp:ev (lin b c) (cmb (-(ev (lin b c) (pt c'))) (pt a) (ev (lin a b) (pt c)) (pt c'))=0:=by rw[aM,iR a b c,Int.neg_mul,Int.mul_comm];omega
  have g:=oL (a:=b) (b:=c) (c:=a) hp;rw[iR a b c]at g;have v1:ev (lin c a) (cmb (-(ev (lin b c) (pt c'))) (pt a) (ev (lin a b) (pt c)) (pt c'))=ev (lin a b) (pt c)*ev (lin c a) (pt c'):=by rw[aM,bR];omega
  have v2:ev (lin a b) (cmb (-(ev (lin b c) (pt c'))) (pt a) (ev (lin a b) (pt c)) (pt c'))=ev (lin a b) (pt c)*ev (lin a b) (pt c'):=by rw[aM,bB];omega
  rw[v1,v2]at g;have:cmb (ev (lin a b) (pt c)* -(ev (lin b c) (pt c'))) (pt a) (ev (lin a b) (pt c)*ev (lin a b) (pt c)) (pt c')=cmb (ev (lin a b) (pt c)*ev (lin c a) (pt c')) (pt b) (ev (lin a b) (pt c)*ev (lin a b) (pt c')) (pt c):=by
   rw[g];unfold cmb;simp only[P3.mk.injEq];refine⟨?_,?_,?_⟩<;>grind
  rcases N.apart (N.symm hca') hbc _ _ _ _ (Int.mul_pos d (by omega)) (Int.mul_pos d d) (Int.mul_pos d h2) (Int.mul_pos d d') this with⟨e,e'⟩|⟨e,e'⟩
  ·exact hne e'.symm
  ·exact N.ne hbc' e'.symm
 by_cases g:ev (lin b c) (pt c')<0
 ·refine key h.ca h.bc h'.ca h'.bc hne d d' g ?_;have:ev (lin c' a) (pt c)<0:=by omega
  omega
 ·have g2:ev (lin c a) (pt c')<0:=by omega
  have g3:ev (lin b c') (pt c)<0:=by omega
  exact key h'.ca h'.bc h.ca h.bc (fun e=>hne e.symm) d' d g3 (by omega)
end
end Go.Proofs.YtdaeofhdgabhjaaGreat.Geo
namespace Go.Proofs.YtdaeofhdgabhjaaGreat.Geo
section
variable {W:List V} {side:V->V->Prop} {ins:P3->Bool}
theorem Net.ray(N:Net W side){a b v:V}(hab:side a b)(hav:side a v)(h0:ev (lin a b) (pt v)=0)(h1:0<=ev (aX a b) (pt v)):v=b:=by
 have hL:=fM (N.ne hab);have g:=jJ h0;by_cases h2:ev (aX a b) (pt v)<=eK a b
 ·rcases N.clear hab (N.mem (N.symm hav)) (eK a b*(pt v).d-ev (aX a b) (pt v)) (ev (aX a b) (pt v)) (eK a b) (by show 0<=eK a b*1-_;omega) h1 (by rw[g];unfold cmb pt;simp) hL with e|e
  ·exact absurd e.symm (N.ne hav)
  ·exact e
 ·rcases N.clear hav (N.mem (N.symm hab)) (ev (aX a b) (pt v)-eK a b) (eK a b) (ev (aX a b) (pt v)) (by omega) (by omega) (by
   unfold cmb pt at g|-;simp only[P3.mk.injEq]at g|-;refine⟨?_,?_,?_⟩<;>grind) (by omega)with e|e
  ·exact absurd e.symm (N.ne hab)
  ·exact e.symm
theorem nJ(s t:Int)(a b:V):(cmb s (pt a) t (pt b)).d=s+t:=by unfold cmb pt;simp
theorem Net.off(N:Net W side){a b u v:V}(hab:side a b)(huv:side u v):Off a b ⟨u,v⟩\/(u=a/\v=b)\/(u=b/\v=a):=by
 have ray:∀{a b v:V},side a b->side a v->v=b\/(ev (lin a b) (pt v)≠0\/ev (aX a b) (pt v)<0):=fun{a b v} hab hav=>by
  by_cases h0:ev (lin a b) (pt v)=0
  ·by_cases h1:0<=ev (aX a b) (pt v)
   ·exact .inl (N.ray hab hav h0 h1)
   ·exact .inr (.inr (by omega))
  ·exact .inr (.inl h0)
 have ray':∀{a b v:V},side a b->side b v->v=a\/(ev (lin a b) (pt v)≠0\/ev (aX b a) (pt v)<0):=fun{a b v} hab hbv=>by
  rcases ray (N.symm hab) hbv with e|e|e
  ·exact .inl e
  ·exact .inr (.inl (by rw[lO]at e;omega))
  ·exact .inr (.inr e)
 by_cases hm:iO ⟨u,v⟩ (pt a) (pt b)
 ·obtain⟨x,y,s,t,hx,hy,hxy,hs,ht,e⟩:=hm;have hd:=congrArg P3.d e;rw[nJ,nJ]at hd;have one:u=a\/u=b\/v=a\/v=b:=by
   rcases Int.lt_or_le 0 x with hx'|hx'
   ·rcases Int.lt_or_le 0 y with hy'|hy'
    ·rcases N.same hab huv hx' hy' hs ht e with⟨e1,_⟩|⟨e1,_⟩
     ·exact .inl e1
     ·exact .inr (.inl e1)
    ·have y0:y=0:=by omega
     subst y0;rcases N.clear hab (N.mem huv) s t x hs ht (by rw[<-e];unfold cmb;simp) hx' with e1|e1
     ·exact .inl e1
     ·exact .inr (.inl e1)
   ·have x0:x=0:=by omega
    subst x0;rcases N.clear hab (N.mem (N.symm huv)) s t y hs ht (by rw[<-e];unfold cmb;simp) (by omega)with e1|e1
    ·exact .inr (.inr (.inl e1))
    ·exact .inr (.inr (.inr e1))
  rcases one with rfl|rfl|rfl|rfl
  ·rcases ray hab huv with e1|e1
   ·exact .inr (.inl ⟨rfl,e1⟩)
   ·exact .inl ⟨N.ne huv,.inr (.inl ⟨rfl,e1⟩)⟩
  ·rcases ray' hab huv with e1|e1
   ·exact .inr (.inr ⟨rfl,e1⟩)
   ·exact .inl ⟨N.ne huv,.inr (.inr (.inr (.inl ⟨rfl,e1⟩)))⟩
  ·rcases ray hab (N.symm huv)with e1|e1
   ·exact .inr (.inr ⟨e1,rfl⟩)
   ·exact .inl ⟨N.ne huv,.inr (.inr (.inl ⟨rfl,e1⟩))⟩
  ·rcases ray' hab (N.symm huv)with e1|e1
   ·exact .inr (.inl ⟨e1,rfl⟩)
   ·exact .inl ⟨N.ne huv,.inr (.inr (.inr (.inr ⟨rfl,e1⟩)))⟩
 ·exact .inl ⟨N.ne huv,.inl hm⟩
open Classical in
theorem Net.thin(N:Net W side){a b:V}(hab:side a b):∃N0:Int,1<=N0/\∀n,N0<=n->∀u v,side u v->iP (thin a b n) ⟨u,v⟩:=by
 obtain⟨N0,h1,h2⟩:=Ot (N.ne hab) (l:=(W.flatMap fun u=>W.map fun v=>(⟨u,v⟩:S)).filter fun e=>decide (side e.a e.b)) fun e he=>by
  have:=of_decide_eq_true (List.mem_filter.1 he).2;exact N.off hab this
 refine⟨N0,h1,fun n hn u v huv=>h2 n hn ⟨u,v⟩ (List.mem_filter.2 ⟨?_,decide_eq_true huv⟩)⟩
 exact List.mem_flatMap.2 ⟨u,N.mem huv,List.mem_map.2 ⟨v,N.mem (N.symm huv),rfl⟩⟩
theorem mC{a b:V}{n m:Int}(hnm:n<=m){q:P3}(h:In (thin a b m) q):In (thin a b n) q:=by
 obtain⟨h0,h1,h2,h3⟩:=kX.1 h;have:=Int.mul_le_mul_of_nonneg_right hnm (show 0<=ev (lin a b) q by omega)
 exact kX.2 ⟨h0,h1,by omega,by omega⟩
open Classical in
theorem Ai{a b c:V}(hne:a≠b)(n:Int){h:Int}(hc:0<ev (lin a b) (pt c))(hh:h<ev (lin a b) (pt c)):∃q,In (thin a b n) q/\In [lin a b,lin c a,over b c h] q:=by
 obtain⟨q,h1,h2⟩:=Lft.near (ins:=fun p=>decide (In (thin a b n) p)) hne ⟨n,fun m hm q hq=>decide_eq_true (mC hm hq)⟩ hc hh
 exact⟨q,of_decide_eq_true h2,h1⟩
theorem rV{a b:V}(hne:a≠b)(n:Int):∃q,In (thin a b n) q:=by
 have hL2:=fM hne;have e9:(b.x-a.x)*(b.x-a.x)-(b.y-a.y)* -(b.y-a.y)=eK a b:=by unfold eK;grind
 obtain⟨M0,hM0,hI⟩:=jQ hne (x:= -(b.y-a.y)) (y:=b.x-a.x) (by omega) n
 exact⟨_,hI _ (Int.le_refl _)⟩
structure Calm(W:List V)(side:V->V->Prop)(ins:P3->Bool):Prop where
 net:Net W side
 same:∀p q:P3,0<p.d->0<q.d->(∀u v,side u v->¬iO ⟨u,v⟩ p q)->ins p=ins q
theorem Filled.calm(H:Filled W side ins):Calm W side ins:=⟨H.net,H.same⟩
theorem Calm.const(H:Calm W side ins){F:List P3}(hF:∀u v,side u v->iP F ⟨u,v⟩){p q:P3}(hp:In F p)(hq:In F q):ins p=ins q:=
 H.same p q hp.1 hq.1 fun u v huv=>(hF u v huv).no hp hq
theorem Du(H:Calm W side ins){a b:V}(hab:side a b)(h:∀n:Int,∃q,In (Geo.thin a b n) q/\ins q=true):Lft ins a b:=by
 obtain⟨N0,h1,h2⟩:=H.net.thin hab;obtain⟨q,hq,hi⟩:=h N0;refine⟨N0,fun n hn p hp=> ?_⟩
 rw[<-hi];exact H.const (h2 N0 (Int.le_refl _)) (mC hn hp) hq
theorem Lft.not{a b:V}(hne:a≠b)(h:Lft ins a b):¬Lft (fun p=> !ins p) a b:=by
 obtain⟨n,h⟩:=h;rintro⟨m,h'⟩;obtain⟨q,hq⟩:=rV hne (max n m);have:=h _ (by omega) q hq
 have g:=h' _ (by omega) q hq
 simp[this]at g
theorem aH7(H:Calm W side ins){a b:V}(hab:side a b):Lft ins a b\/Lft (fun p=> !ins p) a b:=by
 obtain⟨N0,h1,h2⟩:=H.net.thin hab;obtain⟨q,hq⟩:=rV (H.net.ne hab) N0;by_cases hi:ins q=true
 ·exact .inl ⟨N0,fun n hn p hp=>by rw[<-hi];exact H.const (h2 N0 (Int.le_refl _)) (mC hn hp) hq⟩
 ·exact .inr ⟨N0,fun n hn p hp=>by show(!ins p)=true;rw[<-H.const (h2 N0 (Int.le_refl _)) hq (mC hn hp)];simp at hi|-;exact hi⟩
theorem Tri.lft(H:Filled W side ins){a b c:V}(h:Tri W side ins a b c):Lft ins a b:=by
 have N:=H.net;refine Du H.calm h.ab fun n=> ?_
 obtain⟨q,hq,hq'⟩:=Ai (N.ne h.ab) n h.left (h:=0) h.left;refine⟨q,hq,?_⟩;have:=h.mid;rw[<-this];refine H.const (h.free N) ⟨hq.1,fun f hf=> ?_⟩ (Lj h.left)
 simp only[List.mem_cons,List.not_mem_nil,or_false]at hf;rcases hf with rfl|rfl|rfl
 ·exact hq'.2 _ (by simp)
 ·have:=hq'.2 (over b c 0) (by simp)
  rw[lC]at this;omega
 ·exact hq'.2 _ (by simp)
end
end Go.Proofs.YtdaeofhdgabhjaaGreat.Geo
namespace Go.Proofs.YtdaeofhdgabhjaaGreat.Geo
theorem Jk{a b v:V}{s t k:Int}(h1:aJ a 4000=true)(h2:aJ b 4000=true)(hs:0<=s)(ht:0<=t)(hk:0<k)(h:cmb s (pt a) t (pt b)=cmb k (pt v) 0 (pt v)):onS ⟨a,b⟩ v=true:=by
 have hv:aK ⟨a,b⟩=true:=by unfold aK;simp[h1,h2]
 rw[eR hv];simp only[cmb,pt,P3.mk.injEq]at h;obtain⟨hx,hy,hd⟩:=h;have box:∀p q r:Int,s*p+t*q=k*r->min p q<=r/\r<=max p q:=fun p q r h=>by
  have e:k=s+t:=by omega
  have l1:k*min p q<=k*r:=by
   have:=Int.mul_le_mul_of_nonneg_left (Int.min_le_left p q) hs;have:=Int.mul_le_mul_of_nonneg_left (Int.min_le_right p q) ht;rw[<-h,e,Int.add_mul];omega
  have l2:k*r<=k*max p q:=by
   have:=Int.mul_le_mul_of_nonneg_left (Int.le_max_left p q) hs;have:=Int.mul_le_mul_of_nonneg_left (Int.le_max_right p q) ht;rw[<-h,e,Int.add_mul];omega
  exact⟨Int.le_of_mul_le_mul_left l1 hk,Int.le_of_mul_le_mul_left l2 hk⟩
 refine⟨?_,?_⟩
 ·unfold gJ;have b1:=box a.x b.x v.x (by omega)
  have b2:=box a.y b.y v.y (by omega)
  simp only[Bool.and_eq_true,decide_eq_true_eq];exact⟨⟨⟨b1.1,b1.2⟩,b2.1⟩,b2.2⟩
 ·have:k*cross (sub b a) (sub v a)=0:=by
   have e:k=s+t:=by omega
   subst e;unfold cross sub;dsimp only;grind
  rcases Int.mul_eq_zero.1 this with g|g
  ·omega
  ·exact g
theorem aMq{a b c d:V}(hne:c≠d)(h1:ev (lin c d) (pt a)=0)(h2:ev (lin c d) (pt b)=0):ev (lin a b) (pt c)=0:=by
 have g1:=jJ h1;have g2:=jJ h2;have hL:=fM hne;have e:eK c d*(eK c d*ev (lin a b) (pt c))=0:=by
  generalize ev (aX c d) (pt a)=α at*;generalize ev (aX c d) (pt b)=β at*;generalize eK c d=L at*;unfold cmb pt at g1 g2;simp only[P3.mk.injEq]at g1 g2;unfold ev lin pt;dsimp only;grind
 rcases Int.mul_eq_zero.1 e with g|g
 ·omega
 ·rcases Int.mul_eq_zero.1 g with g|g
  ·omega
  ·exact g
structure Segs(W:List V)(side:V->V->Prop):Prop where
 symm:∀{a b},side a b->side b a
 ne:∀{a b},side a b->a≠b
 mem:∀{a b},side a b->a∈W
 near:∀v∈W,aJ v 4000=true
 clear:∀{a b v},side a b->v∈W->onS ⟨a,b⟩ v=true->v=a\/v=b
 cross:∀{a b c d},side a b->side c d->cN ⟨a,b⟩ ⟨c,d⟩≠2
theorem Ol{a b c d:V}{s t:Int}(hs:0<s)(ht:0<t)(h:s*ev (lin a b) (pt c)+t*ev (lin a b) (pt d)=0)(hc:ev (lin a b) (pt c)≠0):turn a b c*turn a b d<0:=by
 unfold turn;rw[nZ,<-jW,<-jW];rcases Int.lt_or_gt_of_ne hc with g|g
 ·have:=Int.mul_neg_of_pos_of_neg hs g;exact .inr ⟨g,Int.pos_of_mul_pos_right (a:=t) (by omega) (by omega)⟩
 ·have:=Int.mul_pos hs g;refine .inl ⟨g,Int.not_le.1 fun h'=> ?_⟩
  have:=mpp (show 0<=t by omega) h'
  omega
section
variable {W:List V} {side:V->V->Prop}
theorem Segs.clear'(H:Segs W side){a b v:V}(hab:side a b)(hv:v∈W)(s t k:Int)(hs:0<=s)(ht:0<=t)(h:cmb s (pt a) t (pt b)=cmb k (pt v) 0 (pt v))(hk:0<k):v=a\/v=b:=
 H.clear hab hv (Jk (H.near _ (H.mem hab)) (H.near _ (H.mem (H.symm hab))) hs ht hk h)
theorem Segs.beyond(H:Segs W side){a b c d:V}(hab:side a b)(hcd:side c d)(hc:ev (lin a b) (pt c)=0)(hd:ev (lin a b) (pt d)=0)
  (h1:ev (aX a b) (pt c)<ev (aX a b) (pt d)) {x y s t:Int} (hx:0<x) (hy:0<y) (hs:0<s) (ht:0<t) (h:cmb x (pt a) y (pt b)=cmb s (pt c) t (pt d)):a=c/\b=d:=by
 have hL:=fM (H.ne hab);have gc:=jJ hc;have gd:=jJ hd;have wc:=H.mem hcd;have wd:=H.mem (H.symm hcd);have e1:x*ev (aX a b) (pt a)+y*ev (aX a b) (pt b)=s*ev (aX a b) (pt c)+t*ev (aX a b) (pt d):=by rw[<-aM,<-aM,h]
 rw[iS,nQ]at e1;have ed:=congrArg P3.d h;rw[nJ,nJ]at ed;have one:∀v:V,(pt v).d=1:=fun _=>rfl
 rw[one]at gc gd;have p1:=Int.mul_pos hy hL;have c0:ev (aX a b) (pt c)<eK a b:=Int.not_le.1 fun g=>by
  have:=Int.mul_le_mul_of_nonneg_left g (show 0<=s by omega)
  have:=Int.mul_lt_mul_of_pos_left (show eK a b<ev (aX a b) (pt d) by omega) ht
  have e:(x+y)*eK a b=(s+t)*eK a b:=by rw[ed]
  rw[Int.add_mul,Int.add_mul]at e;have:=Int.mul_pos hx hL;omega
 have d0:0<ev (aX a b) (pt d):=Int.not_le.1 fun g=>by
  have:=mpn (show 0<=t by omega) g
  have:=Int.mul_neg_of_pos_of_neg hs (show ev (aX a b) (pt c)<0 by omega)
  omega
 have ac:ev (aX a b) (pt c)=0->a=c:=fun g=>by
  rcases H.clear' hab wc (eK a b) 0 (eK a b) (by omega) (by omega) (by
   rw[g]at gc;unfold cmb pt at gc|-;simp only[P3.mk.injEq]at gc|-;refine⟨?_,?_,?_⟩<;>grind) hL with e|e
  ·exact e.symm
  ·rw[e,nQ]at g;omega
 have hac:a=c:=by
  rcases Int.lt_or_le (ev (aX a b) (pt c)) 0 with g|g
  ·rcases H.clear' hcd (H.mem hab) (ev (aX a b) (pt d)) (-(ev (aX a b) (pt c))) (ev (aX a b) (pt d)-ev (aX a b) (pt c)) (by omega) (by omega) (by
    generalize ev (aX a b) (pt c)=α at*;generalize ev (aX a b) (pt d)=β at*;unfold cmb pt at gc gd|-;simp only[P3.mk.injEq]at gc gd|-;have hL0:eK a b≠0:=by omega
    refine⟨?_,?_,?_⟩
    ·refine Int.eq_of_mul_eq_mul_left hL0 ?_;grind
    ·refine Int.eq_of_mul_eq_mul_left hL0 ?_;grind
    ·omega) (by omega)with e|e
   ·exact e
   ·rw[<-e,iS]at d0;omega
  ·rcases H.clear' hab wc (eK a b-ev (aX a b) (pt c)) (ev (aX a b) (pt c)) (eK a b) (by omega) g (by
    rw[Int.mul_one]at gc;rw[gc];unfold cmb pt;simp) hL with e|e
   ·exact e.symm
   ·rw[e,nQ]at c0;omega
 refine⟨hac,?_⟩;have cz:ev (aX a b) (pt c)=0:=by rw[<-hac,iS]
 rcases Int.lt_or_le (eK a b) (ev (aX a b) (pt d))with g|g
 ·rcases H.clear' hcd (H.mem (H.symm hab)) (ev (aX a b) (pt d)-eK a b) (eK a b) (ev (aX a b) (pt d)) (by omega) (by omega) (by
   subst hac;generalize ev (aX a b) (pt d)=β at*;unfold cmb pt at gd|-;simp only[P3.mk.injEq]at gd|-;refine⟨?_,?_,?_⟩<;>grind) (by omega)with e|e
  ·exact absurd (hac.trans e.symm) (H.ne hab)
  ·exact e
 ·rcases H.clear' hab wd (eK a b-ev (aX a b) (pt d)) (ev (aX a b) (pt d)) (eK a b) (by omega) (by omega) (by
   rw[Int.mul_one]at gd;rw[gd];unfold cmb pt;simp) hL with e|e
  ·exact absurd (hac.symm.trans e.symm) (H.ne hcd)
  ·exact e.symm
theorem Segs.net(H:Segs W side):Net W side:=by
 refine⟨H.symm,H.ne,H.mem,fun hab hv s t k hs ht h hk=>H.clear' hab hv s t k hs ht h hk,?_⟩
 intro a b c d hab hcd x y s t hx hy hs ht h;have na:=H.near _ (H.mem hab);have nb:=H.near _ (H.mem (H.symm hab));have nc:=H.near _ (H.mem hcd);have nd:=H.near _ (H.mem (H.symm hcd));have f1:s*ev (lin a b) (pt c)+t*ev (lin a b) (pt d)=0:=by rw[<-aM,<-h,aM,bB,bR];omega
 have f2:x*ev (lin c d) (pt a)+y*ev (lin c d) (pt b)=0:=by rw[<-aM,h,aM,bB,bR];omega
 by_cases hc:ev (lin a b) (pt c)=0
 ·have hd:ev (lin a b) (pt d)=0:=by
   rw[hc,Int.mul_zero,Int.zero_add]at f1;rcases Int.mul_eq_zero.1 f1 with g|g
   ·omega
   ·exact g
  rcases Int.lt_or_le (ev (aX a b) (pt c)) (ev (aX a b) (pt d))with g|g
  ·exact .inl (H.beyond hab hcd hc hd g hx hy hs ht h)
  ·rcases Int.lt_or_le (ev (aX a b) (pt d)) (ev (aX a b) (pt c))with g'|g'
   ·obtain⟨e1,e2⟩:=H.beyond hab (H.symm hcd) hd hc g' hx hy ht hs (by rw[h,gP])
    exact .inr ⟨e1,e2⟩
   ·exfalso;have gc:=jJ hc;have gd:=jJ hd;rw[show ev (aX a b) (pt d)=ev (aX a b) (pt c) by omega]at gd
    have hL:=fM (H.ne hab);have one:∀v:V,(pt v).d=1:=fun _=>rfl
    rw[one]at gc gd;rw[gc]at gd;simp only[P3.mk.injEq,pt]at gd;have q1:=Int.eq_of_mul_eq_mul_left (show eK a b≠0 by omega) gd.1
    have q2:=Int.eq_of_mul_eq_mul_left (show eK a b≠0 by omega) gd.2.1
    refine H.ne hcd ?_;cases c;cases d;simp only[V.mk.injEq]at q1 q2|-;exact⟨q1,q2⟩
 ·exfalso;have ha:ev (lin c d) (pt a)≠0:=fun g=>by
   have g2:ev (lin c d) (pt b)=0:=by
    rw[g,Int.mul_zero,Int.zero_add]at f2;rcases Int.mul_eq_zero.1 f2 with g|g
    ·omega
    ·exact g
   have:ev (lin a b) (pt c)=ev (lin c a) (pt b):=by unfold ev lin pt;grind
   have k1:=aMq (a:=a) (b:=b) (H.ne hcd) g g2;exact hc k1
  have hd:ev (lin a b) (pt d)≠0:=fun g=>by
   rw[g,Int.mul_zero,Int.add_zero]at f1;rcases Int.mul_eq_zero.1 f1 with g|g
   ·omega
   ·exact hc g
  refine H.cross hab hcd ((nM ⟨a,b⟩ ⟨c,d⟩).cross (by simp[aK,na,nb,nc,nd]) ?_ ⟨Ol hs ht f1 hc,Ol hx hy f2 ha⟩)
  rintro p hp ⟨o1,o2⟩;have z1:ev (lin a b) (pt p)=0:=by rw[jW];exact((eR (by simp[aK,na,nb])).1 o1).2
  simp only[List.mem_cons,List.not_mem_nil,or_false]at hp;have z2:ev (lin c d) (pt p)=0:=by rw[jW];exact((eR (by simp[aK,nc,nd])).1 o2).2
  rcases hp with rfl|rfl|rfl|rfl
  ·exact ha z2
  ·rw[z2,Int.mul_zero,Int.add_zero]at f2;rcases Int.mul_eq_zero.1 f2 with g|g
   ·omega
   ·exact ha g
  ·exact hc z1
  ·exact hd z1
end
end Go.Proofs.YtdaeofhdgabhjaaGreat.Geo
namespace Go.Proofs.YtdaeofhdgabhjaaGreat.Geo
theorem aEp{a b:V}{p:P3}(hne:a≠b)(h0:ev (lin a b) p=0)(x1:min a.x b.x*p.d<=p.x)(x2:p.x<=max a.x b.x*p.d)(y1:min a.y b.y*p.d<=p.y)(y2:p.y<=max a.y b.y*p.d):
  ∃x y k:Int,0<=x/\0<=y/\0<k/\x+y=k*p.d/\cmb x (pt a) y (pt b)=⟨k*p.x,k*p.y,k*p.d⟩:=by
 have hL:=fM hne;have g:=jJ h0;have one:∀u v q:Int,min u v*p.d<=q->q<=max u v*p.d->0<=(v-u)*(q-u*p.d)/\0<=(v-u)*(v*p.d-q):=fun u v q h1 h2=>by
  rcases Int.le_total u v with h|h
  ·rw[Int.min_eq_left h]at h1;rw[Int.max_eq_right h]at h2;exact⟨mpp (by omega) (by omega),mpp (by omega) (by omega)⟩
  ·rw[Int.min_eq_right h]at h1;rw[Int.max_eq_left h]at h2;exact⟨mnn (by omega) (by omega),mnn (by omega) (by omega)⟩
 obtain⟨u1,u2⟩:=one _ _ _ x1 x2;obtain⟨v1,v2⟩:=one _ _ _ y1 y2;have ea:ev (aX a b) p=(b.x-a.x)*(p.x-a.x*p.d)+(b.y-a.y)*(p.y-a.y*p.d):=by unfold ev aX;grind
 have eb:eK a b*p.d-ev (aX a b) p=(b.x-a.x)*(b.x*p.d-p.x)+(b.y-a.y)*(b.y*p.d-p.y):=by unfold ev aX eK;grind
 exact⟨eK a b*p.d-ev (aX a b) p,ev (aX a b) p,eK a b,by omega,by omega,hL,by omega,g⟩
theorem Kz{e:S}{p:Pt}(hp:0<p.den)(hne:e.a≠e.b)(h:onP e p=true):∃x y k:Int,0<=x/\0<=y/\0<k/\x+y=k*p.den/\cmb x (pt e.a) y (pt e.b)=⟨k*p.x,k*p.y,k*p.den⟩:=by
 rw[aBe e p hp]at h;unfold onR at h;simp only[Bool.and_eq_true,decide_eq_true_eq,beq_iff_eq,kI]at h;obtain⟨⟨⟨⟨h1,h2⟩,h3⟩,h4⟩,h5⟩:=h;exact aEp (p:=p3 p) hne (by rw[<-h5];unfold fK cross sub toV ev lin p3;grind) h1 h2 h3 h4
theorem Lx{e:S}{v:V}(hv:aK e=true)(hne:e.a≠e.b)(h:onS e v=true):∃x y k:Int,0<=x/\0<=y/\0<k/\x+y=k/\cmb x (pt e.a) y (pt e.b)=cmb k (pt v) 0 (pt v):=by
 obtain⟨x,y,k,h1,h2,h3,h4,h5⟩:=Kz (p:=iD v) (by show(0:Int)<1;omega) hne ((Ep e v).2 ((eR hv).1 h))
 refine⟨x,y,k,h1,h2,h3,by rw[h4];show k*1=k;omega,?_⟩
 rw[h5];unfold cmb pt iD;simp
theorem Po{a b v:V}(ha:aJ a 4000=true)(hb:aJ b 4000=true):onS ⟨b,a⟩ v=onS ⟨a,b⟩ v:=by
 have v1:aK ⟨a,b⟩=true:=by simp[aK,ha,hb]
 have v2:aK ⟨b,a⟩=true:=by simp[aK,ha,hb]
 rw[Bool.eq_iff_iff,eR v1,eR v2];have e1:gJ ⟨b,a⟩ v=gJ ⟨a,b⟩ v:=by unfold gJ;dsimp only;rw[Int.min_comm,Int.max_comm,Int.min_comm b.y,Int.max_comm b.y]
 have e2:cross (sub a b) (sub v b)= -cross (sub b a) (sub v a):=Iq b a v;show(_/\cross (sub a b) (sub v b)=0)↔(_/\cross (sub b a) (sub v a)=0);rw[e1,e2];constructor<;>rintro⟨h1,h2⟩<;>exact⟨h1,by omega⟩
theorem sI{p:Pt}:∀{l:List S} {ins:Bool},(∃e∈l,onP e p=true)->eQ p l ins=1
 |[],_,⟨e,he,_⟩=>by cases he
 |e::l,ins,⟨e',he',ho⟩=>by
  unfold eQ;cases h:onP e p with
  |true=>rfl
  |false=>
   rcases List.mem_cons.1 he' with rfl|he'
   ·rw[h]at ho;cases ho
   ·exact sI ⟨e',he',ho⟩
theorem aEH{k:Int}(hk:0<k)(p:P3)(e:S):hit ⟨k*p.x,k*p.y,k*p.d⟩ e=hit p e:=by
 have e1:∀w,dn ⟨k*p.x,k*p.y,k*p.d⟩ w=dn p w:=fun w=>decide_eq_decide.2 (by
  show w.y*(k*p.d)<=k*p.y↔w.y*p.d<=p.y;rw[show w.y*(k*p.d)=k*(w.y*p.d) by grind]
  exact⟨fun h=>Int.le_of_mul_le_mul_left h hk,fun h=>Int.mul_le_mul_of_nonneg_left h (by omega)⟩)
 have e2:decide (0<ev (lin e.a e.b) ⟨k*p.x,k*p.y,k*p.d⟩)=decide (0<ev (lin e.a e.b) p):=decide_eq_decide.2 (by
  rw[show ev (lin e.a e.b) ⟨k*p.x,k*p.y,k*p.d⟩=k*ev (lin e.a e.b) p by unfold ev;grind]
  exact⟨fun h=>Int.pos_of_mul_pos_right h (by omega),fun h=>Int.mul_pos hk h⟩)
 unfold hit;rw[e1,e1,e2]
theorem yK{k:Int}(hk:0<k)(r:aC)(p:P3):dV r ⟨k*p.x,k*p.y,k*p.d⟩=dV r p:=by
 unfold dV
 congr 1
 exact List.map_congr_left fun e _=>aEH hk p e
def xS(c:S):P3:=cmb 1 (pt c.a) 1 (pt c.b)
theorem Yc(c:S):∃k:Int,0<k/\xS c=⟨k*(p3 (dO c)).x,k*(p3 (dO c)).y,k*(p3 (dO c)).d⟩:=by
 unfold dO;split
 ·rename_i h;refine⟨2,by omega,?_⟩
  have h1:(c.a.x+c.b.x).tdiv 2*2=c.a.x+c.b.x:=by have:=Int.mul_tdiv_add_tmod (c.a.x+c.b.x) 2;omega
  have h2:(c.a.y+c.b.y).tdiv 2*2=c.a.y+c.b.y:=by have:=Int.mul_tdiv_add_tmod (c.a.y+c.b.y) 2;omega
  unfold xS cmb pt p3;simp only[P3.mk.injEq];refine⟨?_,?_,?_⟩<;>omega
 ·refine⟨1,by omega,?_⟩
  unfold xS cmb pt p3;simp only[P3.mk.injEq];refine⟨?_,?_,?_⟩<;>omega
theorem Uq(c:S):0<(dO c).den:=by unfold dO;split<;>simp
theorem Yu{r:aC}(hr:VR r){c:S}(ha:aJ c.a 2000=true)(hb:aJ c.b 2000=true)(h:∀e∈edges r,∀x y s:Int,0<=x->0<=y->0<s->cmb x (pt e.a) y (pt e.b)≠cmb s (pt c.a) s (pt c.b)):
  aP r (dO c)=if dV r (xS c)then 2 else 0:=by
 obtain⟨k,hk,e⟩:=Yc c;rw[mA hr (qA ha hb) fun e' he'=> ?_,e,yK hk]
 refine Bool.eq_false_iff.2 fun ho=> ?_
 have hne:=hr.lS he';obtain⟨x,y,m,h1,h2,h3,h4,h5⟩:=Kz (Uq c) hne ho;refine h e' he' (k*x) (k*y) m (mpp (by omega) h1) (mpp (by omega) h2) h3 ?_
 unfold xS at e;unfold cmb p3 at*;simp only[P3.mk.injEq]at*;refine⟨?_,?_,?_⟩<;>grind
theorem Xs{r:aC}(hr:VR r){c:S}(ha:aJ c.a 2000=true)(hb:aJ c.b 2000=true)(h:aP r (dO c)≠1):aP r (dO c)=if dV r (xS c)then 2 else 0:=by
 obtain⟨k,hk,e⟩:=Yc c;rw[mA hr (qA ha hb) fun e' he'=> ?_,e,yK hk]
 refine Bool.eq_false_iff.2 fun ho=>h ?_
 unfold aP;rw[(cL _).2 hr,qA ha hb];exact sI ⟨e',he',ho⟩
end Go.Proofs.YtdaeofhdgabhjaaGreat.Geo
namespace Go.Proofs.YtdaeofhdgabhjaaGreat.Geo
structure Most(s:Shape)(v:List V)(acc:List S)(i k:Nat):Prop where
 chord:∀d∈acc,sG s d=true
 apart:acc.Pairwise fun d e=>dR d e≠2
 most:∀a b,a<b->b<v.length->(a<i\/(a=i/\b<k))->sG s ⟨nth v a,nth v b⟩=true->(⟨nth v a,nth v b⟩:S)∈acc\/∃d∈acc,dR d ⟨nth v a,nth v b⟩=2
theorem Zb{s:Shape}{v:List V}{acc:List S}{i k:Nat}(h:Most s v acc i k):Most s v (Ny s v acc i k) i (k+1):=by
 have up:∀{acc':List S},(∀d∈acc,d∈acc')->((sG s ⟨nth v i,nth v k⟩=true)->(⟨nth v i,nth v k⟩:S)∈acc'\/∃d∈acc',dR d ⟨nth v i,nth v k⟩=2)->
   ∀a b,a<b->b<v.length->(a<i\/(a=i/\b<k+1))->sG s ⟨nth v a,nth v b⟩=true->(⟨nth v a,nth v b⟩:S)∈acc'\/∃d∈acc',dR d ⟨nth v a,nth v b⟩=2:=by
  intro acc' hs hn a b hab hb hl hc;by_cases he:a=i/\b=k
  ·obtain⟨rfl,rfl⟩:=he;exact hn hc
  ·rcases h.most a b hab hb (by omega) hc with h1|⟨d,h1,h2⟩
   ·exact .inl (hs _ h1)
   ·exact .inr ⟨d,hs _ h1,h2⟩
 unfold Ny;cases hc:sG s ⟨nth v i,nth v k⟩&&(acc.all fun d=>dR d ⟨nth v i,nth v k⟩ !=2)with
 |true=>
  rw[if_pos rfl];rw[Bool.and_eq_true,List.all_eq_true]at hc;obtain⟨h1,h2⟩:=hc;refine⟨fun d hd=> ?_,?_,up (fun d hd=>List.mem_append_left _ hd) fun _=> .inl (List.mem_append_right _ (List.mem_singleton.2 rfl))⟩
  ·rcases List.mem_append.1 hd with hd|hd
   ·exact h.chord d hd
   ·rw[List.mem_singleton.1 hd];exact h1
  ·rw[List.pairwise_append];refine⟨h.apart,List.pairwise_singleton _ _,fun d hd e he=> ?_⟩
   rw[List.mem_singleton.1 he];have:=h2 d hd;simpa using this
 |false=>
  rw[if_neg (by simp)]
  refine⟨h.chord,h.apart,up (fun d hd=>hd) fun h1=> ?_⟩
  rw[h1,Bool.true_and,List.all_eq_false]at hc;obtain⟨d,hd,h2⟩:=hc;exact .inr ⟨d,hd,by simpa using h2⟩
theorem Pg{s:Shape}{v:List V}{acc:List S}{i:Nat}(h:Most s v acc i (i+1)):∀m,Most s v (Yk s v acc i m) i (i+1+m)
 |0=>h
 |m+1=>Zb (Pg h m)
theorem Wm(s:Shape)(v:List V):∀i,Most s v (Ad s v i) i (i+1)
 |0=>⟨(fun d hd=>by cases hd),List.Pairwise.nil,(fun a b h1 h2 h3=>by omega)⟩
 |i+1=>by
  have h:=Pg (Wm s v i) (v.length-(i+1));exact⟨h.chord,h.apart,fun a b h1 h2 h3=>h.most a b h1 h2 (by omega)⟩
theorem Bd(s:Shape)(v:List V):Most s v (rI s v) v.length (v.length+1):=Wm s v v.length
end Go.Proofs.YtdaeofhdgabhjaaGreat.Geo
namespace Go.Proofs.YtdaeofhdgabhjaaGreat.Geo
theorem Eu{s t:S}(h:cN s t=2):(aK s&&aK t)=true/\(∀p,p∈ends s t->¬bZ s t p)/\turn s.a s.b t.a*turn s.a s.b t.b<0/\turn t.a t.b s.a*turn t.a t.b s.b<0:=by
 have M:=nM s t;have hv:(aK s&&aK t)=true:=by
  cases hv:(aK s&&aK t)with
  |true=>rfl
  |false=>have:=M.none hv;omega
 have hn:∀p,p∈ends s t->¬bZ s t p:=by
  intro p hp ho;by_cases hu:∀p q,p∈[s.a,s.b,t.a,t.b]->q∈[s.a,s.b,t.a,t.b]->bZ s t p->bZ s t q->p=q
  ·have:=M.touch hv hu ⟨p,hp,ho⟩;omega
  ·refine hu fun p q hp hq o1 o2=>Classical.byContradiction fun hne=> ?_
   have:=M.over p q hp hq hne o1 o2;omega
 refine⟨hv,hn,Classical.byContradiction fun hc=> ?_⟩
 have:=M.else_ hv hn hc;omega
theorem sT{s t:S}{p:V}(hp:p∈ends s t)(ho:bZ s t p):cN s t≠2:=fun h=>(Eu h).2.1 p hp ho
theorem Ir(a b c:V):turn b a c= -turn a b c:=by
 unfold turn;rw[show cross (sub a b) (sub c b)= -cross (sub b a) (sub c a) by have:=Iq a b c;omega]
 unfold sgn;grind
theorem rY{a b:V}{t:S}(h:cN ⟨b,a⟩ t=2):cN ⟨a,b⟩ t=2:=by
 obtain⟨h1,h2,h3,h4⟩:=Eu h;have hva:aJ a 4000=true/\aJ b 4000=true:=by simp[aK]at h1;exact⟨h1.1.2,h1.1.1⟩
 have hv:(aK ⟨a,b⟩&&aK t)=true:=by simp[aK]at h1|-;exact⟨⟨h1.1.2,h1.1.1⟩,h1.2⟩
 refine(nM ⟨a,b⟩ t).cross hv (fun p hp ho=>h2 p ?_ ?_) ⟨?_,?_⟩
 ·rw[gO];simp only[List.mem_cons,List.not_mem_nil,or_false]at hp;rcases hp with rfl|rfl|rfl|rfl<;>simp
 ·obtain⟨o1,o2⟩:=ho;exact⟨by rw[Po hva.1 hva.2];exact o1,o2⟩
 ·dsimp only at h3|-;rw[Ir b a,Ir b a,Int.neg_mul_neg];exact h3
 ·dsimp only at h4|-;rw[Int.mul_comm];exact h4
def rG(B:List S)(a b:V):Prop:=(⟨a,b⟩:S)∈B\/(⟨b,a⟩:S)∈B
theorem Wy{W:List V}{B:List S}(hn:∀v∈W,aJ v 4000=true)(hw:∀e∈B,e.a∈W/\e.b∈W/\e.a≠e.b)(hc:∀e∈B,∀v∈W,onS e v=true->v=e.a\/v=e.b)(hx:∀e∈B,∀d∈B,cN e d≠2):Segs W (rG B):=by
 refine⟨fun h=>h.symm,fun h=> ?_,fun h=> ?_,hn,fun h hv ho=> ?_,fun h h' hm=> ?_⟩
 ·rcases h with h|h
  ·exact(hw _ h).2.2
  ·exact(hw _ h).2.2.symm
 ·rcases h with h|h
  ·exact(hw _ h).1
  ·exact(hw _ h).2.1
 ·rcases h with h|h
  ·exact hc _ h _ hv ho
  ·rw[Po (hn _ (hw _ h).1) (hn _ (hw _ h).2.1)]at ho;exact(hc _ h _ hv ho).symm
 ·rcases h with h|h<;>rcases h' with h'|h'
  ·exact hx _ h _ h' hm
  ·exact hx _ h _ h' (by rw[hU]at hm|-;exact rY hm)
  ·exact hx _ h _ h' (rY hm)
  ·exact hx _ h _ h' (by have:=rY hm;rw[hU]at this|-;exact rY this)
theorem VR.nocross{r:aC}(h:VR r){e d:S}(he:e∈edges r)(hd:d∈edges r):cN e d≠2:=by
 obtain⟨_,i,hi,rfl⟩:=mem_edges.1 he;obtain⟨_,k,hk,rfl⟩:=mem_edges.1 hd;have vi:=dQ h.near i hi;have vk:=dQ h.near k hk;have h3:=h.three;have main:∀i k,i<r.length->k<r.length->i<k->cN (cO r i) (cO r k)≠2:=fun i k hi hk hik=>by
  have vi:=dQ h.near i hi;have vk:=dQ h.near k hk;by_cases e1:k=i+1
  ·have e2:(cO r i).b=(cO r k).a:=by show nth r ((i+1) % r.length)=nth r k;rw[Nat.mod_eq_of_lt (by omega),e1]
   exact sT (p:=(cO r i).b) (by rw[gO];simp) ⟨mZ vi,by rw[e2];exact gX vk⟩
  ·by_cases e1:i=0/\k=r.length-1
   ·have e2:(cO r k).b=(cO r i).a:=by show nth r ((k+1) % r.length)=nth r i;rw[e1.1,e1.2,show r.length-1+1=r.length by omega,Nat.mod_self]
    exact sT (p:=(cO r i).a) (by rw[gO];simp) ⟨gX vi,by rw[<-e2];exact mZ vk⟩
   ·have:=h.apart i k hik hk (by omega) e1;omega
 rcases Nat.lt_trichotomy i k with g|g|g
 ·exact main i k hi hk g
 ·subst g;exact sT (p:=(cO r i).a) (by rw[gO];simp) ⟨gX vi,gX vi⟩
 ·rw[hU];exact main k i hk hi g
theorem zB{α:Type}{R:α->α->Prop}(hs:∀a b,R a b->R b a):∀{l:List α},l.Pairwise R->∀a∈l,∀b∈l,a=b\/R a b
 |[],_,a,ha,_,_=>by cases ha
 |x::l,h,a,ha,b,hb=>by
  rw[List.pairwise_cons]at h;rcases List.mem_cons.1 ha with e|ha'<;>rcases List.mem_cons.1 hb with e'|hb'
  ·exact .inl (e.trans e'.symm)
  ·rw[e];exact .inr (h.1 b hb')
  ·rw[e'];exact .inr (hs _ _ (h.1 a ha'))
  ·exact zB hs h.2 a ha' b hb'
theorem VS.nocross{s:Shape}(h:VS s){e d:S}(he:e∈aQ s)(hd:d∈aQ s):cN e d≠2:=by
 obtain⟨r,hr,he⟩:=List.mem_flatMap.1 he;obtain⟨q,hq,hd⟩:=List.mem_flatMap.1 hd;rcases zB (fun a b h=>by rw[kP];exact h) h.pair r hr q hq with rfl|g
 ·exact(h.ring hr).nocross he hd
 ·unfold dU at g;rw[List.all_eq_true]at g;have:=List.all_eq_true.1 (g e he) d hd;simp only[beq_iff_eq]at this;omega
theorem xL{s:Shape}{e:S}(he:e∈aQ s):e.a∈bJ s/\e.b∈bJ s:=by
 obtain⟨r,hr,he⟩:=List.mem_flatMap.1 he;obtain⟨h1,h2⟩:=dX he;exact⟨List.mem_flatten.2 ⟨r,hr,h1⟩,List.mem_flatten.2 ⟨r,hr,h2⟩⟩
structure Tg(s:Shape)(D:List S):Prop where
 vs:VS s
 chord:∀d∈D,fX s d=true
 ends:∀d∈D,d.a∈bJ s/\d.b∈bJ s/\d.a≠d.b
 apart:∀d∈D,∀e∈D,cN d e≠2
 most:∀a∈bJ s,∀b∈bJ s,a≠b->fX s ⟨a,b⟩=true->fX s ⟨b,a⟩=true->(⟨a,b⟩:S)∈D\/(⟨b,a⟩:S)∈D\/∃d∈D,cN d ⟨a,b⟩=2
 once:D.Pairwise fun d e=>d≠e/\d≠⟨e.b,e.a⟩
def sides(s:Shape)(D:List S):V->V->Prop:=rG (aQ s++D)
theorem Tg.segs{s:Shape}{D:List S}(T:Tg s D):Segs (bJ s) (sides s D):=by
 have h:=T.vs;have hn:∀v∈bJ s,aJ v 4000=true:=fun v hv=>dD (eI h hv) (by omega)
 have ed:∀e∈aQ s,∀d∈D,cN e d≠2:=fun e he d hd hm=>by
  have:=T.chord d hd;unfold fX at this;rw[Bool.and_eq_true,List.all_eq_true]at this;have:=this.1 e he;unfold cJ at this;simp[hm]at this
 refine Wy hn (fun e he=> ?_) (fun e he v hv ho=> ?_) (fun e he d hd=> ?_)
 ·rcases List.mem_append.1 he with he|he
  ·exact⟨(xL he).1,(xL he).2,h.lS he⟩
  ·exact T.ends e he
 ·rcases List.mem_append.1 he with he|he
  ·exact h.touch hv he ho
  ·exact uY h (T.chord e he) hv ho
 ·rcases List.mem_append.1 he with he|he<;>rcases List.mem_append.1 hd with hd|hd
  ·exact h.nocross he hd
  ·exact ed e he d hd
  ·rw[hU];exact ed d hd e he
  ·exact T.apart e he d hd
end Go.Proofs.YtdaeofhdgabhjaaGreat.Geo
namespace Go.Proofs.YtdaeofhdgabhjaaGreat.Geo
def fH(s:Shape)(p:P3):Bool:=dV s.outer p&&s.holes.all fun h=> !(dV h p)
theorem zM{a b p:V}{y k:Int}(hk:0<k)(h:cmb 0 (pt a) y (pt b)=cmb k (pt p) 0 (pt p)):p=b:=by
 simp only[cmb,pt,P3.mk.injEq]at h;obtain⟨h1,h2,h3⟩:=h;have e:y=k:=by omega
 subst e;have q1:=Int.eq_of_mul_eq_mul_left (show y≠0 by omega) (show y*b.x=y*p.x by omega)
 have q2:=Int.eq_of_mul_eq_mul_left (show y≠0 by omega) (show y*b.y=y*p.y by omega)
 cases p;cases b;simp only[V.mk.injEq]at q1 q2|-;exact⟨q1.symm,q2.symm⟩
theorem Qq{a b u w:V}(h1:turn a b u*turn a b w<0)(h2:turn u w a*turn u w b<0):∃x y s t:Int,0<x/\0<y/\0<s/\0<t/\cmb x (pt a) y (pt b)=cmb s (pt u) t (pt w):=by
 unfold turn at h1 h2;rw[nZ,<-jW,<-jW]at h1 h2;have g:=gc a b (pt u) (pt w);rw[<-aH6]at g;have e:ev (lin u w) (pt b)-ev (lin u w) (pt a)=ev (lin a b) (pt u)-ev (lin a b) (pt w):=by unfold ev lin pt;grind
 rcases h1 with⟨p1,p2⟩|⟨p1,p2⟩
 ·exact⟨_,_,_,_,by omega,by omega,by omega,by omega,g⟩
 ·refine⟨-(ev (lin u w) (pt b)),ev (lin u w) (pt a),ev (lin a b) (pt w),-(ev (lin a b) (pt u)),by omega,by omega,by omega,by omega,?_⟩
  generalize ev (lin u w) (pt b)=A at*;generalize ev (lin u w) (pt a)=B at*;generalize ev (lin a b) (pt w)=C at*;generalize ev (lin a b) (pt u)=E at*;unfold cmb at g|-;simp only[P3.mk.injEq]at g|-;refine⟨?_,?_,?_⟩<;>grind
theorem aAO{e c:S}(ve:aK e=true)(vc:aK c=true)(hne:e.a≠e.b)(hcne:c.a≠c.b)
  (hno:∀x y s t:Int,0<=x->0<=y->0<s->0<t->cmb x (pt e.a) y (pt e.b)≠cmb s (pt c.a) t (pt c.b)) (hte:∀p,p=c.a\/p=c.b->onS e p=true->p=e.a\/p=e.b):cJ e c=true:=by
 have A:∀p,bZ e c p->p=c.a\/p=c.b:=by
  rintro p ⟨o1,o2⟩;obtain⟨x,y,k,h1,h2,h3,h4,h5⟩:=Lx ve hne o1;obtain⟨s,t,m,g1,g2,g3,g4,g5⟩:=Lx vc hcne o2;rcases Int.lt_or_le 0 s with hs|hs
  ·rcases Int.lt_or_le 0 t with ht|ht
   ·refine absurd ?_ (hno (m*x) (m*y) (k*s) (k*t) (mpp (by omega) h1) (mpp (by omega) h2) (Int.mul_pos h3 hs) (Int.mul_pos h3 ht))
    unfold cmb pt at*;simp only[P3.mk.injEq]at*;refine⟨?_,?_,?_⟩<;>grind
   ·have:t=0:=by omega
    subst this;exact .inl (zM g3 (by rw[gP];exact g5))
  ·have:s=0:=by omega
   subst this;exact .inr (zM g3 g5)
 have M:=nM e c;have hv:(aK e&&aK c)=true:=by rw[ve,vc];rfl
 unfold cJ;by_cases hp:∃p,p∈ends e c/\bZ e c p
 ·obtain⟨p,hp,ho⟩:=hp;have c1:=A p ho;have c2:=hte p c1 ho.1;have k1:cN e c=1:=by
   refine M.touch hv (fun q r hq hr oq or=>Classical.byContradiction fun hqr=> ?_) ⟨p,hp,ho⟩
   have q1:=A q oq;have r1:=A r or;have q2:=hte q q1 oq.1;have r2:=hte r r1 or.1;have:(e.a=c.a/\e.b=c.b)\/(e.a=c.b/\e.b=c.a):=by grind
   rcases this with⟨w1,w2⟩|⟨w1,w2⟩
   ·exact hno 1 1 1 1 (by omega) (by omega) (by omega) (by omega) (by rw[w1,w2])
   ·exact hno 1 1 1 1 (by omega) (by omega) (by omega) (by omega) (by rw[w1,w2,gP])
  have k2:Aa e c=true:=by rw[sQ];grind
  rw[k1,k2];rfl
 ·have k0:cN e c=0:=by
   refine M.else_ hv (fun p hp' ho=>hp ⟨p,hp',ho⟩) fun⟨h1,h2⟩=> ?_
   obtain⟨x,y,s,t,hx,hy,hs,ht,g⟩:=Qq h1 h2;exact hno x y s t (by omega) (by omega) hs ht g
  rw[k0];rfl
theorem Qt{s:Shape}(h:VS s){u w:V}(hu:u∈bJ s)(hw:w∈bJ s)(hne:u≠w)(hno:∀e∈aQ s,∀x y s t:Int,0<=x->0<=y->0<s->0<t->cmb x (pt e.a) y (pt e.b)≠cmb s (pt u) t (pt w))
  (hi:fH s (cmb 1 (pt u) 1 (pt w))=true):fX s ⟨u,w⟩=true:=by
 have nu:=eI h hu;have nw:=eI h hw;unfold fX;rw[Bool.and_eq_true,List.all_eq_true];refine⟨fun e he=>aAO (Cc h he) (by unfold aK;rw[dD nu (by omega),dD nw (by omega)];rfl) (h.lS he) hne (hno e he) fun p hp ho=> ?_,?_⟩
 ·refine h.touch ?_ he ho;rcases hp with rfl|rfl
  ·exact hu
  ·exact hw
 ·rw[beq_iff_eq,mF];have mem:∀r∈aG s,∀e∈edges r,e∈aQ s:=fun r hr e he=>List.mem_flatMap.2 ⟨r,hr,he⟩
  have wm:∀r∈aG s,aP r (dO ⟨u,w⟩)=if dV r (xS ⟨u,w⟩)then 2 else 0:=fun r hr=>
   Yu (h.ring hr) nu nw fun e he x y k hx hy hk=>hno e (mem r hr e he) x y k k hx hy hk hk
  unfold fH at hi;rw[Bool.and_eq_true,List.all_eq_true]at hi;refine⟨(fR s).2 h,?_,fun q hq=> ?_⟩
  ·rw[wm _ List.mem_cons_self];exact if_pos hi.1
  ·rw[wm _ (List.mem_cons_of_mem _ hq)];have:=hi.2 q hq;simp only[Bool.not_eq_true']at this;exact if_neg (by unfold xS;rw[this];simp)
theorem Qu{s:Shape}(h:VS s){c:S}(ha:c.a∈bJ s)(hb:c.b∈bJ s)(hc:fX s c=true):fH s (xS c)=true:=by
 unfold fX at hc;rw[Bool.and_eq_true,beq_iff_eq,mF]at hc;obtain⟨_,_,h2,h3⟩:=hc;have na:=eI h ha;have nb:=eI h hb;unfold fH;rw[Bool.and_eq_true,List.all_eq_true];refine⟨?_,fun q hq=> ?_⟩
 ·have:=Xs h.outer na nb (by omega)
  rw[h2]at this;cases hp:dV s.outer (xS c)with
  |true=>rfl
  |false=>rw[hp]at this;simp at this
 ·have:=Xs (h.ring (List.mem_cons_of_mem _ hq)) na nb (by have:=h3 q hq;omega)
  rw[h3 q hq]at this;cases hp:dV q (xS c)with
  |false=>rfl
  |true=>rw[hp]at this;simp at this
theorem Il:∀l:List S,fD (l.map fun _=>false)=false
 |[] =>rfl
 |e::l=>by show(false !=fD (l.map fun _=>false))=false;rw[Il l];rfl
theorem Xg{r:aC}(h2:2<=r.length)(hn:∀v∈r,-2000<=v.x/\v.x<=2000/\ -2000<=v.y/\v.y<=2000){q:P3}(hq:0<q.d)(h:2000*q.d<q.x\/q.x< -(2000*q.d)\/2000*q.d<q.y\/q.y< -(2000*q.d)):dV r q=false:=by
 have flat:∀q:P3,0<q.d->(2000*q.d<q.y\/q.y< -(2000*q.d))->dV r q=false:=by
  intro q hq h;have dnq:∀v∈r,dn q v=decide (2000*q.d<q.y):=fun v hv=>decide_eq_decide.2 (by
   obtain⟨_,_,h3,h4⟩:=hn v hv;have l1:=Int.mul_le_mul_of_nonneg_right h3 (show 0<=q.d by omega)
   have l2:=Int.mul_le_mul_of_nonneg_right h4 (show 0<=q.d by omega)
   omega)
  have:∀e∈edges r,hit q e=false:=fun e he=>by
   obtain⟨ha,hb⟩:=dX he;unfold hit;rw[dnq _ ha,dnq _ hb];simp
  unfold dV;rw[List.map_congr_left (g:=fun _=>false) this]
  exact Il _
 by_cases hy:2000*q.d<q.y\/q.y< -(2000*q.d)
 ·exact flat q hq hy
 ·have hx:2000*q.d<q.x\/q.x< -(2000*q.d):=by omega
  rw[pQ (q:=⟨q.x,q.y+4001*q.d,q.d⟩) h2 hq hq fun e he=> ?_]
  ·exact flat _ hq (.inl (by show 2000*q.d<q.y+4001*q.d;omega))
  ·rintro⟨x,y,s,t,hx0,hy0,hxy,hs,ht,g⟩;obtain⟨ha,hb⟩:=dX he;simp only[cmb,pt,P3.mk.injEq]at g;obtain⟨g1,_,g3⟩:=g;have a1:=hn _ ha;have b1:=hn _ hb;have l1:=Int.mul_le_mul_of_nonneg_left a1.1 hx0;have l2:=Int.mul_le_mul_of_nonneg_left a1.2.1 hx0;have l3:=Int.mul_le_mul_of_nonneg_left b1.1 hy0;have l4:=Int.mul_le_mul_of_nonneg_left b1.2.1 hy0;have hst:0<s+t:=by
    refine Int.not_le.1 fun h=> ?_
    have:s=0:=by omega
    have:t=0:=by omega
    subst s t;omega
   have e1:s*q.x+t*q.x=(s+t)*q.x:=by rw[Int.add_mul]
   have e2:s*q.d+t*q.d=(s+t)*q.d:=by rw[Int.add_mul]
   rcases hx with hx|hx
   ·have:=Int.mul_lt_mul_of_pos_left hx hst;have e3:(s+t)*(2000*q.d)=2000*((s+t)*q.d):=by grind
    omega
   ·have:=Int.mul_lt_mul_of_pos_left hx hst;have e3:(s+t)*(-(2000*q.d))= -(2000*((s+t)*q.d)):=by grind
    omega
theorem En{r:aC}(h:VR r):∀v∈r,-2000<=v.x/\v.x<=2000/\ -2000<=v.y/\v.y<=2000:=fun v hv=>by
 have:=uG h.near hv;unfold aJ at this;simp only[Bool.and_eq_true,decide_eq_true_eq]at this;exact⟨this.1.1.1,this.1.1.2,this.1.2,this.2⟩
theorem Ex{s:Shape}(h:VS s){p q:P3}(hp:0<p.d)(hq:0<q.d)(hm:∀e∈aQ s,¬iO e p q):fH s p=fH s q:=by
 have key:∀r∈aG s,dV r p=dV r q:=fun r hr=>pQ (by have:=(h.ring hr).three;omega) hp hq fun e he=>hm e (List.mem_flatMap.2 ⟨r,hr,he⟩)
 unfold fH;rw[key _ List.mem_cons_self]
 congr 1
 rw[Bool.eq_iff_iff,List.all_eq_true,List.all_eq_true];constructor
 ·intro g r hr;rw[<-key r (List.mem_cons_of_mem _ hr)];exact g r hr
 ·intro g r hr;rw[key r (List.mem_cons_of_mem _ hr)];exact g r hr
theorem Tg.filled{s:Shape}{D:List S}(T:Tg s D):Filled (bJ s) (sides s D) (fH s):=by
 have h:=T.vs;refine⟨T.segs.net,fun p q hp hq hm=> ?_,fun u hu w hw hne hno hi=> ?_,⟨2000,by omega,fun q hq hf=> ?_⟩⟩
 ·exact Ex h hp hq fun e he=>hm e.a e.b (.inl (List.mem_append_left _ he))
 ·have c1:fX s ⟨u,w⟩=true:=Qt h hu hw hne (fun e he x y k m hx hy hk hm'=>hno e.a e.b (.inl (List.mem_append_left _ he)) x y k m hx hy hk hm') hi
  have c2:fX s ⟨w,u⟩=true:=Qt h hw hu hne.symm (fun e he x y k m hx hy hk hm'=>by
   rw[gP k m];exact hno e.a e.b (.inl (List.mem_append_left _ he)) x y m k hx hy hm' hk) (by rw[gP];exact hi)
  rcases T.most u hu w hw hne c1 c2 with g|g|⟨d,hd,hm⟩
  ·exact .inl (List.mem_append_right _ g)
  ·exact .inr (List.mem_append_right _ g)
  ·exfalso;obtain⟨_,_,m1,m2⟩:=Eu hm;obtain⟨x,y,k,m,hx,hy,hk,hm',g⟩:=Qq m1 m2;exact hno d.a d.b (.inl (List.mem_append_right _ hd)) x y k m (by omega) (by omega) hk hm' g
 ·unfold fH;rw[Xg (by have:=h.outer.three;omega) (En h.outer) hq hf];rfl
def aA3(acc:List (Nat×Nat))(i k:Nat):Prop:=acc.Nodup/\∀p∈acc,p.1<i\/(p.1=i/\p.2<k)
theorem aAc{s:Shape}{v:List V}{acc:List (Nat×Nat)}{i k:Nat}(h:aA3 acc i k):aA3 (xU s v acc i k) i (k+1):=by
 unfold xU;split
 ·refine⟨?_,fun p hp=> ?_⟩
  ·rw[List.nodup_append];refine⟨h.1,by simp,fun a ha b hb e=> ?_⟩
   obtain rfl:=List.mem_singleton.1 hb;subst e;have:=h.2 _ ha;simp at this
  ·rcases List.mem_append.1 hp with hp|hp
   ·have:=h.2 p hp;omega
   ·obtain rfl:=List.mem_singleton.1 hp;right;exact⟨rfl,by simp⟩
 ·exact⟨h.1,fun p hp=>by have:=h.2 p hp;omega⟩
theorem Pn{s:Shape}{v:List V}{acc:List (Nat×Nat)}{i:Nat}(h:aA3 acc i (i+1)):∀m,aA3 (rowP s v acc i m) i (i+1+m)
 |0=>h
 |m+1=>aAc (Pn h m)
theorem Xk(s:Shape)(v:List V):∀i,aA3 (cU s v i) i (i+1)
 |0=>⟨List.nodup_nil,fun p hp=>by cases hp⟩
 |i+1=>by
  have:=Pn (s:=s) (v:=v) (Xk s v i) (v.length-(i+1));exact⟨this.1,fun p hp=>by have:=this.2 p hp;omega⟩
theorem aFT{s:Shape}(h:VS s){v:List V}(hv:∀x,x∈v↔x∈bJ s)(hn:v.Nodup):Tg s (rI s v):=by
 obtain⟨e,F⟩:=Mk h (fun x hx=>(hv x).1 hx) hn
 have O:=Xk s v v.length;have hD:∀d∈rI s v,∃p∈cZ s v,d=eZ v p:=fun d hd=>by
  rw[<-e]at hd;obtain⟨p,hp,rfl⟩:=List.mem_map.1 hd;exact⟨p,hp,rfl⟩
 have ends:∀d∈rI s v,d.a∈bJ s/\d.b∈bJ s/\d.a≠d.b:=fun d hd=>by
  obtain⟨p,hp,rfl⟩:=hD d hd;have:=F.lt p hp;exact⟨(hv _).1 (gT (by omega)),(hv _).1 (gT this.2),fun g=>by have:=eV hn (by omega) this.2 g;omega⟩
 refine⟨h,fun d hd=> ?_,ends,fun d hd d' hd'=> ?_,fun a ha b hb hab c1 c2=> ?_,?_⟩
 ·obtain⟨p,hp,rfl⟩:=hD d hd;exact F.chord p hp
 ·have vd:∀d∈rI s v,aK d=true:=fun d hd=>by
   obtain⟨h1,h2,_⟩:=ends d hd;unfold aK;rw[dD (eI h h1) (by omega),dD (eI h h2) (by omega)];rfl
  have ap:(rI s v).Pairwise fun d e=>cN d e≠2:=(Bd s v).apart.imp fun{a b} h=>by rw[oK];exact h
  rcases zB (fun a b h=>by rw[hU];exact h) ap d hd d' hd' with rfl|g
  ·exact sT (p:=d.a) (by rw[gO];simp) ⟨gX (vd d hd),gX (vd d hd)⟩
  ·exact g
 ·obtain⟨i,hi,rfl⟩:=fU.1 ((hv a).2 ha);obtain⟨k,hk,rfl⟩:=fU.1 ((hv b).2 hb);rcases Nat.lt_trichotomy i k with g|g|g
  ·rcases(Bd s v).most i k g hk (.inl hi) (by rw[<-Ff h ha hb hab];exact c1)with m|⟨d,hd,m⟩
   ·exact .inl m
   ·exact .inr (.inr ⟨d,hd,by rw[oK];exact m⟩)
  ·exact absurd (by rw[g]) hab
  ·rcases(Bd s v).most k i g hi (.inl hk) (by rw[<-Ff h hb ha hab.symm];exact c2)with m|⟨d,hd,m⟩
   ·exact .inr (.inl m)
   ·refine .inr (.inr ⟨d,hd,?_⟩);rw[<-oK]at m;rw[hU]at m|-;exact rY m
 ·rw[<-e,List.pairwise_map];have O1:=O.1;rw[List.nodup_iff_pairwise_ne]at O1;refine(List.Pairwise.and_mem.1 O1).imp ?_;rintro p q ⟨hp,hq,hne⟩;have lp:=F.lt p hp;have lq:=F.lt q hq;refine⟨fun g=> ?_,fun g=> ?_⟩
  ·unfold eZ at g;simp only[S.mk.injEq]at g;have i1:=eV hn (by omega) (by omega) g.1
   have i2:=eV hn (by omega) (by omega) g.2
   exact hne (by cases p;cases q;simp only[Prod.mk.injEq]at*;exact⟨i1,i2⟩)
  ·unfold eZ at g;simp only[S.mk.injEq]at g;have i1:=eV hn (by omega) (by omega) g.1
   have i2:=eV hn (by omega) (by omega) g.2
   omega
end Go.Proofs.YtdaeofhdgabhjaaGreat.Geo
namespace Go.Proofs.YtdaeofhdgabhjaaGreat.Geo
theorem Fu{a b c:V}(hne:c≠a)(n:Int){h:Int}(hc:0<ev (lin a b) (pt c))(hh:h<ev (lin a b) (pt c)):∃q,In (thin c a n) q/\In [lin a b,lin c a,over b c h] q:=by
 have hL2:=fM hne;have e9:(a.x-c.x)*(a.x-c.x)-(a.y-c.y)* -(a.y-c.y)=eK c a:=by unfold eK;grind
 obtain⟨M0,hM0,hI⟩:=jQ hne (x:= -(a.y-c.y)) (y:=a.x-c.x) (by omega) n
 have e1:∀M:Int,ev (lin a b) (cS c a M (-(a.y-c.y)) (a.x-c.x))=M*ev (lin a b) (pt c)+ev (lin a b) ⟨-(a.y-c.y),a.x-c.x,0⟩:=fun M=>by unfold ev lin cS pt;grind
 generalize hk:ev (lin a b) ⟨-(a.y-c.y),a.x-c.x,0⟩=k at e1;have hP:=hI (M0+k.natAbs) (by omega)
 have hβ:0<ev (lin a b) (cS c a (M0+k.natAbs) (-(a.y-c.y)) (a.x-c.x)):=by
  rw[e1];have:=Int.mul_le_mul_of_nonneg_left (show 1<=ev (lin a b) (pt c) by omega) (show 0<=M0+(k.natAbs:Int) by omega)
  omega
 generalize cS c a (M0+k.natAbs) (-(a.y-c.y)) (a.x-c.x)=P at*;obtain⟨p0,p1,p2,p3⟩:=kX.1 hP;have e0:ev (lin b c) (pt a)=ev (lin a b) (pt c):=iR a b c;refine⟨cmb (1+(ev (over b c h) P).natAbs) (pt a) 1 P,?_,by simp only[cmb,pt];omega,?_⟩
 ·rw[kX,aM,aM,aM,bR,nQ,iS];have g1:=mpp (show 0<=1+((ev (over b c h) P).natAbs:Int) by omega) (show 0<=eK c a by omega)
  have g2:n*(1*ev (lin c a) P)=n*ev (lin c a) P:=by rw[Int.one_mul]
  refine⟨by simp only[cmb,pt];omega,by omega,?_,?_⟩<;>rw[Int.mul_zero,Int.zero_add]at* <;>omega
 ·simp only[List.mem_cons,List.not_mem_nil,or_false,forall_eq_or_imp,forall_eq];refine⟨?_,?_,?_⟩
  ·rw[aM,bB];omega
  ·rw[aM,bR];omega
  ·rw[aM];have ho:1<=ev (over b c h) (pt a):=by rw[lC,e0];show 1<=ev (lin a b) (pt c)-h*1;omega
   have:=Int.mul_le_mul_of_nonneg_left ho (show 0<=1+((ev (over b c h) P).natAbs:Int) by omega)
   omega
section
variable {W:List V} {side:V->V->Prop} {ins:P3->Bool}
theorem Corner.both(H:Calm W side ins){a b c:V}{h:Int}(K:Corner W side a b c h)(hab:side a b)(hac:side a c)(hc:0<ev (lin a b) (pt c))(hh:h<ev (lin a b) (pt c)):Lft ins a b↔Lft ins c a:=by
 have N:=H.net;have key:∀{q1 q2:P3},In [lin a b,lin c a,over b c h] q1->In [lin a b,lin c a,over b c h] q2->ins q1=ins q2:=fun h1 h2=>H.const (fun u v huv=>K.free N huv) h1 h2
 constructor
 ·rintro⟨n0,hn⟩;obtain⟨q1,g1,g2⟩:=Ai (N.ne hab) n0 hc hh;refine Du H (N.symm hac) fun n=> ?_
  obtain⟨q2,k1,k2⟩:=Fu (N.ne (N.symm hac)) n hc hh;exact⟨q2,k1,by rw[key k2 g2];exact hn n0 (Int.le_refl _) q1 g1⟩
 ·rintro⟨n0,hn⟩;obtain⟨q1,g1,g2⟩:=Fu (N.ne (N.symm hac)) n0 hc hh;refine Du H hab fun n=> ?_
  obtain⟨q2,k1,k2⟩:=Ai (N.ne hab) n hc hh;exact⟨q2,k1,by rw[key k2 g2];exact hn n0 (Int.le_refl _) q1 g1⟩
open Classical in
theorem aAE(_N:Net W side){a b c:V}(hab:side a b)(hac:side a c)(hc:0<ev (lin a b) (pt c))(hs:∀x,side a x->¬(0<ev (lin a b) (pt x)/\0<ev (lin c a) (pt x))):∃h,h<ev (lin a b) (pt c)/\Corner W side a b c h:=by
 have top:∀w∈W,w≠a->0<=ev (lin a b) (pt w)->0<=ev (lin c a) (pt w)->ev (lin b c) (pt w)<ev (lin a b) (pt c):=by
  intro w _ hwa h1 h2;have:=Fg a b c (pt w);rw[show(pt w).d=1 from rfl,Int.mul_one]at this
  refine Int.not_le.1 fun g=>hwa ?_
  have z1:ev (lin a b) (pt w)=0:=by omega
  have z2:ev (lin c a) (pt w)=0:=by omega
  have z3:ev (lin b c) (pt w)=ev (lin a b) (pt c):=by omega
  have q1:=aLY a b c ⟨1,0,0⟩ (pt w);have q2:=aLY a b c ⟨0,1,0⟩ (pt w);rw[z1,z2,z3,Int.zero_mul,Int.zero_mul,Int.add_zero,Int.add_zero]at q1 q2;have r1:=Int.eq_of_mul_eq_mul_left (by omega) q1
  have r2:=Int.eq_of_mul_eq_mul_left (by omega) q2
  simp only[ev,pt]at r1 r2;cases w;cases a;simp only[V.mk.injEq];simp only at r1 r2;omega
 obtain⟨M,hM⟩:∃h,0<=h/\h<ev (lin a b) (pt c)/\∀w∈W,w≠a->0<=ev (lin a b) (pt w)->0<=ev (lin c a) (pt w)->ev (lin b c) (pt w)<=h:=by
  by_cases hl:(W.filter fun w=>decide (w≠a/\0<=ev (lin a b) (pt w)/\0<=ev (lin c a) (pt w)))=[]
  ·refine⟨0,Int.le_refl _,hc,fun w hw h1 h2 h3=> ?_⟩
   have:w∈(W.filter fun w=>decide (w≠a/\0<=ev (lin a b) (pt w)/\0<=ev (lin c a) (pt w))):=List.mem_filter.2 ⟨hw,decide_eq_true ⟨h1,h2,h3⟩⟩
   rw[hl]at this;cases this
  ·obtain⟨w,hw,hm⟩:=Lk (fun w=>ev (lin b c) (pt w)) hl
   obtain⟨w1,w2⟩:=List.mem_filter.1 hw;have w3:=of_decide_eq_true w2;have:=top w w1 w3.1 w3.2.1 w3.2.2;refine⟨max 0 (ev (lin b c) (pt w)),by omega,by omega,fun u hu h1 h2 h3=> ?_⟩
   have:=hm u (List.mem_filter.2 ⟨hu,decide_eq_true ⟨h1,h2,h3⟩⟩);omega
 exact⟨M,hM.2.1,hab,hac,hc,hs,hM.1,hM.2.2⟩
theorem Jl(H:Calm W side ins){a b c:V}(hab:side a b)(hac:side a c)(hc:0<ev (lin a b) (pt c))(hs:∀x,side a x->x=b\/x=c):Lft ins a b↔Lft ins c a:=by
 obtain⟨h,hh,K⟩:=aAE H.net hab hac hc fun x hx ⟨h1,h2⟩=>by
  rcases hs x hx with rfl|rfl
  ·rw[bR]at h1;omega
  ·rw[bB]at h2;omega
 exact K.both H hab hac hc hh
end
end Go.Proofs.YtdaeofhdgabhjaaGreat.Geo
namespace Go.Proofs.YtdaeofhdgabhjaaGreat.Geo
structure T3 where
 a:V
 b:V
 c:V
deriving DecidableEq
def T3.sides(t:T3):List S:=[⟨t.a,t.b⟩,⟨t.b,t.c⟩,⟨t.c,t.a⟩]
def T3.rot(t:T3):T3:=⟨t.b,t.c,t.a⟩
section
variable {W:List V} {side:V->V->Prop} {ins:P3->Bool}
structure All3(W:List V)(side:V->V->Prop)(ins:P3->Bool)(TL:List T3):Prop where
 tri:∀t∈TL,Tri W side ins t.a t.b t.c
 all:∀a b c,Tri W side ins a b c->(⟨a,b,c⟩:T3)∈TL\/(⟨b,c,a⟩:T3)∈TL\/(⟨c,a,b⟩:T3)∈TL
 once:TL.Pairwise fun t u=>t≠u/\t≠u.rot/\t≠u.rot.rot
theorem oW{t:T3}{e:S}:e∈t.sides↔(e.a=t.a/\e.b=t.b)\/(e.a=t.b/\e.b=t.c)\/(e.a=t.c/\e.b=t.a):=by
 cases e;unfold T3.sides;simp only[List.mem_cons,List.not_mem_nil,or_false,S.mk.injEq]
theorem All3.perm(H:Filled W side ins){TL:List T3}(A:All3 W side ins TL){DS:List S}(hn:DS.Nodup)(hm:∀e:S,e∈DS↔side e.a e.b/\Lft ins e.a e.b):(TL.flatMap T3.sides).Perm DS:=by
 have N:=H.net;refine(List.perm_ext_iff_of_nodup ?_ hn).2 fun e=> ?_
 ·rw[List.nodup_iff_pairwise_ne,List.flatMap_def,List.pairwise_flatten];refine⟨fun l hl=> ?_,?_⟩
  ·obtain⟨t,ht,rfl⟩:=List.mem_map.1 hl;have h:=A.tri t ht;have n1:=N.ne h.ab;have n2:=N.ne h.bc;have n3:=N.ne h.ca;unfold T3.sides;simp only[List.pairwise_cons,List.mem_cons,List.not_mem_nil,or_false,forall_eq_or_imp,forall_eq,ne_eq,S.mk.injEq,not_and,false_imp_iff,implies_true,List.Pairwise.nil,and_true];refine⟨⟨fun e=>absurd e n1,fun e=>absurd e.symm n3⟩,fun e=>absurd e n2⟩
  ·rw[List.pairwise_map];refine(List.Pairwise.and_mem.1 A.once).imp ?_;rintro t u ⟨ht,hu,h1,h2,h3⟩ e he e' he' rfl;have T:=A.tri t ht;have U:=A.tri u hu;have key:∀{a b c x:V},Tri W side ins a b c->Tri W side ins a b x->c=x:=fun h h'=>Tw N h h'
   cases t;cases u;rw[oW]at he he';dsimp only at*;rcases he with⟨e1,e2⟩|⟨e1,e2⟩|⟨e1,e2⟩<;>rcases he' with⟨f1,f2⟩|⟨f1,f2⟩|⟨f1,f2⟩<;>rw[e1]at f1<;>rw[e2]at f2<;>subst f1<;>subst f2
   ·exact h1 (by rw[key T U])
   ·have:=key T U.rot;subst this;exact h2 rfl
   ·have:=key T U.rot.rot;subst this;exact h3 rfl
   ·have:=key T.rot U;subst this;exact h3 rfl
   ·have:=key T.rot U.rot;subst this;exact h1 rfl
   ·have:=key T.rot U.rot.rot;subst this;exact h2 rfl
   ·have:=key T.rot.rot U;subst this;exact h2 rfl
   ·have:=key T.rot.rot U.rot;subst this;exact h3 rfl
   ·have:=key T.rot.rot U.rot.rot;subst this;exact h1 rfl
 ·rw[hm,List.mem_flatMap];constructor
  ·rintro⟨t,ht,he⟩;have T:=A.tri t ht;rcases oW.1 he with⟨e1,e2⟩|⟨e1,e2⟩|⟨e1,e2⟩<;>rw[e1,e2]
   ·exact⟨T.ab,T.lft H⟩
   ·exact⟨T.bc,T.rot.lft H⟩
   ·exact⟨T.ca,T.rot.rot.lft H⟩
  ·rintro⟨h1,h2⟩;obtain⟨c,T⟩:=yX H h1 h2;rcases A.all _ _ _ T with g|g|g
   ·exact⟨_,g,oW.2 (.inl ⟨rfl,rfl⟩)⟩
   ·exact⟨_,g,oW.2 (.inr (.inr ⟨rfl,rfl⟩))⟩
   ·exact⟨_,g,oW.2 (.inr (.inl ⟨rfl,rfl⟩))⟩
theorem Iu(f:S->Int):∀TL:List T3,((TL.flatMap T3.sides).map f).sum=(TL.map fun t=>f ⟨t.a,t.b⟩+f ⟨t.b,t.c⟩+f ⟨t.c,t.a⟩).sum
 |[] =>rfl
 |t::TL=>by
  have:=Iu f TL;rw[List.flatMap_cons,List.map_append,List.sum_append,this,List.map_cons,List.sum_cons];unfold T3.sides;simp only[List.map_cons,List.map_nil,List.sum_cons,List.sum_nil];omega
theorem All3.sum(H:Filled W side ins){TL:List T3}(A:All3 W side ins TL){DS:List S}(hn:DS.Nodup)(hm:∀e:S,e∈DS↔side e.a e.b/\Lft ins e.a e.b)(f:S->Int):
  (TL.map fun t=>f ⟨t.a,t.b⟩+f ⟨t.b,t.c⟩+f ⟨t.c,t.a⟩).sum=(DS.map f).sum:=by
 rw[<-Iu];exact Ao ((A.perm H hn hm).map f)
open Classical in
theorem aAQ(N:Net W side)(ins:P3->Bool)(hW:W.Nodup):∃TL,All3 W side ins TL:=by
 refine⟨(W.flatMap fun a=>W.flatMap fun b=>W.map fun c=>(⟨a,b,c⟩:T3)).filter fun t=>decide (Tri W side ins t.a t.b t.c/\bX t.a t.b=true/\bX t.a t.c=true),fun t ht=> ?_,fun a b c h=> ?_,?_⟩
 ·exact(of_decide_eq_true (List.mem_filter.1 ht).2).1
 ·have wa:=N.mem h.ab;have wb:=N.mem h.bc;have wc:=N.mem h.ca;have n1:=N.ne h.ab;have n2:=N.ne h.bc;have n3:=N.ne h.ca;have inl:∀{a b c:V},a∈W->b∈W->c∈W->Tri W side ins a b c->bX a b=true->bX a c=true->(⟨a,b,c⟩:T3)∈(W.flatMap fun a=>W.flatMap fun b=>W.map fun c=>(⟨a,b,c⟩:T3)).filter fun t=>decide (Tri W side ins t.a t.b t.c/\bX t.a t.b=true/\bX t.a t.c=true):=
   fun ha hb hc h h1 h2=>List.mem_filter.2 ⟨List.mem_flatMap.2 ⟨_,ha,List.mem_flatMap.2 ⟨_,hb,List.mem_map.2 ⟨_,hc,rfl⟩⟩⟩,decide_eq_true ⟨h,h1,h2⟩⟩
  by_cases g1:bX a b=true
  ·by_cases g2:bX a c=true
   ·exact .inl (inl wa wb wc h g1 g2)
   ·have g3:=vZ (by simpa using g2) n3.symm
    exact .inr (.inr (inl wc wa wb h.rot.rot g3 (mH g3 g1)))
  ·have g3:=vZ (by simpa using g1) n1
   by_cases g2:bX b c=true
   ·exact .inr (.inl (inl wb wc wa h.rot g2 g3))
   ·have g4:=vZ (by simpa using g2) n2
    exact .inr (.inr (inl wc wa wb h.rot.rot (mH g4 g3) g4))
 ·have nd:(W.flatMap fun a=>W.flatMap fun b=>W.map fun c=>(⟨a,b,c⟩:T3)).Nodup:=by
   rw[List.nodup_iff_pairwise_ne]at hW|-;rw[List.flatMap_def,List.pairwise_flatten];refine⟨fun l hl=> ?_,?_⟩
   ·obtain⟨a,_,rfl⟩:=List.mem_map.1 hl;rw[List.flatMap_def,List.pairwise_flatten];refine⟨fun l hl=> ?_,?_⟩
    ·obtain⟨b,_,rfl⟩:=List.mem_map.1 hl;rw[List.pairwise_map];exact hW.imp fun{c c'} h e=>h (by simpa using e)
    ·rw[List.pairwise_map];refine hW.imp fun{b b'} h x hx y hy e=> ?_
     obtain⟨c,_,rfl⟩:=List.mem_map.1 hx;obtain⟨c',_,rfl⟩:=List.mem_map.1 hy;simp only[T3.mk.injEq]at e;exact h e.2.1
   ·rw[List.pairwise_map];refine hW.imp fun{a a'} h x hx y hy e=> ?_
    obtain⟨b,_,hx⟩:=List.mem_flatMap.1 hx;obtain⟨c,_,rfl⟩:=List.mem_map.1 hx;obtain⟨b',_,hy⟩:=List.mem_flatMap.1 hy;obtain⟨c',_,rfl⟩:=List.mem_map.1 hy;simp only[T3.mk.injEq]at e;exact h e.1
  refine(List.Pairwise.and_mem.1 (List.nodup_iff_pairwise_ne.1 (nd.filter _))).imp ?_;rintro t u ⟨ht,hu,hne⟩;have T:=(of_decide_eq_true (List.mem_filter.1 ht).2).2;have U:=(of_decide_eq_true (List.mem_filter.1 hu).2).2;refine⟨hne,fun e=> ?_,fun e=> ?_⟩
  ·rw[e]at T;have:=mH U.1 T.2;unfold T3.rot at this;rw[mU]at this;cases this
  ·rw[e]at T;have:=mH U.2 T.1;unfold T3.rot at this;rw[mU]at this;cases this
end
end Go.Proofs.YtdaeofhdgabhjaaGreat.Geo
namespace Go.Proofs.YtdaeofhdgabhjaaGreat.Geo
def swp(e:S):S:=⟨e.b,e.a⟩
theorem Wr(e:S):swp (swp e)=e:=rfl
section
variable {W:List V} {side:V->V->Prop} {ins:P3->Bool}
theorem aBD(H:Calm W side ins){a b:V}(hab:side a b):∃N0:Int,1<=N0/\∀n,N0<=n->(∀u v,side u v->iP (thin a b n) ⟨u,v⟩)/\∀q,In (thin a b n) q->(Lft ins a b↔ins q=true):=by
 obtain⟨N0,h1,h2⟩:=H.net.thin hab;refine⟨N0,h1,fun n hn=>⟨h2 n hn,fun q hq=>⟨fun⟨m,hm⟩=> ?_,fun hi=>Du H hab fun m=> ?_⟩⟩⟩
 ·obtain⟨p,hp⟩:=rV (H.net.ne hab) (max n m);rw[H.const (h2 n hn) hq (mC (by omega) hp)]
  exact hm (max n m) (by omega) p hp
 ·obtain⟨p,hp⟩:=rV (H.net.ne hab) (max n m);exact⟨p,mC (by omega) hp,by rw[<-hi];exact H.const (h2 n hn) (mC (by omega) hp) hq⟩
end
theorem VR.qU{r:aC}(h:VR r):(edges r).Nodup:=by
 unfold edges;rw[if_neg (by have:=h.three;omega),List.nodup_iff_pairwise_ne,List.pairwise_map]
 refine(List.Pairwise.and_mem.1 (List.nodup_iff_pairwise_ne.1 List.nodup_range)).imp ?_;rintro i k ⟨hi,hk,hne⟩ e;exact hne (h.inj (List.mem_range.1 hi) (List.mem_range.1 hk) (congrArg S.a e))
theorem VR.aEs{r:aC}(h:VR r){e:S}(he:e∈edges r):swp e∉edges r:=by
 intro hs;have h3:=h.three;obtain⟨_,i,hi,rfl⟩:=mem_edges.1 he;obtain⟨_,k,hk,e⟩:=mem_edges.1 hs;have e1:nth r ((i+1) % r.length)=nth r k:=congrArg S.a e;have e2:nth r i=nth r ((k+1) % r.length):=congrArg S.b e;have m1:=Nat.mod_lt (i+1) (show 0<r.length by omega)
 have m2:=Nat.mod_lt (k+1) (show 0<r.length by omega)
 have i1:=h.inj m1 hk e1;have i2:=h.inj hi m2 e2;by_cases g1:i+1<r.length
 ·rw[Nat.mod_eq_of_lt g1]at i1;by_cases g2:k+1<r.length
  ·rw[Nat.mod_eq_of_lt g2]at i2;omega
  ·rw[show k+1=r.length by omega,Nat.mod_self]at i2;omega
 ·rw[show i+1=r.length by omega,Nat.mod_self]at i1
  rw[Nat.mod_eq_of_lt (by omega)]at i2;omega
theorem VR.calm{r:aC}(h:VR r):Calm r (rG (edges r)) (dV r):=by
 refine⟨(Wy (fun v hv=>dD (uG h.near hv) (by omega)) (fun e he=>⟨(dX he).1,(dX he).2,h.lS he⟩) (fun e he v hv ho=>h.Is hv he ho) (fun e he d hd=>h.nocross he hd)).net,fun p q hp hq hm=> ?_⟩
 exact pQ (by have:=h.three;omega) hp hq fun e he=>hm e.a e.b (.inl he)
theorem VR.flip{r:aC}(h:VR r){a b:V}(he:(⟨a,b⟩:S)∈edges r):Lft (dV r) a b↔¬Lft (dV r) b a:=by
 have C:=h.calm;have hab:rG (edges r) a b:= .inl he;have hne:=C.net.ne hab;obtain⟨n1,_,h1⟩:=aBD C hab;obtain⟨n2,_,h2⟩:=aBD C (C.net.symm hab);obtain⟨p,q,hp,hq,hpq⟩:=Geo.flip (r:=r) (by have:=h.three;omega) h.qU hne he (N:=max n1 n2) (by omega) fun e he' hn=>by
  have hs:rG (edges r) e.a e.b:= .inl he';refine⟨?_,(h1 _ (by omega)).1 _ _ hs,(h2 _ (by omega)).1 _ _ hs⟩
  rcases C.net.off hab hs with g|⟨g1,g2⟩|⟨g1,g2⟩
  ·exact g
  ·exact absurd (by cases e;simp only at g1 g2;rw[g1,g2]) hn
  ·exfalso;refine h.aEs he ?_;have:swp ⟨a,b⟩=e:=by cases e;simp only at g1 g2;unfold swp;rw[g1,g2]
   rw[this];exact he'
 rw[(h1 _ (by omega)).2 q hq,(h2 _ (by omega)).2 p hp]
 cases hx:dV r p<;>cases hy:dV r q<;>simp_all
theorem VR.around{r:aC}(h:VR r){i:Nat}(hi:i<r.length){x:V}(hx:rG (edges r) (nth r ((i+1) % r.length)) x):x=nth r ((i+1+1) % r.length)\/x=nth r i:=by
 have h3:=h.three;have hm:=Nat.mod_lt (i+1) (show 0<r.length by omega)
 rcases hx with hx|hx
 ·obtain⟨_,k,hk,e⟩:=mem_edges.1 hx;have e1:=h.inj hm hk (congrArg S.a e);have e2:x=nth r ((k+1) % r.length):=congrArg S.b e;refine .inl ?_;rw[e2,<-e1,Nat.mod_add_mod]
 ·obtain⟨_,k,hk,e⟩:=mem_edges.1 hx;have e1:=h.inj hm (Nat.mod_lt (k+1) (show 0<r.length by omega)) (congrArg S.b e)
  have e2:x=nth r k:=congrArg S.a e;refine .inr ?_;rw[e2]
  congr 1
  by_cases g1:i+1<r.length<;>by_cases g2:k+1<r.length
  ·rw[Nat.mod_eq_of_lt g1,Nat.mod_eq_of_lt g2]at e1;omega
  ·rw[Nat.mod_eq_of_lt g1,show k+1=r.length by omega,Nat.mod_self]at e1;omega
  ·rw[Nat.mod_eq_of_lt g2,show i+1=r.length by omega,Nat.mod_self]at e1;omega
  ·omega
theorem yP{r:aC}(h:VR r){i:Nat}(hi:i<r.length):cO r i∈edges r:=mem_edges.2 ⟨by have:=h.three;omega,i,hi,rfl⟩
theorem VR.next{r:aC}(h:VR r){i:Nat}(hi:i<r.length):Lft (dV r) (cO r i).a (cO r i).b↔Lft (dV r) (cO r ((i+1) % r.length)).a (cO r ((i+1) % r.length)).b:=by
 have h3:=h.three;have C:=h.calm;have hm:=Nat.mod_lt (i+1) (show 0<r.length by omega)
 have t:=h.turn' i hi;have ei:cO r i=⟨nth r i,nth r ((i+1) % r.length)⟩:=rfl;have ek:cO r ((i+1) % r.length)=⟨nth r ((i+1) % r.length),nth r ((i+1+1) % r.length)⟩:=by
  show(⟨_,nth r (((i+1) % r.length+1) % r.length)⟩:S)=_;rw[Nat.mod_add_mod]
 have m1:=yP h hi;have m2:=yP h hm;have ar:=fun x=>h.around hi (x:=x)
 rw[ei]at m1|-;rw[ek]at m2|-;dsimp only;unfold Geo.turn at t;rw[Ne,kI,<-jW]at t;generalize nth r i=u at*;generalize nth r ((i+1) % r.length)=v at*;generalize nth r ((i+1+1) % r.length)=w at*;rcases Int.lt_or_gt_of_ne t with g|g
 ·have g':0<ev (lin v u) (pt w):=by rw[lO];omega
  have:=Jl C (.inr m1) (.inl m2) g' fun x hx=>(ar x hx).symm
  rw[h.flip m1,h.flip m2,this]
 ·have g':0<ev (lin v w) (pt u):=by rw[iR];exact g
  exact(Jl C (.inl m2) (.inr m1) g' ar).symm
theorem VR.Fp{r:aC}(h:VR r):∀i,i<r.length->(Lft (dV r) (cO r i).a (cO r i).b↔Lft (dV r) (cO r 0).a (cO r 0).b)
 |0,_=>Iff.rfl
 |i+1,hi=>by
  have:=h.next (i:=i) (by omega)
  rw[Nat.mod_eq_of_lt hi]at this;rw[<-this];exact h.Fp i (by omega)
theorem Xt{s:Shape}{D:List S}(T:Tg s D){a b:V}(hab:sides s D a b)(hi:fH s (cmb 1 (pt a) 1 (pt b))=true)
  (ho:∀e∈aQ s,∀x y k:Int,0<=x->0<=y->0<k->cmb x (pt e.a) y (pt e.b)≠cmb k (pt a) k (pt b)):Lft (fH s) a b:=by
 have H:=T.filled;have hne:=H.net.ne hab;have hL:=fM hne;refine Du H.calm hab fun n=> ?_
 obtain⟨N0,_,h2⟩:=H.net.thin hab;obtain⟨q,hq⟩:=rV hne (max n N0);refine⟨q,mC (by omega) hq,?_⟩
 rw[<-hi];refine Ex T.vs hq.1 (by simp[cmb,pt]) fun e he hm=> ?_
 obtain⟨x,y,t,k,hx,hy,hxy,ht,hk,g⟩:=hm;rcases Int.lt_or_le 0 t with ht'|ht'
 ·obtain⟨f,hf,hle⟩:=h2 (max n N0) (by omega) e.a e.b (.inl (List.mem_append_left _ he)) x y hx hy hxy
  have e1:x*ev f (pt e.a)+y*ev f (pt e.b)=t*ev f q+k*(ev f (pt a)+ev f (pt b)):=by
   rw[<-aM,g,aM,aM,Int.one_mul,Int.one_mul]
  dsimp only at hle;have p1:=Int.mul_pos ht' (hq.2 f hf);have p2:0<=ev f (pt a)+ev f (pt b):=by
   unfold thin at hf;simp only[List.mem_cons,List.not_mem_nil,or_false]at hf;rcases hf with rfl|rfl|rfl
   ·rw[bB,bR];omega
   ·rw[iW,iW,bB,bR,iS,nQ];omega
   ·rw[lP,lP,bB,bR,iS,nQ,wA];omega
  have:=mpp hk p2;omega
 ·have:t=0:=by omega
  subst this;have hd:=congrArg P3.d g;simp only[cmb,pt]at hd;refine ho e he x y k hx hy (by omega) ?_
  rw[g];unfold cmb;simp only[P3.mk.injEq];refine⟨?_,?_,?_⟩<;>grind
theorem nF{s:Shape}{D:List S}(T:Tg s D){d e:S}(hd:d∈D)(he:e∈aQ s):e≠d/\e≠swp d:=by
 have h:=T.vs;have hc:=T.chord d hd;obtain⟨d1,d2,d3⟩:=T.ends d hd;have vd:aK d=true:=by unfold aK;rw[dD (eI h d1) (by omega),dD (eI h d2) (by omega)];rfl
 have ve:=Cc h he;unfold fX at hc;rw[Bool.and_eq_true,List.all_eq_true]at hc;have ht:=hc.1 e he;have k:bZ e d e.a->bZ e d e.b->False:=fun o1 o2=>by
  have:=(nM e d).over e.a e.b (by simp) (by simp) (h.lS he) o1 o2
  unfold cJ at ht;rw[this]at ht;simp at ht
 refine⟨fun g=> ?_,fun g=> ?_⟩
 ·subst g;exact k ⟨gX ve,gX ve⟩ ⟨mZ ve,mZ ve⟩
 ·subst g;exact k ⟨gX ve,mZ vd⟩ ⟨mZ ve,gX vd⟩
theorem Qo{s:Shape}{D:List S}(T:Tg s D){a b:V}(hd:(⟨a,b⟩:S)∈D\/(⟨b,a⟩:S)∈D):∀e∈aQ s,∀x y k:Int,0<=x->0<=y->0<k->cmb x (pt e.a) y (pt e.b)≠cmb k (pt a) k (pt b):=by
 intro e he x y k hx hy hk g;have N:=T.segs.net;have hab:sides s D a b:=hd.imp (List.mem_append_right _) (List.mem_append_right _);have hs:sides s D e.a e.b:= .inl (List.mem_append_left _ he);have vt:∀{v:V} {y:Int},v∈bJ s->cmb k (pt a) k (pt b)=cmb y (pt v) 0 (pt v)->0<y->False:=fun{v y} hv g hy=>by
  rcases N.clear hab hv k k y (by omega) (by omega) g hy with rfl|rfl
  ·have:=rS (a:=v) (b:=b) (s:=k) hk (by rw[g];have:=congrArg P3.d g;simp only[cmb,pt]at this|-;simp only[P3.mk.injEq];refine⟨?_,?_,?_⟩<;>grind)
   exact N.ne hab this.symm
  ·have:=rS (a:=v) (b:=a) (s:=k) hk (by rw[gP,g];have:=congrArg P3.d g;simp only[cmb,pt]at this|-;simp only[P3.mk.injEq];refine⟨?_,?_,?_⟩<;>grind)
   exact N.ne hab this
 have hd0:=congrArg P3.d g;rw[nJ,nJ]at hd0;have ev:=xL he;rcases Int.lt_or_le 0 x with hx'|hx'
 ·rcases Int.lt_or_le 0 y with hy'|hy'
  ·rcases N.apart hs hab _ _ _ _ hx' hy' hk hk g with⟨e1,e2⟩|⟨e1,e2⟩<;>rcases hd with hd|hd
   ·exact(nF T hd he).1 (by cases e;simp only at e1 e2;rw[e1,e2])
   ·exact(nF T hd he).2 (by cases e;simp only at e1 e2;rw[e1,e2];rfl)
   ·exact(nF T hd he).2 (by cases e;simp only at e1 e2;rw[e1,e2];rfl)
   ·exact(nF T hd he).1 (by cases e;simp only at e1 e2;rw[e1,e2])
  ·have:y=0:=by omega
   subst this;exact vt ev.1 (by rw[<-g];unfold cmb;simp) hx'
 ·have:x=0:=by omega
  subst this;exact vt ev.2 (by rw[<-g];unfold cmb;simp) (show 0<y by omega)
theorem Qp{s:Shape}{D:List S}(T:Tg s D){d:S}(hd:d∈D):Lft (fH s) d.a d.b/\Lft (fH s) d.b d.a:=by
 obtain⟨d1,d2,_⟩:=T.ends d hd;have hi:=Qu T.vs d1 d2 (T.chord d hd);refine⟨Xt T (.inl (List.mem_append_right _ hd)) hi (Qo T (.inl hd)),Xt T (.inr (List.mem_append_right _ hd)) ?_ (Qo T (.inr hd))⟩;rw[gP];exact hi
end Go.Proofs.YtdaeofhdgabhjaaGreat.Geo
namespace Go.Proofs.YtdaeofhdgabhjaaGreat.Geo
def Dj(E D:List S):List S:=E++(D++D.map swp)
theorem Lq{l:List S}(h:l.Nodup):(l.map swp).Nodup:=by
 rw[List.nodup_iff_pairwise_ne]at h|-;rw[List.pairwise_map];exact h.imp fun{a b} hne e=>hne (by rw[<-Wr a,e,Wr])
theorem sJ{l:List S}{e:S}:e∈l.map swp↔swp e∈l:=by
 rw[List.mem_map];exact⟨fun⟨d,hd,e⟩=>by rw[<-e];exact hd,fun h=>⟨swp e,h,rfl⟩⟩
theorem Hc{s:Shape}{D E:List S}(T:Tg s D)(hE:E.Nodup)(hs:∀e∈E,e∈aQ s\/swp e∈aQ s):(Dj E D).Nodup:=by
 have off:∀e∈E,∀d∈D,e≠d/\e≠swp d:=fun e he d hd=>by
  rcases hs e he with g|g
  ·exact nF T hd g
  ·have:=nF T hd g;exact⟨fun h=>this.2 (by rw[h]),fun h=>this.1 (by rw[h];rfl)⟩
 have hD:D.Nodup:=List.nodup_iff_pairwise_ne.2 (T.once.imp fun{a b} h=>h.1)
 unfold Dj;rw[List.nodup_append,List.nodup_append];refine⟨hE,⟨hD,Lq hD,fun a ha b hb e=> ?_⟩,fun a ha b hb e=> ?_⟩
 ·subst e;rw[sJ]at hb;rcases zB (R:=fun d e:S=>d≠swp e) (fun a b h e=>h (by rw[e];rfl)) (T.once.imp fun{a b} h=>h.2) _ ha _ hb with g|g
  ·exact(T.ends a ha).2.2 (congrArg S.a g)
  ·exact g rfl
 ·subst e;rcases List.mem_append.1 hb with hb|hb
  ·exact(off a ha a hb).1 rfl
  ·rw[sJ]at hb;exact(off a ha _ hb).2 rfl
theorem Fb{s:Shape}{D E:List S}(T:Tg s D)(hm:∀e:S,e∈E↔rG (aQ s) e.a e.b/\Lft (fH s) e.a e.b)(e:S):e∈Dj E D↔sides s D e.a e.b/\Lft (fH s) e.a e.b:=by
 unfold Dj;rw[List.mem_append,List.mem_append,sJ,hm];constructor
 ·rintro(⟨h1,h2⟩|h|h)
  ·exact⟨h1.imp (List.mem_append_left _) (List.mem_append_left _),h2⟩
  ·exact⟨.inl (List.mem_append_right _ h),(Qp T h).1⟩
  ·exact⟨.inr (List.mem_append_right _ h),(Qp T h).2⟩
 ·rintro⟨h1,h2⟩;rcases h1 with h|h<;>rcases List.mem_append.1 h with h|h
  ·exact .inl ⟨.inl h,h2⟩
  ·exact .inr (.inl h)
  ·exact .inl ⟨.inr h,h2⟩
  ·exact .inr (.inr h)
theorem aB8(f:S->Int)(E D:List S):((Dj E D).map f).sum=(E.map f).sum+(D.map fun d=>f d+f (swp d)).sum:=by
 unfold Dj;rw[List.map_append,List.map_append,List.sum_append,List.sum_append,List.map_map,yG];rfl
theorem Eh{α:Type}{f:α->Int}:∀{l:List α},(∀x∈l,f x=0)->(l.map f).sum=0
 |[],_=>rfl
 |x::l,h=>by rw[List.map_cons,List.sum_cons,h x List.mem_cons_self,Eh fun y hy=>h y (List.mem_cons_of_mem _ hy)];rfl
theorem Fv{α:Type}{f:α->Int}:∀{l:List α},(∀x∈l,0<=f x)->0<=(l.map f).sum
 |[],_=>Int.le_refl _
 |x::l,h=>by
  have:=h x List.mem_cons_self;have:=Fv fun y hy=>h y (List.mem_cons_of_mem _ hy)
  rw[List.map_cons,List.sum_cons];omega
theorem aAC(a b c:V):cross a b+cross b c+cross c a=ev (lin a b) (pt c):=by unfold cross ev lin pt;grind
theorem VR.alone{r:aC}(h:VR r):VS ⟨r,[]⟩:=by
 refine⟨Nat.zero_le _,h,fun i hi=>absurd hi (Nat.not_lt_zero i),?_,fun i hi=>absurd hi (Nat.not_lt_zero i),fun i hi=>absurd hi (Nat.not_lt_zero i),fun i k _ hi=>absurd hi (Nat.not_lt_zero i),fun i k _ hi=>absurd hi (Nat.not_lt_zero i),fun i k _ hi=>absurd hi (Nat.not_lt_zero i)⟩
 have:=h.most;unfold dL aG;simp only[List.map_cons,List.map_nil,List.sum_cons,List.sum_nil];omega
theorem VR.left{r:aC}(h:VR r){e:S}(he:e∈edges r):Lft (dV r) e.a e.b:=by
 have h3:=h.three;obtain⟨_,i,hi,rfl⟩:=mem_edges.1 he;rw[h.Fp i hi];refine Classical.byContradiction fun hn=> ?_
 have hv:=h.alone;have hvs:bJ ⟨r,[]⟩=r:=by unfold bJ aG;simp
 have hes:aQ ⟨r,[]⟩=edges r:=by unfold aQ aG;simp
 have T:=aFT hv (v:=r) (fun x=>by rw[hvs]) h.nodup
 have H:=T.filled;have hi':fH ⟨r,[]⟩=dV r:=by funext p;unfold fH;simp
 obtain⟨TL,A⟩:=aAQ H.net (fH ⟨r,[]⟩) hv.nodup;have no:∀e∈edges r,¬Lft (dV r) e.a e.b:=fun e he=>by
  obtain⟨_,i,hi,rfl⟩:=mem_edges.1 he;rw[h.Fp i hi];exact hn
 have hm:∀e:S,e∈(edges r).map swp↔rG (aQ ⟨r,[]⟩) e.a e.b/\Lft (fH ⟨r,[]⟩) e.a e.b:=fun e=>by
  rw[sJ,hi',hes];constructor
  ·intro g;refine⟨.inr g,Classical.byContradiction fun hx=>no _ g ?_⟩
   exact(h.flip (a:=e.b) (b:=e.a) g).2 hx
  ·rintro⟨g|g,g2⟩
   ·exact absurd g2 (no e g)
   ·exact g
 have nd:=Hc T (Lq h.qU) fun e he=> .inr (by rw[hes];exact sJ.1 he)
 have S1:=A.sum H nd (Fb T hm) (fun e=>cross e.a e.b)
 rw[aB8,Eh (f:=fun d:S=>cross d.a d.b+cross (swp d).a (swp d).b) fun d _=>by unfold cross swp;grind,List.map_map]at S1
 have e1:((edges r).map ((fun e:S=>cross e.a e.b)∘swp)).sum= -Geo.area r:=by
  rw[pY (by omega)]
  have:((edges r).map fun e=>cross e.a e.b+((fun e:S=>cross e.a e.b)∘swp) e).sum=0:=Eh fun d _=>by simp only[Function.comp,cross,swp];grind
  rw[yG]at this;omega
 have S2:0<=(TL.map fun t=>cross t.a t.b+cross t.b t.c+cross t.c t.a).sum:=Fv fun t ht=>by
  rw[aAC];have:=(A.tri t ht).left;omega
 have:=h.area;dsimp only at S1;omega
theorem VR.right{r:aC}(h:VR r){e:S}(he:e∈edges r):¬Lft (dV r) e.b e.a:=(h.flip he).1 (h.left he)
end Go.Proofs.YtdaeofhdgabhjaaGreat.Geo
namespace Go.Proofs.YtdaeofhdgabhjaaGreat.Geo
theorem Oh{r:aC}(hr:VR r){v:V}(hw:aJ v 2000=true)(h:bL r v≠1):bL r v=if dV r (pt v)then 2 else 0:=by
 have h4:=dD hw (show(2000:Int)<=4000 by omega)
 have hp:cF (iD v)=true:=by rw[lJ];exact h4
 unfold bL at h|-;rw[h4]at h|-;simp only[Bool.not_true,Bool.false_eq_true,if_false]at h|-;rw[mA hr hp fun e he=> ?_]
 ·rfl
 refine Bool.eq_false_iff.2 fun ho=>h ?_
 unfold aP;rw[(cL _).2 hr,hp];exact sI ⟨e,he,ho⟩
theorem aBH{r:aC}(hr:VR r){v:V}(hw:aJ v 2000=true)(h:bL r v=2):dV r (pt v)=true:=by
 have:=Oh hr hw (by omega)
 rw[h]at this;cases hp:dV r (pt v)with
 |true=>rfl
 |false=>rw[hp]at this;simp at this
theorem aEE{r:aC}(hr:VR r){v:V}(hw:aJ v 2000=true)(h:bL r v=0):dV r (pt v)=false:=by
 have:=Oh hr hw (by omega)
 rw[h]at this;cases hp:dV r (pt v)with
 |false=>rfl
 |true=>rw[hp]at this;simp at this
section
variable {s:Shape} {D:List S}
theorem oV{r:aC}(hr:r∈aG s){v:V}(hv:v∈r):v∈bJ s:=List.mem_flatten.2 ⟨r,hr,hv⟩
theorem lF{r:aC}(hr:r∈aG s){e:S}(he:e∈edges r):sides s D e.a e.b:= .inl (List.mem_append_left _ (List.mem_flatMap.2 ⟨r,hr,he⟩))
theorem nG(T:Tg s D){r q:aC}(hr:r∈aG s)(hq:q∈aG s)(hrq:r≠q){v:V}(hv:v∈r){e:S}(he:e∈edges q):v≠e.a/\v≠e.b:=by
 obtain⟨h1,h2⟩:=dX he;have:=mX (aG s) T.vs.nodup r hr q hq;exact⟨fun g=>hrq (this v hv (by rw[g];exact h1)),fun g=>hrq (this v hv (by rw[g];exact h2))⟩
theorem Aq(T:Tg s D){r q:aC}(hr:r∈aG s)(hq:q∈aG s)(hrq:r≠q){a b:V}(ha:a∈r)(hab:sides s D a b):∃N0:Int,∀n,N0<=n->∀p,In (thin a b n) p->dV q p=dV q (pt a):=by
 have N:=T.segs.net;obtain⟨N0,_,h2⟩:=N.thin hab;refine⟨N0,fun n hn p hp=>(pQ (by have:=(T.vs.ring hq).three;omega) (show(0:Int)<1 by omega) hp.1 fun e he hm=> ?_).symm⟩
 obtain⟨x,y,k,t,hx,hy,hxy,hk,ht,g⟩:=hm;have hs:sides s D e.a e.b:=lF hq he;rcases Int.lt_or_le 0 t with ht'|ht'
 ·obtain⟨f,hf,hle⟩:=h2 n hn e.a e.b hs x y hx hy hxy;dsimp only at hle;have e1:x*ev f (pt e.a)+y*ev f (pt e.b)=k*ev f (pt a)+t*ev f p:=by rw[<-aM,g,aM]
  have p1:=Int.mul_pos ht' (hp.2 f hf);have p2:0<=ev f (pt a):=by
   have hL:=fM (N.ne hab);unfold thin at hf;simp only[List.mem_cons,List.not_mem_nil,or_false]at hf;rcases hf with rfl|rfl|rfl
   ·rw[bB];omega
   ·rw[iW,bB,iS];omega
   ·rw[lP,bB,nQ,wA];omega
  have:=mpp hk p2;omega
 ·have:t=0:=by omega
  subst this;have hd:=congrArg P3.d g;simp only[cmb,pt]at hd;have hov:=nG T hr hq hrq ha he;rcases N.clear hs (oV hr ha) x y k hx hy (by rw[g];unfold cmb;simp) (by omega)with e1|e1
  ·exact hov.1 e1
  ·exact hov.2 e1
theorem Vt(T:Tg s D){r q:aC}(hr:r∈aG s)(hq:q∈aG s)(hrq:r≠q){e:S}(he:e∈edges r):dV q (pt e.a)=dV q (pt e.b):=by
 have N:=T.segs.net;refine pQ (by have:=(T.vs.ring hq).three;omega) (show(0:Int)<1 by omega) (show(0:Int)<1 by omega) fun d hd hm=> ?_
 obtain⟨h1,h2⟩:=dX he;have o1:=nG T hr hq hrq h1 hd;have o2:=nG T hr hq hrq h2 hd;rcases N.off (lF hr he) (lF hq hd)with⟨_,g⟩|⟨g,_⟩|⟨g,_⟩
 ·rcases g with g|⟨g,_⟩|⟨g,_⟩|⟨g,_⟩|⟨g,_⟩
  ·exact g hm
  ·exact o1.1 g.symm
  ·exact o1.2 g.symm
  ·exact o2.1 g.symm
  ·exact o2.2 g.symm
 ·exact o1.1 g.symm
 ·exact o2.1 g.symm
theorem Qy(T:Tg s D){r q:aC}(hr:r∈aG s)(hq:q∈aG s)(hrq:r≠q):∀i,i<r.length->dV q (pt (nth r i))=dV q (pt (nth r 0))
 |0,_=>rfl
 |i+1,hi=>by
  have:=Vt T hr hq hrq (e:=cO r i) (yP (T.vs.ring hr) (by omega))
  rw[show(cO r i).b=nth r (i+1) by show nth r ((i+1) % r.length)=_;rw[Nat.mod_eq_of_lt hi],show(cO r i).a=nth r i from rfl]at this
  rw[<-this];exact Qy T hr hq hrq i (by omega)
theorem Mb(T:Tg s D){r:aC}(hr:r∈s.holes){v:V}(hv:v∈r):bL s.outer v=2:=by
 obtain⟨i,hi,rfl⟩:=mQ hr;have:=T.vs.ins i hi;unfold cR at this;rw[List.all_eq_true]at this;simpa using this v hv
theorem yM(T:Tg s D){r:aC}(hr:r∈s.holes):r≠s.outer:=by
 intro e;have h:=T.vs;have hv:nth r 0∈r:=fU.2 ⟨0,by have:=(h.ring (List.mem_cons_of_mem _ hr)).three;omega,rfl⟩
 obtain⟨i,hi,rfl⟩:=mQ hr;have ap:=h.apo i hi;rw[e]at ap hv;exact kQ h.outer ap hv (yP h.outer (i:=0) (by have:=h.outer.three;omega)) (by rw[<-e];exact gX (dQ (h.hole i hi).near 0 (by have:=(h.hole i hi).three;omega)))
theorem Ji(T:Tg s D){q:aC}(hq:q∈s.holes){v:V}(hv:v∈s.outer):dV q (pt v)=false:=by
 have h:=T.vs;have N:=T.segs.net;have hq':q∈aG s:=List.mem_cons_of_mem _ hq;have ho':s.outer∈aG s:=List.mem_cons_self;have hne:=(yM T hq).symm;have h3:=h.outer.three;have all:=Qy T ho' hq' hne;have li:=iI (r:=s.outer) (by omega)
 have low:dV q (pt (nth s.outer (cH s.outer)))=false:=by
  have hv0:nth s.outer (cH s.outer)∈s.outer:=gT li;have least:∀a∈s.outer,(nth s.outer (cH s.outer)).y<=a.y:=fun a ha=>by
   obtain⟨i,hi,rfl⟩:=fU.1 ha;have:=nH s.outer s.outer.length i hi;unfold leV at this;unfold cH;omega
  have below:∀u∈q,(nth s.outer (cH s.outer)).y<=u.y:=fun u hu=>by
   obtain⟨_,_,⟨a,ha,hay⟩,_⟩:=Ut (by omega) (Mb T hq hu)
   have:=least a ha;omega
  have fr:=En h.outer _ hv0;generalize nth s.outer (cH s.outer)=v0 at*;rw[pQ (q:=⟨v0.x,v0.y-5000,1⟩) (by have:=(h.ring hq').three;omega) (show(0:Int)<1 by omega) (show(0:Int)<1 by omega) fun e he hm=> ?_]
  ·exact Xg (by have:=(h.ring hq').three;omega) (En (h.ring hq')) (show(0:Int)<1 by omega) (.inr (.inr (.inr (by show v0.y-5000< -(2000*1);omega))))
  ·obtain⟨x,y,k,t,hx,hy,hxy,hk,ht,g⟩:=hm;obtain⟨e1,e2⟩:=dX he;have b1:=Int.mul_le_mul_of_nonneg_left (below _ e1) hx;have b2:=Int.mul_le_mul_of_nonneg_left (below _ e2) hy;have hov:=nG T ho' hq' hne hv0 he;have gy:=congrArg P3.y g;have gd:=congrArg P3.d g;simp only[cmb,pt]at gy gd;have t0:t=0:=by
    have m1:x*v0.y+y*v0.y=k*v0.y+t*v0.y:=by rw[<-Int.add_mul,<-Int.add_mul];congr 1;omega
    have m2:t*(v0.y-5000)=t*v0.y-t*5000:=Int.mul_sub _ _ _;omega
   subst t0;rcases N.clear (lF hq' he) (oV ho' hv0) x y k hx hy (by rw[g];unfold cmb;simp) (by omega)with e1|e1
   ·exact hov.1 e1
   ·exact hov.2 e1
 obtain⟨i,hi,rfl⟩:=fU.1 hv;rw[all i hi,<-all _ li,low]
theorem Qe(T:Tg s D){r q:aC}(hr:r∈s.holes)(hq:q∈s.holes)(hrq:r≠q){v:V}(hv:v∈r):dV q (pt v)=false:=by
 have h:=T.vs;have hw:aJ v 2000=true:=eI h (oV (List.mem_cons_of_mem _ hr) hv);refine aEE (h.ring (List.mem_cons_of_mem _ hq)) hw ?_;obtain⟨i,hi,rfl⟩:=mQ hr;obtain⟨k,hk,rfl⟩:=mQ hq;have key:cR (aD s.holes i) (aD s.holes k) 0=true:=by
  rcases Nat.lt_trichotomy i k with g|g|g
  ·exact h.out2 k i g hk
  ·exact absurd (by rw[g]) hrq
  ·exact h.out1 i k g hi
 unfold cR at key;rw[List.all_eq_true]at key;simpa using key v hv
theorem Ts{α:Type}{P:α->Int->Prop}:∀{l:List α},(∀x∈l,∃N0:Int,∀n,N0<=n->P x n)->∃N0:Int,∀n,N0<=n->∀x∈l,P x n
 |[],_=>⟨0,fun _ _ _ hx=>by cases hx⟩
 |x::l,h=>by
  obtain⟨n1,h1⟩:=h x List.mem_cons_self;obtain⟨n2,h2⟩:=Ts fun y hy=>h y (List.mem_cons_of_mem _ hy)
  refine⟨max n1 n2,fun n hn y hy=> ?_⟩
  rcases List.mem_cons.1 hy with rfl|hy
  ·exact h1 n (by omega)
  ·exact h2 n (by omega) y hy
theorem Gj(T:Tg s D){a b:V}(ha:a∈s.outer)(hab:sides s D a b):∃N0:Int,∀n,N0<=n->∀p,In (thin a b n) p->fH s p=dV s.outer p:=by
 obtain⟨N0,h0⟩:=Ts (l:=s.holes) (P:=fun q n=>∀p,In (thin a b n) p->dV q p=dV q (pt a)) fun q hq=>Aq T List.mem_cons_self (List.mem_cons_of_mem _ hq) (yM T hq).symm ha hab
 refine⟨N0,fun n hn p hp=> ?_⟩
 unfold fH;have:(s.holes.all fun h=> !(dV h p))=true:=by
  rw[List.all_eq_true];intro q hq;rw[h0 n hn q hq p hp,Ji T hq ha];rfl
 rw[this,Bool.and_true]
theorem Jz(T:Tg s D){r:aC}(hr:r∈s.holes){a b:V}(ha:a∈r)(hab:sides s D a b):∃N0:Int,∀n,N0<=n->∀p,In (thin a b n) p->fH s p= !(dV r p):=by
 have hr':r∈aG s:=List.mem_cons_of_mem _ hr;obtain⟨N1,h1⟩:=Aq T hr' List.mem_cons_self (yM T hr) ha hab;obtain⟨N0,h0⟩:=Ts (l:=s.holes) (P:=fun q n=>r≠q->∀p,In (thin a b n) p->dV q p=dV q (pt a)) fun q hq=>by
  by_cases g:r=q
  ·exact⟨0,fun n _ hn=>absurd g hn⟩
  ·obtain⟨m,hm⟩:=Aq T hr' (List.mem_cons_of_mem _ hq) g ha hab;exact⟨m,fun n hn _=>hm n hn⟩
 refine⟨max N0 N1,fun n hn p hp=> ?_⟩
 unfold fH;rw[h1 n (by omega) p hp,aBH T.vs.outer (eI T.vs (oV hr' ha)) (Mb T hr ha),Bool.true_and,Bool.eq_iff_iff,List.all_eq_true]
 refine⟨fun g=>g r hr,fun g q hq=> ?_⟩
 by_cases e:r=q
 ·rw[<-e];exact g
 ·rw[h0 n (by omega) q hq e p hp,Qe T hr hq e ha];rfl
theorem vY{ins ins':P3->Bool}{a b:V}(h:∃N0:Int,∀n,N0<=n->∀p,In (thin a b n) p->ins p=ins' p):Lft ins a b↔Lft ins' a b:=by
 obtain⟨N0,h⟩:=h;constructor<;>rintro⟨m,g⟩
 ·exact⟨max N0 m,fun n hn p hp=>by rw[<-h n (by omega) p hp];exact g n (by omega) p hp⟩
 ·exact⟨max N0 m,fun n hn p hp=>by rw[h n (by omega) p hp];exact g n (by omega) p hp⟩
theorem Xo{W:List V}{side:V->V->Prop}{ins:P3->Bool}(H:Calm W side ins){a b:V}(hab:side a b):Lft (fun p=> !ins p) a b↔¬Lft ins a b:=by
 constructor
 ·intro h g;exact g.not (H.net.ne hab) h
 ·intro h;rcases aH7 H hab with g|g
  ·exact absurd g h
  ·exact g
theorem xE(T:Tg s D){e:S}(he:e∈edges s.outer):Lft (fH s) e.a e.b/\¬Lft (fH s) e.b e.a:=by
 obtain⟨h1,h2⟩:=dX he;have hs:sides s D e.a e.b:=lF List.mem_cons_self he;rw[vY (Gj T h1 hs),vY (Gj T h2 hs.symm)];exact⟨T.vs.outer.left he,T.vs.outer.right he⟩
theorem Av(T:Tg s D){r:aC}(hr:r∈s.holes){e:S}(he:e∈edges r):Lft (fH s) e.b e.a/\¬Lft (fH s) e.a e.b:=by
 obtain⟨h1,h2⟩:=dX he;have hs:sides s D e.a e.b:=lF (List.mem_cons_of_mem _ hr) he;have hv:=T.vs.ring (List.mem_cons_of_mem _ hr);have C:=hv.calm;rw[vY (Jz T hr h2 hs.symm),vY (Jz T hr h1 hs),Xo C (.inl he),Xo C (.inr he)];exact⟨hv.right he,fun g=>g (hv.left he)⟩
def Ks(s:Shape):List S:=edges s.outer++(s.holes.flatMap edges).map swp
theorem wB(s:Shape):aQ s=edges s.outer++s.holes.flatMap edges:=by unfold aQ aG;rw[List.flatMap_cons]
theorem Fc(T:Tg s D)(e:S):e∈Ks s↔rG (aQ s) e.a e.b/\Lft (fH s) e.a e.b:=by
 unfold Ks rG;rw[List.mem_append,sJ,wB,List.mem_append,List.mem_append,List.mem_flatMap,List.mem_flatMap,List.mem_flatMap];constructor
 ·rintro(h|⟨r,hr,h⟩)
  ·exact⟨.inl (.inl h),(xE T h).1⟩
  ·exact⟨.inr (.inr ⟨r,hr,h⟩),(Av T hr h).1⟩
 ·rintro⟨(h|⟨r,hr,h⟩)|(h|⟨r,hr,h⟩),g⟩
  ·exact .inl h
  ·exact absurd g (Av T hr h).2
  ·exact absurd g (xE T h).2
  ·exact .inr ⟨r,hr,h⟩
theorem VS.qU(h:VS s):(aQ s).Nodup:=by
 have hn:=h.nodup;have e:(aQ s).map S.a=bJ s:=by
  unfold aQ bJ;have key:∀l:List aC,(∀r∈l,VR r)->(l.flatMap edges).map S.a=l.flatten:=by
   intro l;induction l with
   |nil=>intro _;rfl
   |cons r l ih=>
    intro hl;rw[List.flatMap_cons,List.map_append,List.flatten_cons,ih fun q hq=>hl q (List.mem_cons_of_mem _ hq),El (by have:=(hl r List.mem_cons_self).three;omega)]
  exact key _ fun r hr=>h.ring hr
 rw[List.nodup_iff_pairwise_ne,<-e,List.pairwise_map]at hn;exact List.nodup_iff_pairwise_ne.2 (hn.imp fun{a b} h g=>h (by rw[g]))
theorem Vi(T:Tg s D):(Ks s).Nodup:=by
 have hn:=T.vs.qU;rw[wB,List.nodup_append]at hn;unfold Ks;rw[List.nodup_append];refine⟨hn.1,Lq hn.2.1,fun a ha b hb e=> ?_⟩
 subst e;rw[sJ,List.mem_flatMap]at hb;obtain⟨r,hr,hb⟩:=hb;have e1:=(dX ha).1;have e2:=(dX hb).2;exact yM T hr (mX (aG s) T.vs.nodup r (List.mem_cons_of_mem _ hr) s.outer List.mem_cons_self _ e2 e1)
end
end Go.Proofs.YtdaeofhdgabhjaaGreat.Geo
namespace Go.Proofs.YtdaeofhdgabhjaaGreat.Geo
def Up(x:V):Prop:=0<x.y\/(x.y=0/\0<x.x)
def Dn(x:V):Prop:=x.y<0\/(x.y=0/\x.x<0)
instance(x:V):Decidable (Up x):=by unfold Up;infer_instance
instance(x:V):Decidable (Dn x):=by unfold Dn;infer_instance
def neg(x:V):V:=⟨-x.x,-x.y⟩
theorem Dr(x:V):Up (neg x)↔Dn x:=by unfold Up Dn neg;dsimp only;omega
theorem uF(x:V):Dn (neg x)↔Up x:=by unfold Up Dn neg;dsimp only;omega
theorem Up.not{x:V}(h:Up x):¬Dn x:=by unfold Up Dn at*;omega
theorem aFR(x:V):Up x\/Dn x\/x=⟨0,0⟩:=by
 unfold Up Dn;rcases Int.lt_trichotomy x.y 0 with h|h|h
 ·exact .inr (.inl (.inl h))
 ·rcases Int.lt_trichotomy x.x 0 with g|g|g
  ·exact .inr (.inl (.inr ⟨h,g⟩))
  ·exact .inr (.inr (by cases x;simp only at h g;rw[h,g]))
  ·exact .inl (.inr ⟨h,g⟩)
 ·exact .inl (.inl h)
theorem Cz{y z:V}{α β:Int}(hy:Dn y)(hz:Dn z)(ha:0<=α)(hb:0<β):Dn ⟨α*y.x+β*z.x,α*y.y+β*z.y⟩:=by
 unfold Dn at*;dsimp only;have py:y.y<=0:=by omega
 have pz:z.y<=0:=by omega
 have m1:α*y.y<=0:=Int.mul_nonpos_of_nonneg_of_nonpos ha py;have m2:β*z.y<=0:=Int.mul_nonpos_of_nonneg_of_nonpos (by omega) pz
 by_cases g:α*y.y+β*z.y<0
 ·exact .inl g
 ·have e1:α*y.y=0:=by omega
  have e2:β*z.y=0:=by omega
  have z0:z.y=0:=by rcases Int.mul_eq_zero.1 e2 with h|h<;>omega
  have m3:β*z.x<0:=Int.mul_neg_of_pos_of_neg hb (by omega)
  have m4:α*y.x<=0:=by
   rcases Int.mul_eq_zero.1 e1 with h|h
   ·rw[h,Int.zero_mul];omega
   ·exact Int.mul_nonpos_of_nonneg_of_nonpos ha (by omega)
  exact .inr ⟨by omega,by omega⟩
theorem aBP{x:V}{k:Int}(hk:0<k)(h:Dn ⟨k*x.x,k*x.y⟩):Dn x:=by
 unfold Dn at*;dsimp only at h;rcases h with h|⟨h1,h2⟩
 ·refine .inl (Int.not_le.1 fun g=> ?_)
  have:=Int.mul_nonneg (show 0<=k by omega) g;omega
 ·refine .inr ⟨by rcases Int.mul_eq_zero.1 h1 with h|h<;>omega,Int.not_le.1 fun g=> ?_⟩
  have:=Int.mul_nonneg (show 0<=k by omega) g;omega
def lf(p q:Int)(x:V):Int:=p*x.x+q*x.y
theorem Lt{x y z:V}{p q:Int}(hx:0<lf p q x)(hy:0<lf p q y)(hz:0<lf p q z)(ux:Up x)(dy:Dn y)(dz:Dn z)(h:0<cross x y):0<cross x z:=by
 refine Int.not_le.1 fun g=> ?_
 have e:cross z y*lf p q x= -(cross x z)*lf p q y+cross x y*lf p q z:=by unfold cross lf;grind
 have p1:=Int.mul_nonneg (show 0<= -(cross x z) by omega) (show 0<=lf p q y by omega)
 have p2:=Int.mul_pos h hz;have k:0<cross z y:=Int.not_le.1 fun g'=>by
  have:=Int.mul_nonpos_of_nonpos_of_nonneg g' (show 0<=lf p q x by omega);omega
 refine ux.not (aBP k ?_);have ex:cross z y*x.x= -(cross x z)*y.x+cross x y*z.x:=by unfold cross;grind
 have ey:cross z y*x.y= -(cross x z)*y.y+cross x y*z.y:=by unfold cross;grind
 rw[ex,ey];exact Cz dy dz (by omega) h
theorem Ke(x y:V):cross (neg x) (neg y)=cross x y:=by unfold cross neg;grind
theorem Tl(p q:Int)(x:V):lf (-p) (-q) (neg x)=lf p q x:=by unfold lf neg;grind
theorem Wu{x y z:V}{p q:Int}(hx:0<lf p q x)(hy:0<lf p q y)(hz:0<lf p q z)(ux:Dn x)(dy:Up y)(dz:Up z)(h:0<cross x y):0<cross x z:=by
 rw[<-Ke]at h|-;exact Lt (p:= -p) (q:= -q) (by rw[Tl];exact hx) (by rw[Tl];exact hy) (by rw[Tl];exact hz) ((Dr x).2 ux) ((uF y).2 dy) ((uF z).2 dz) h
theorem pX(x y:V):cross y x= -cross x y:=by unfold cross;grind
theorem zG{x y:V}{p q:Int}(hx:0<lf p q x)(hy:0<lf p q y)(ux:Up x)(dy:Dn y):cross x y≠0:=fun h=>by
 have e1:lf p q y*x.x=lf p q x*y.x:=by unfold cross lf at*;grind
 have e2:lf p q y*x.y=lf p q x*y.y:=by unfold cross lf at*;grind
 refine ux.not (aBP hy ?_);rw[e1,e2];have:=Cz dy dy (Int.le_refl 0) hx;rw[Int.zero_mul,Int.zero_add,Int.zero_mul,Int.zero_add]at this;exact this
def cr(x y:V):Int:=if Up x↔Up y then 0 else sgn (cross x y)
theorem vL{x y:V}(h:Up x↔Up y):cr x y=0:=if_pos h
theorem sK{x y:V}(h:¬(Up x↔Up y)):cr x y=sgn (cross x y):=if_neg h
theorem Ei(n:Int):sgn (-n)= -sgn n:=by unfold sgn;grind
theorem aBw{m n:Int}(hm:m≠0)(hn:n≠0)(h:0<m↔0<n):sgn m=sgn n:=by unfold sgn;grind
theorem Mm{x y z:V}{p q:Int}(hx:0<lf p q x)(hy:0<lf p q y)(hz:0<lf p q z):cr x y+cr y z=cr x z:=by
 have k:∀{x:V},0<lf p q x->¬Up x->Dn x:=fun{x} h g=>by
  rcases aFR x with e|e|e
  ·exact absurd e g
  ·exact e
  ·rw[e]at h;unfold lf at h;simp at h
 have pair:∀{x y z:V},0<lf p q x->0<lf p q y->0<lf p q z->¬(Up x↔Up y)->(Up y↔Up z)->sgn (cross x y)=sgn (cross x z):=by
  intro x y z hx hy hz h1 h2;by_cases ux:Up x
  ·have dy:Dn y:=k hy fun g=>h1 ⟨fun _=>g,fun _=>ux⟩
   have dz:Dn z:=k hz fun g=>(h2.2 g).not dy
   exact aBw (zG hx hy ux dy) (zG hx hz ux dz) ⟨Lt hx hy hz ux dy dz,Lt hx hz hy ux dz dy⟩
  ·have dx:=k hx ux;have uy:Up y:=Classical.byContradiction fun g=>h1 ⟨fun h=>absurd h ux,fun h=>absurd h g⟩
   have uz:=h2.1 uy;refine aBw (fun g=>zG hy hx uy dx (by rw[pX];omega)) (fun g=>zG hz hx uz dx (by rw[pX];omega)) ⟨Wu hx hy hz dx uy uz,Wu hx hz hy dx uz uy⟩
 by_cases h1:Up x↔Up y
 ·rw[vL h1,Int.zero_add];by_cases h2:Up y↔Up z
  ·rw[vL h2,vL (h1.trans h2)]
  ·rw[sK h2,sK (fun g=>h2 (h1.symm.trans g)),pX z y,pX z x,Ei,Ei,pair hz hy hx (fun g=>h2 g.symm) h1.symm]
 ·by_cases h2:Up y↔Up z
  ·rw[vL h2,Int.add_zero,sK h1,sK (fun g=>h1 (g.trans h2.symm)),pair hx hy hz h1 h2]
  ·have h3:Up x↔Up z:=by
    by_cases a:Up x<;>by_cases b:Up y<;>by_cases c:Up z<;>simp_all
   rw[vL h3,sK h1,sK h2,pX y x,Ei,pair hy hx hz (fun g=>h1 g.symm) h3]
   omega
theorem Sb{p q:V}(h:cross p q≠0):cr p q=cr p ⟨p.x+q.x,p.y+q.y⟩+cr ⟨p.x+q.x,p.y+q.y⟩ q:=by
 have e1:lf (sgn (cross p q)*(q.y-p.y)) (sgn (cross p q)*(p.x-q.x)) p=sgn (cross p q)*cross p q:=by unfold lf cross;grind
 have e2:lf (sgn (cross p q)*(q.y-p.y)) (sgn (cross p q)*(p.x-q.x)) q=sgn (cross p q)*cross p q:=by unfold lf cross;grind
 have e3:lf (sgn (cross p q)*(q.y-p.y)) (sgn (cross p q)*(p.x-q.x)) ⟨p.x+q.x,p.y+q.y⟩=2*(sgn (cross p q)*cross p q):=by unfold lf cross;grind
 have k:0<sgn (cross p q)*cross p q:=by
  rcases Int.lt_or_gt_of_ne h with g|g
  ·rw[show sgn (cross p q)= -1 by unfold sgn;rw[if_neg (by omega),if_pos g]];omega
  ·rw[show sgn (cross p q)=1 by unfold sgn;rw[if_pos g]];omega
 exact(Mm (by rw[e1];exact k) (by rw[e3];omega) (by rw[e2];exact k)).symm
def wQ(f:Nat->Int):Nat->Int
 |0=>0
 |k+1=>wQ f k+f k
structure Curve(v:Nat->V)(m:Nat):Prop where
 close:v (m+3)=v 0
 least:∀i,0<i->i<m+3->Up (sub (v i) (v 0))
 turn:∀i,i+1<m+3->cross (sub (v (i+1)) (v i)) (sub (v (i+2)) (v (i+1)))≠0
 turn0:cross (sub (v (m+3)) (v (m+2))) (sub (v 1) (v 0))≠0
 apart:∀i j,i+1<j->j<m+3->¬(i=0/\j=m+2)->∃f:P3,ev f (pt (v i))<0/\ev f (pt (v (i+1)))<0/\0<ev f (pt (v j))/\0<ev f (pt (v (j+1)))
section
variable {v:Nat->V} {m:Nat}
theorem Ab(f:P3)(a b:V):lf f.x f.y (sub a b)=ev f (pt a)-ev f (pt b):=by unfold lf sub ev pt;grind
theorem sub_neg(a b:V):neg (sub a b)=sub b a:=by unfold neg sub;simp only[V.mk.injEq];omega
theorem Curve.cell(C:Curve v m){i j:Nat}(h1:i+1<j)(h2:j<m+3)(h3:¬(i=0/\j=m+2)):
  cr (sub (v j) (v i)) (sub (v (j+1)) (v i))+cr (sub (v (j+1)) (v i)) (sub (v (j+1)) (v (i+1)))=cr (sub (v j) (v i)) (sub (v j) (v (i+1)))+cr (sub (v j) (v (i+1))) (sub (v (j+1)) (v (i+1))):=by
 obtain⟨f,f1,f2,f3,f4⟩:=C.apart i j h1 h2 h3;rw[Mm (p:=f.x) (q:=f.y) (by rw[Ab];omega) (by rw[Ab];omega) (by rw[Ab];omega),Mm (p:=f.x) (q:=f.y) (by rw[Ab];omega) (by rw[Ab];omega) (by rw[Ab];omega)]
theorem Curve.col(C:Curve v m){b j:Nat}(hj:j<m+3)(h:b=0->j≠m+2):∀a,b+a<j->
  wQ (fun i=>cr (sub (v j) (v (b+i))) (sub (v j) (v (b+i+1)))) a+cr (sub (v j) (v (b+a))) (sub (v (j+1)) (v (b+a)))=
  cr (sub (v j) (v b)) (sub (v (j+1)) (v b))+wQ (fun i=>cr (sub (v (j+1)) (v (b+i))) (sub (v (j+1)) (v (b+i+1)))) a
 |0,_=>by simp[wQ]
 |a+1,ha=>by
  have ih:=C.col hj h a (by omega)
  have c:=C.cell (i:=b+a) (j:=j) (by omega) hj (by omega)
  rw[wQ,wQ];show wQ _ a+cr (sub (v j) (v (b+a))) (sub (v j) (v (b+a+1)))+cr (sub (v j) (v (b+a+1))) (sub (v (j+1)) (v (b+a+1)))=_+(wQ _ a+cr (sub (v (j+1)) (v (b+a))) (sub (v (j+1)) (v (b+a+1))));omega
theorem Curve.diag(C:Curve v m){i:Nat}(hi:i+1<m+3):cr (sub (v (i+1)) (v i)) (sub (v (i+2)) (v (i+1)))=cr (sub (v (i+1)) (v i)) (sub (v (i+2)) (v i))+cr (sub (v (i+2)) (v i)) (sub (v (i+2)) (v (i+1))):=by
 rw[Sb (C.turn i hi)];have e:(⟨(sub (v (i+1)) (v i)).x+(sub (v (i+2)) (v (i+1))).x,(sub (v (i+1)) (v i)).y+(sub (v (i+2)) (v (i+1))).y⟩:V)=sub (v (i+2)) (v i):=by
  unfold sub;simp only[V.mk.injEq];omega
 rw[e]
theorem Curve.part(C:Curve v m):∀k,k<m+2->wQ (fun i=>cr (sub (v (i+1)) (v i)) (sub (v (i+2)) (v (i+1)))) k=
  wQ (fun j=>cr (sub (v (j+1)) (v 0)) (sub (v (j+2)) (v 0))) k+wQ (fun i=>cr (sub (v (k+1)) (v i)) (sub (v (k+1)) (v (i+1)))) k
 |0,_=>by simp[wQ]
 |k+1,hk=>by
  have ih:=C.part k (by omega)
  have d:=C.diag (i:=k) (by omega)
  have c:=C.col (b:=0) (j:=k+1) (by omega) (by omega) k (by omega)
  simp only[Nat.zero_add]at c;rw[wQ,wQ,wQ];show _+_=_+cr (sub (v (k+1)) (v 0)) (sub (v (k+1+1)) (v 0))+(_+cr (sub (v (k+1+1)) (v k)) (sub (v (k+1+1)) (v (k+1))));have e2:k+1+1=k+2:=rfl;rw[e2]at c|-;omega
end
end Go.Proofs.YtdaeofhdgabhjaaGreat.Geo
namespace Go.Proofs.YtdaeofhdgabhjaaGreat.Geo
def vv(r:aC)(i:Nat):V:=nth r (i % r.length)
end Go.Proofs.YtdaeofhdgabhjaaGreat.Geo
namespace Go.Proofs.YtdaeofhdgabhjaaGreat.Geo
def On(o:Bool)(v x:V):Prop:=if o=true then Up (sub x v)else Dn (sub x v)
theorem Oa{v x:V}(h:x≠v)(o:Bool):On o v x\/On (!o) v x:=by
 have:Up (sub x v)\/Dn (sub x v):=by
  rcases aFR (sub x v)with g|g|g
  ·exact .inl g
  ·exact .inr g
  ·exact absurd g (Sz h.symm)
 unfold On;cases o
 ·rcases this with g|g
  ·right;simpa using g
  ·left;simpa using g
 ·rcases this with g|g
  ·left;simpa using g
  ·right;simpa using g
theorem On.not{o:Bool}{v x:V}(h:On o v x):¬On (!o) v x:=by
 unfold On at*;cases o<;>simp at h|-
 ·exact fun g=>g.not h
 ·exact h.not
def tv(o:Bool)(v x:V):V:=if o=true then sub x v else neg (sub x v)
theorem xY(o:Bool)(v x:V):On o v x↔Up (tv o v x):=by
 unfold On tv;cases o
 ·simp[Dr]
 ·simp
theorem zF(o:Bool)(v x y:V):cross (tv o v x) (tv o v y)=ev (lin v x) (pt y):=by
 rw[jW];unfold tv;cases o
 ·simp[Ke]
 ·simp
theorem aHd{o:Bool}{v x:V}(h:On (!o) v x):Dn (tv o v x):=by
 unfold On at h;unfold tv;cases o
 ·simp at h;simp[uF,h]
 ·simp at h;simp[h]
theorem Co{y z:V}{α β:Int}(hy:Up y)(hz:Up z)(ha:0<=α)(hb:0<β):Up ⟨α*y.x+β*z.x,α*y.y+β*z.y⟩:=by
 rw[<-uF];have:=Cz ((uF y).2 hy) ((uF z).2 hz) ha hb;unfold neg at this|-;dsimp only at this|-;rw[show-(α*y.x+β*z.x)=α* -y.x+β* -z.x by grind,show-(α*y.y+β*z.y)=α* -y.y+β* -z.y by grind]
 exact this
theorem Ku{x:V}{k:Int}(hx:Up x)(h:Up ⟨k*x.x,k*x.y⟩):0<k:=by
 refine Int.not_le.1 fun g=> ?_
 rcases Int.lt_or_le k 0 with g'|g'
 ·refine h.not ?_;have:=Cz ((uF x).2 hx) ((uF x).2 hx) (Int.le_refl 0) (show 0< -k by omega)
  rw[Int.zero_mul,Int.zero_add,Int.zero_mul,Int.zero_add]at this;unfold neg at this;dsimp only at this;rw[Int.neg_mul_neg,Int.neg_mul_neg]at this;exact this
 ·have:k=0:=by omega
  subst this;rw[Int.zero_mul,Int.zero_mul]at h;unfold Up at h;simp at h
theorem Yx{x y z:V}(_hx:Up x)(hy:Up y)(hz:Up z)(h1:0<cross x y)(h2:0<cross y z):0<cross x z:=by
 refine Ku hy ?_;have:=Co hz _hx (show 0<=cross x y by omega) h2
 rw[show cross x z*y.x=cross x y*z.x+cross y z*x.x by unfold cross;grind,show cross x z*y.y=cross x y*z.y+cross y z*x.y by unfold cross;grind]
 exact this
theorem aHF{t u z:V}(ht:Dn t)(hu:Up u)(hz:Up z)(h1:0<cross t z)(h2:0<cross u z):0<cross t u:=by
 refine Ku hz ?_;have:=Co hu ((Dr t).2 ht) (show 0<=cross t z by omega) h2
 unfold neg at this;dsimp only at this;rw[show cross t u*z.x=cross t z*u.x+cross u z* -t.x by unfold cross;grind,show cross t u*z.y=cross t z*u.y+cross u z* -t.y by unfold cross;grind]
 exact this
theorem aD5{x u y:V}(hx:Up x)(hu:Up u)(hy:Dn y)(h1:0<cross x y)(h2:0<cross x u):0<cross u y:=by
 refine Ku hx ?_;have:=Co hu ((Dr y).2 hy) (show 0<=cross x y by omega) h2
 unfold neg at this;dsimp only at this;rw[show cross u y*x.x=cross x y*u.x+cross x u* -y.x by unfold cross;grind,show cross u y*x.y=cross x y*u.y+cross x u* -y.y by unfold cross;grind]
 exact this
theorem aD6{x y:V}(hx:Up x)(hy:Up y)(h:cross x y=0):0<x.x*y.x+x.y*y.y:=by
 have e1:(x.x*y.x+x.y*y.y)*x.x=(x.x*x.x+x.y*x.y)*y.x:=by unfold cross at h;grind
 have e2:(x.x*y.x+x.y*y.y)*x.y=(x.x*x.x+x.y*x.y)*y.y:=by unfold cross at h;grind
 refine Ku hx ?_;rw[e1,e2];have k:0<x.x*x.x+x.y*x.y:=by
  have:=vO x.x;have:=vO x.y;unfold Up at hx;rcases hx with g|⟨_,g⟩
  ·have:=Kw (show x.y≠0 by omega);omega
  ·have:=Kw (show x.x≠0 by omega);omega
 have:=Co hy hy (Int.le_refl 0) k;rw[Int.zero_mul,Int.zero_add,Int.zero_mul,Int.zero_add]at this;exact this
theorem Sv{α:Type}{R:α->α->Prop}:∀{l:List α},l≠[]->(∀x∈l,∀y∈l,x=y\/R x y\/R y x)->(∀x∈l,∀y∈l,∀z∈l,R x y->R y z->R x z)->∃m∈l,∀y∈l,y=m\/R y m
 |[],h,_,_=>absurd rfl h
 |[x],_,_,_=>⟨x,List.mem_cons_self,fun y hy=> .inl (List.mem_singleton.1 hy)⟩
 |x::y::l,_,ht,hr=>by
  obtain⟨m,hm,h⟩:=Sv (l:=y::l) (by simp) (fun a ha b hb=>ht a (List.mem_cons_of_mem _ ha) b (List.mem_cons_of_mem _ hb)) (fun a ha b hb c hc=>hr a (List.mem_cons_of_mem _ ha) b (List.mem_cons_of_mem _ hb) c (List.mem_cons_of_mem _ hc))
  have hm':=List.mem_cons_of_mem x hm;rcases ht x List.mem_cons_self m hm' with e|e|e
  ·exact⟨m,hm',fun z hz=>by
    rcases List.mem_cons.1 hz with e'|hz
    ·exact .inl (e'.trans e)
    ·exact h z hz⟩
  ·exact⟨m,hm',fun z hz=>by
    rcases List.mem_cons.1 hz with e'|hz
    ·rw[e'];exact .inr e
    ·exact h z hz⟩
  ·exact⟨x,List.mem_cons_self,fun z hz=>by
    rcases List.mem_cons.1 hz with e'|hz'
    ·exact .inl e'
    ·rcases h z hz' with e'|e'
     ·rw[e'];exact .inr e
     ·exact .inr (hr z hz m hm' x List.mem_cons_self e' e)⟩
section
variable {W:List V} {side:V->V->Prop} {ins:P3->Bool}
def Ccw(v x y:V):Prop:=0<ev (lin v x) (pt y)
theorem rT{v x y:V}(h:Ccw v x y):¬Ccw v y x:=by
 unfold Ccw at*;rw[show ev (lin v y) (pt x)= -ev (lin v x) (pt y) by unfold ev lin pt;grind];omega
theorem Db(N:Net W side){o:Bool}{v x y:V}(hx:side v x)(hy:side v y)(ox:On o v x)(oy:On o v y):x=y\/Ccw v x y\/Ccw v y x:=by
 unfold Ccw;rw[show ev (lin v y) (pt x)= -ev (lin v x) (pt y) by unfold ev lin pt;grind]
 by_cases h:ev (lin v x) (pt y)=0
 ·left;refine(N.ray hx hy h ?_).symm;have d:=aD6 ((xY o v x).1 ox) ((xY o v y).1 oy) (by rw[zF];exact h)
  have:(tv o v x).x*(tv o v y).x+(tv o v x).y*(tv o v y).y=ev (aX v x) (pt y):=by
   unfold tv ev aX pt sub neg;cases o<;>simp<;>grind
  omega
 ·omega
theorem Kg{o:Bool}{v x y z:V}(ox:On o v x)(oy:On o v y)(oz:On o v z)(h1:Ccw v x y)(h2:Ccw v y z):Ccw v x z:=by
 unfold Ccw at*;rw[<-zF o]at*;exact Yx ((xY o v x).1 ox) ((xY o v y).1 oy) ((xY o v z).1 oz) h1 h2
theorem Tri.sector(N:Net W side){a b c:V}(h:Tri W side ins a b c){x:V}(hx:side a x):¬(Ccw a b x/\Ccw a x c):=by
 unfold Ccw;rintro⟨h1,h2⟩;have h2':0<ev (lin c a) (pt x):=by rw[<-iR c a x];exact h2
 obtain⟨f,hf,hle⟩:=h.free N a x hx (1+(ev (lin b c) (pt x)).natAbs) 1 (by omega) (by omega) (by omega)
 dsimp only at hle;simp only[List.mem_cons,List.not_mem_nil,or_false]at hf;rcases hf with rfl|rfl|rfl
 ·rw[bB,Int.mul_zero]at hle;omega
 ·rw[iR a b c]at hle;have:=Int.mul_le_mul_of_nonneg_left (show 1<=ev (lin a b) (pt c) by have:=h.left;omega) (show 0<=1+((ev (lin b c) (pt x)).natAbs:Int) by omega)
  omega
 ·rw[bR,Int.mul_zero]at hle;omega
def Mid(W:List V)(side:V->V->Prop)(ins:P3->Bool)(o:Bool)(v x:V):Prop:=On o v x/\∃y,Tri W side ins v x y/\On (!o) v y
theorem Mid.top(N:Net W side){o:Bool}{v x z:V}(h:Mid W side ins o v x)(hz:side v z)(oz:On o v z):z=x\/Ccw v z x:=by
 obtain⟨ox,y,T,oy⟩:=h;rcases Db N hz T.ab oz ox with e|e|e
 ·exact .inl e
 ·exact .inr e
 ·refine absurd ⟨e,?_⟩ (T.sector N hz);unfold Ccw at*;have hl:=T.left;rw[<-zF o]at*;exact aD5 ((xY o v x).1 ox) ((xY o v z).1 oz) (aHd oy) hl e
open Classical in
theorem Ha(N:Net W side){o:Bool}{v x:V}{P:V->Prop}(hx:side v x)(ox:On o v x)(px:P x):∃z,side v z/\On o v z/\P z/\∀y,side v y->On o v y->P y->y=z\/Ccw v y z:=by
 have mm:∀{y},y∈W.filter (fun z=>decide (side v z/\On o v z/\P z))↔side v y/\On o v y/\P y:=fun{y}=>
  ⟨fun h=>of_decide_eq_true (List.mem_filter.1 h).2,fun h=>List.mem_filter.2 ⟨N.mem (N.symm h.1),decide_eq_true h⟩⟩
 obtain⟨z,hz,h⟩:=Sv (R:=Ccw v) (List.ne_nil_of_mem (mm.2 ⟨hx,ox,px⟩)) (fun a ha b hb=>Db N (mm.1 ha).1 (mm.1 hb).1 (mm.1 ha).2.1 (mm.1 hb).2.1)
  (fun a ha b hb c hc=>Kg (mm.1 ha).2.1 (mm.1 hb).2.1 (mm.1 hc).2.1)
 obtain⟨z1,z2,z3⟩:=mm.1 hz;exact⟨z,z1,z2,z3,fun y h1 h2 h3=>h y (mm.2 ⟨h1,h2,h3⟩)⟩
open Classical in
theorem Hb(N:Net W side){o:Bool}{v x:V}{P:V->Prop}(hx:side v x)(ox:On o v x)(px:P x):∃z,side v z/\On o v z/\P z/\∀y,side v y->On o v y->P y->y=z\/Ccw v z y:=by
 have mm:∀{y},y∈W.filter (fun z=>decide (side v z/\On o v z/\P z))↔side v y/\On o v y/\P y:=fun{y}=>
  ⟨fun h=>of_decide_eq_true (List.mem_filter.1 h).2,fun h=>List.mem_filter.2 ⟨N.mem (N.symm h.1),decide_eq_true h⟩⟩
 obtain⟨z,hz,h⟩:=Sv (R:=fun a b=>Ccw v b a) (List.ne_nil_of_mem (mm.2 ⟨hx,ox,px⟩)) (fun a ha b hb=>by
   rcases Db N (mm.1 ha).1 (mm.1 hb).1 (mm.1 ha).2.1 (mm.1 hb).2.1 with e|e|e
   ·exact .inl e
   ·exact .inr (.inr e)
   ·exact .inr (.inl e))
  (fun a ha b hb c hc h1 h2=>Kg (mm.1 hc).2.1 (mm.1 hb).2.1 (mm.1 ha).2.1 h2 h1)
 obtain⟨z1,z2,z3⟩:=mm.1 hz;exact⟨z,z1,z2,z3,fun y h1 h2 h3=>h y (mm.2 ⟨h1,h2,h3⟩)⟩
structure Vtx(W:List V)(side:V->V->Prop)(ins:P3->Bool)(v u w:V):Prop where
 fill:Filled W side ins
 su:side v u
 sw:side v w
 lw:Lft ins v w
 lu:¬Lft ins v u
 out:∀x,side v x->x≠u->Lft ins v x
 inn:∀x,side v x->x≠w->Lft ins x v
variable {v u w:V}
theorem Wn(X:Vtx W side ins v u w){o:Bool}{x:V}(hx:side v x)(ox:On o v x)(hu:x≠u)(ht:∀y,side v y->On o v y->y=x\/Ccw v y x):Mid W side ins o v x:=by
 have N:=X.fill.net;obtain⟨y,T⟩:=yX X.fill hx (X.out x hx hu);refine⟨ox,y,T,?_⟩;have hy:=N.symm T.ca;rcases Oa (N.ne T.ca) o with g|g
 ·rcases ht y hy g with e|e
  ·exact absurd e.symm (N.ne T.bc)
  ·exact absurd e (rT T.left)
 ·exact g
theorem Xr(X:Vtx W side ins v u w){o:Bool}(hu:¬On o v u){x:V}(hx:side v x)(ox:On o v x):∃x,Mid W side ins o v x:=by
 obtain⟨z,z1,z2,_,z3⟩:=Ha X.fill.net (P:=fun _=>True) hx ox trivial
 exact⟨z,Wn X z1 z2 (fun e=>hu (e▸z2)) fun y h1 h2=>z3 y h1 h2 trivial⟩
theorem Jn(X:Vtx W side ins v u w){o:Bool}(hu:On o v u){x:V}(hx:side v x)(ox:On o v x)(h:Ccw v u x):∃x,Mid W side ins o v x:=by
 obtain⟨z,z1,z2,_,z3⟩:=Ha X.fill.net (P:=fun _=>True) hx ox trivial
 refine⟨z,Wn X z1 z2 (fun e=> ?_) fun y h1 h2=>z3 y h1 h2 trivial⟩
 subst e;rcases z3 x hx ox trivial with e|e
 ·subst e;exact rT h h
 ·exact rT h e
theorem Et(X:Vtx W side ins v u w){o:Bool}(hu:On o v u)(hw:On o v w->Ccw v w u):¬∃x,Mid W side ins o v x:=by
 rintro⟨x,M⟩;have N:=X.fill.net;obtain⟨ox,y,T,oy⟩:=id M;have hxu:x≠u:=fun e=>X.lu (by rw[<-e];exact T.lft X.fill)
 have hux:Ccw v u x:=(M.top N X.su hu).resolve_left fun e=>hxu e.symm
 obtain⟨z,z1,z2,z3,z4⟩:=Hb N (P:=fun z=>Ccw v u z) T.ab ox hux
 have hzw:z≠w:=fun e=>rT (hw (e▸z2)) (e▸z3)
 obtain⟨t,T2⟩:=yX X.fill (N.symm z1) (X.inn z z1 hzw);have T3:Tri W side ins v t z:=T2.rot;have htz:Ccw v t z:=T3.left;have st:=T3.ab;by_cases ot:On o v t
 ·rcases Db N X.su st hu ot with e|e|e
  ·exact X.lu (by rw[e];exact T3.lft X.fill)
  ·rcases z4 t st ot e with e'|e'
   ·exact N.ne T3.bc e'
   ·exact rT htz e'
  ·exact T3.sector N X.su ⟨e,z3⟩
 ·have ot':=(Oa (N.ne (N.symm st)) o).resolve_left ot;refine T3.sector N X.su ⟨?_,z3⟩;unfold Ccw at*;rw[<-zF o]at*;exact aHF (aHd ot') ((xY o v u).1 hu) ((xY o v z).1 z2) htz z3
theorem aAg(X:Vtx W side ins v u w){o:Bool}(hu:On (!o) v u)(hw:On (!o) v w)(h:Ccw v w u):¬∃x,Mid W side ins o v x:=by
 rintro⟨x,M⟩;have N:=X.fill.net;obtain⟨ox,y,T,oy⟩:=id M;obtain⟨z,z1,z2,_,z4⟩:=Hb N (P:=fun _=>True) T.ab ox trivial
 have hzw:z≠w:=fun e=>z2.not (e▸hw)
 obtain⟨t,T2⟩:=yX X.fill (N.symm z1) (X.inn z z1 hzw);have T3:Tri W side ins v t z:=T2.rot;have st:=T3.ab;have ot':On (!o) v t:=by
  refine(Oa (N.ne (N.symm st)) o).resolve_left fun ot=> ?_
  rcases z4 t st ot trivial with e|e
  ·exact N.ne T3.bc e
  ·exact rT T3.left e
 exact Et X hu (fun _=>h) ⟨t,ot',z,T3,by rw[Bool.not_not];exact z2⟩
theorem Ur(X:Vtx W side ins v u w){o:Bool}(hu:On (!o) v u)(hw:On (!o) v w)(h:Ccw v u w):∃x,Mid W side ins o v x:=by
 have N:=X.fill.net;by_cases hx:∃x,side v x/\On o v x
 ·obtain⟨x,h1,h2⟩:=hx;exact Xr X (fun g=>g.not hu) h1 h2
 ·exfalso;obtain⟨x,ox,y,T,oy⟩:=Jn X hu X.sw hw h;rw[Bool.not_not]at oy;exact hx ⟨y,N.symm T.ca,oy⟩
open Classical in
noncomputable def cnt(W:List V)(side:V->V->Prop)(ins:P3->Bool)(o:Bool)(v:V):Int:=if∃x,Mid W side ins o v x then 1 else 0
theorem Mn{o:Bool}(h:∃x,Mid W side ins o v x):cnt W side ins o v=1:=if_pos h
theorem Fd{o:Bool}(h:¬∃x,Mid W side ins o v x):cnt W side ins o v=0:=if_neg h
theorem aFS{x:V}:Up (sub x v)↔On true v x:=by unfold On;simp
theorem aBo{x:V}:Up (sub v x)↔On false v x:=by unfold On;rw[<-sub_neg,Dr];simp
theorem Vtx.count(X:Vtx W side ins v u w)(ht:cross (sub v u) (sub w v)≠0):cnt W side ins true v+cnt W side ins false v=1-cr (sub v u) (sub w v):=by
 have N:=X.fill.net;have eu:ev (lin v w) (pt u)=cross (sub v u) (sub w v):=by rw[jW];unfold cross sub;grind
 have ew:ev (lin v u) (pt w)= -cross (sub v u) (sub w v):=by rw[jW];unfold cross sub;grind
 have ou:=Oa (N.ne (N.symm X.su));have ow:=Oa (N.ne (N.symm X.sw));have diff:∀o,On o v u->On (!o) v w->cnt W side ins o v=0/\cnt W side ins (!o) v=1:=fun o h1 h2=>
  ⟨Fd (Et X h1 fun g=>absurd h2 g.not),Mn (Xr X (fun g=>h1.not g) X.sw h2)⟩
 have same:∀o,On o v u->On o v w->cnt W side ins o v+cnt W side ins (!o) v=1-sgn (cross (sub v u) (sub w v)):=fun o h1 h2=>by
  have h1':On (!(!o)) v u:=by rw[Bool.not_not];exact h1
  have h2':On (!(!o)) v w:=by rw[Bool.not_not];exact h2
  rcases Int.lt_or_gt_of_ne ht with g|g
  ·have k:Ccw v u w:=by unfold Ccw;rw[ew];omega
   rw[Mn (Jn X h1 X.sw h2 k),Mn (Ur X h1' h2' k),show sgn (cross (sub v u) (sub w v))= -1 by unfold sgn;rw[if_neg (by omega),if_pos g]];rfl
  ·have k:Ccw v w u:=by unfold Ccw;rw[eu];exact g
   rw[Fd (Et X h1 fun _=>k),Fd (aAg X h1' h2' k),show sgn (cross (sub v u) (sub w v))=1 by unfold sgn;rw[if_pos g]];rfl
 by_cases c:Up (sub v u)↔Up (sub w v)
 ·rw[vL c];rw[aBo,aFS]at c;rcases ou true with h1|h1
  ·have h2:On (!true) v w:=(ow true).resolve_left fun g=>h1.not (c.2 g)
   have:=diff true h1 h2;rw[this.1,show(false:Bool)= !true from rfl,this.2];rfl
  ·have h2:=c.1 h1;have:=diff false h1 h2;rw[this.1,show(true:Bool)= !false from rfl,this.2];rfl
 ·rw[sK c];rw[aBo,aFS]at c;rcases ou true with h1|h1
  ·have h2:On true v w:=(ow true).resolve_right fun g=>c ⟨fun h=>absurd h h1.not,fun h=>absurd g h.not⟩
   have:=same true h1 h2;exact this
  ·have h2:On false v w:=(ow true).resolve_left fun g=>c ⟨fun _=>g,fun _=>h1⟩
   have:=same false h1 h2;rw[show(!false)=true from rfl]at this
   omega
end
end Go.Proofs.YtdaeofhdgabhjaaGreat.Geo
namespace Go.Proofs.YtdaeofhdgabhjaaGreat.Geo
section
variable {s:Shape} {D:List S}
end
open Classical in
open Classical in
open Classical in
section
variable {s:Shape} {D:List S}
end
end Go.Proofs.YtdaeofhdgabhjaaGreat.Geo
namespace Go.Proofs.YtdaeofhdgabhjaaGreat.Geo
theorem Br{a b c w:V}(na:aJ a 2000=true)(nb:aJ b 2000=true)(nc:aJ c 2000=true)(nw:aJ w 2000=true)(h:0<ev (lin a b) (pt c)):
  bL [a,b,c] w=0↔¬(0<=ev (lin a b) (pt w)/\0<=ev (lin b c) (pt w)/\0<=ev (lin c a) (pt w)):=by
 have m4:∀{x:V},aJ x 2000=true->aJ x 4000=true:=fun h=>dD h (by omega)
 have hv:cB [a,b,c] =true:=(zX (If na nb nc)).2 (by unfold turn;rw[yH,<-jW];exact h)
 have hp:cF (iD w)=true:=by rw[lJ];exact m4 nw
 have e2:bL [a,b,c] w=2↔0<ev (lin a b) (pt w)/\0<ev (lin b c) (pt w)/\0<ev (lin c a) (pt w):=by
  unfold bL;rw[m4 nw];have:=aBn hv (iD w) hp (by rw[<-jW];exact h)
  unfold Cu at this;rw[rA]at this;simp only[Bool.not_true,Bool.false_eq_true,if_false];rw[this];simp only[List.map_cons,List.map_nil,List.mem_cons,List.not_mem_nil,or_false,forall_eq_or_imp,forall_eq];exact Iff.rfl
 have on1:(∃e∈edges [a,b,c],onS e w=true)->bL [a,b,c] w=1:=by
  rintro⟨e,he,ho⟩;have ve:aK e=true:=by
   rw[rA]at he;simp only[List.mem_cons,List.not_mem_nil,or_false]at he;rcases he with rfl|rfl|rfl<;>simp[aK,m4 na,m4 nb,m4 nc]
  unfold bL aP;rw[m4 nw,hv,hp];exact sI ⟨e,he,(Ep e w).2 ((eR ve).1 ho)⟩
 have r1:ev (lin b c) (pt a)=ev (lin a b) (pt c):=iR a b c;have r2:ev (lin c a) (pt b)=ev (lin a b) (pt c):=by unfold ev lin pt;grind
 constructor
 ·rintro h0 ⟨h1,h2,h3⟩;have seg:∀{x y z:V},aJ x 4000=true->aJ y 4000=true->0<ev (lin x y) (pt z)->ev (lin x y) (pt w)=0->0<=ev (lin y z) (pt w)->0<=ev (lin z x) (pt w)->onS ⟨x,y⟩ w=true:=fun{x y z} hx hy hd h0 h1 h2=>by
   have g:=oL (c:=z) h0;exact Jk hx hy h1 h2 hd (by rw[g];unfold cmb pt;simp)
  by_cases z1:ev (lin a b) (pt w)=0
  ·have:=on1 ⟨⟨a,b⟩,by rw[rA];simp,seg (m4 na) (m4 nb) h z1 h2 h3⟩;omega
  ·by_cases z2:ev (lin b c) (pt w)=0
   ·have:=on1 ⟨⟨b,c⟩,by rw[rA];simp,seg (m4 nb) (m4 nc) (by rw[r1];exact h) z2 h3 h1⟩;omega
   ·by_cases z3:ev (lin c a) (pt w)=0
    ·have:=on1 ⟨⟨c,a⟩,by rw[rA];simp,seg (m4 nc) (m4 na) (by rw[r2];exact h) z3 h1 h2⟩;omega
    ·have:=e2.2 ⟨by omega,by omega,by omega⟩;omega
 ·intro hno;rcases rC [a,b,c] w with g|g|g
  ·exact g
  ·exfalso;obtain⟨e,he,ho⟩:=Bq g;have comb:∀{x y:V},x≠y->aJ x 4000=true->aJ y 4000=true->onS ⟨x,y⟩ w=true->∀f:P3,0<=ev f (pt x)->0<=ev f (pt y)->0<=ev f (pt w):=fun{x y} hne hx hy ho f h1 h2=>by
    obtain⟨s,t,k,p1,p2,p3,p4,p5⟩:=Lx (by simp[aK,hx,hy]) hne ho
    have e:=congrArg (ev f) p5;rw[aM,aM]at e;have:=mpp p1 h1;have:=mpp p2 h2;dsimp only at e;refine nnl p3 ?_;rw[Int.mul_comm];omega
   have nab:a≠b:=fun g=>by rw[g,show ev (lin b b) (pt c)=0 by unfold ev lin pt;grind]at h;omega
   have nbc:b≠c:=fun g=>by rw[g,bR]at h;omega
   have nca:c≠a:=fun g=>by rw[g,bB]at h;omega
   have la:0<=ev (lin a b) (pt a)/\0<=ev (lin b c) (pt a)/\0<=ev (lin c a) (pt a):=⟨by rw[bB];omega,by omega,by rw[bR];omega⟩
   have lb:0<=ev (lin a b) (pt b)/\0<=ev (lin b c) (pt b)/\0<=ev (lin c a) (pt b):=⟨by rw[bR];omega,by rw[bB];omega,by omega⟩
   have lc:0<=ev (lin a b) (pt c)/\0<=ev (lin b c) (pt c)/\0<=ev (lin c a) (pt c):=⟨by omega,by rw[bR];omega,by rw[bB];omega⟩
   rw[rA]at he;simp only[List.mem_cons,List.not_mem_nil,or_false]at he;rcases he with rfl|rfl|rfl
   ·have k:=comb nab (m4 na) (m4 nb) ho;exact hno ⟨k _ la.1 lb.1,k _ la.2.1 lb.2.1,k _ la.2.2 lb.2.2⟩
   ·have k:=comb nbc (m4 nb) (m4 nc) ho;exact hno ⟨k _ lb.1 lc.1,k _ lb.2.1 lc.2.1,k _ lb.2.2 lc.2.2⟩
   ·have k:=comb nca (m4 nc) (m4 na) ho;exact hno ⟨k _ lc.1 la.1,k _ lc.2.1 la.2.1,k _ lc.2.2 la.2.2⟩
  ·exfalso;obtain⟨g1,g2,g3⟩:=e2.1 g;exact hno ⟨by omega,by omega,by omega⟩
theorem aIi(a b c:V):∃k:Int,0<k/\ctr a b c=⟨k*(p3 (dB a b c)).x,k*(p3 (dB a b c)).y,k*(p3 (dB a b c)).d⟩:=by
 unfold dB;split
 ·rename_i h;refine⟨3,by omega,?_⟩
  have h1:=Vx h.1;have h2:=Vx h.2;unfold ctr p3;simp only[P3.mk.injEq];refine⟨?_,?_,?_⟩<;>omega
 ·refine⟨1,by omega,?_⟩
  unfold ctr p3;simp only[P3.mk.injEq];refine⟨?_,?_,?_⟩<;>omega
theorem Hf(a b c:V):0<(dB a b c).den:=by unfold dB;split<;>simp
section
variable {s:Shape} {D:List S}
theorem Xz{k:Int}(hk:0<k)(p:P3):fH s ⟨k*p.x,k*p.y,k*p.d⟩=fH s p:=by
 unfold fH;rw[yK hk]
 congr 1
 rw[Bool.eq_iff_iff,List.all_eq_true,List.all_eq_true];constructor
 ·intro g r hr;rw[<-yK hk];exact g r hr
 ·intro g r hr;rw[yK hk];exact g r hr
theorem rZ(h:VS s){p:Pt}(hp:cF p=true)(ho:∀e∈aQ s,onP e p=false):dA s p=2↔fH s (p3 p)=true:=by
 have w:∀r∈aG s,aP r p=if dV r (p3 p)then 2 else 0:=fun r hr=>mA (h.ring hr) hp fun e he=>ho e (List.mem_flatMap.2 ⟨r,hr,he⟩)
 rw[mF];unfold fH;rw[Bool.and_eq_true,List.all_eq_true,w _ List.mem_cons_self];have hv:=(fR s).2 h;constructor
 ·rintro⟨_,h1,h2⟩;refine⟨by cases g:dV s.outer (p3 p)<;>simp_all,fun q hq=> ?_⟩
  have:=h2 q hq;rw[w q (List.mem_cons_of_mem _ hq)]at this;cases g:dV q (p3 p)<;>simp_all
 ·rintro⟨h1,h2⟩;refine⟨hv,by rw[h1];rfl,fun q hq=> ?_⟩
  rw[w q (List.mem_cons_of_mem _ hq)];have:=h2 q hq;cases g:dV q (p3 p)<;>simp_all
theorem Yt(h:VS s){p:Pt}(hp:cF p=true)(hw:dA s p=2):∀e∈aQ s,onP e p=false:=by
 intro e he;obtain⟨r,hr,he⟩:=List.mem_flatMap.1 he;refine Bool.eq_false_iff.2 fun ho=> ?_
 have one:aP r p=1:=by
  unfold aP;rw[(cL _).2 (h.ring hr),hp];exact sI ⟨e,he,ho⟩
 rw[mF]at hw;rcases List.mem_cons.1 hr with e1|hr
 ·rw[<-e1]at hw;omega
 ·have:=hw.2.2 r hr;omega
def mL(a b c:V):T3:=if turn a b c<0 then⟨a,c,b⟩else⟨a,b,c⟩
theorem Sf(a b c:V):dB a c b=dB a b c:=by
 rw[<-Gl,<-Gl];exact Nd (List.Perm.cons a (List.Perm.swap b c []))
theorem It(T:Tg s D){v:List V}(hv:∀x,x∈v↔x∈bJ s){a b c:V}(hab:sides s D a b)(hbc:sides s D b c)(hca:sides s D c a)(hl:0<ev (lin a b) (pt c)):
  ((∀w∈v,w=a\/w=b\/w=c\/bL [a,b,c] w=0)/\dA s (dB a b c)=2)↔Tri (bJ s) (sides s D) (fH s) a b c:=by
 have N:=T.filled.net;have near:=fun{x} (hx:x∈bJ s)=>eI T.vs hx
 have na:=near (N.mem hab);have nb:=near (N.mem hbc);have nc:=near (N.mem hca);have hp:=Hk na nb nc;obtain⟨k,hk,ek⟩:=aIi a b c;have em:∀g:(∀w∈v,w=a\/w=b\/w=c\/bL [a,b,c] w=0),∀w∈bJ s,0<=ev (lin a b) (pt w)->0<=ev (lin b c) (pt w)->0<=ev (lin c a) (pt w)->w=a\/w=b\/w=c:=fun g w hw h1 h2 h3=>by
  rcases g w ((hv w).2 hw)with e|e|e|e
  ·exact .inl e
  ·exact .inr (.inl e)
  ·exact .inr (.inr e)
  ·exact absurd ⟨h1,h2,h3⟩ ((Br na nb nc (near hw) hl).1 e)
 constructor
 ·rintro⟨g1,g2⟩;refine⟨hab,hbc,hca,hl,em g1,?_⟩;show fH s (ctr a b c)=true;rw[ek,Xz hk];exact(rZ T.vs hp (Yt T.vs hp g2)).1 g2
 ·intro X;refine⟨fun w hw=> ?_,?_⟩
  ·by_cases g:0<=ev (lin a b) (pt w)/\0<=ev (lin b c) (pt w)/\0<=ev (lin c a) (pt w)
   ·rcases X.empty w ((hv w).1 hw) g.1 g.2.1 g.2.2 with e|e|e
    ·exact .inl e
    ·exact .inr (.inl e)
    ·exact .inr (.inr (.inl e))
   ·exact .inr (.inr (.inr ((Br na nb nc (near ((hv w).1 hw)) hl).2 g)))
  ·refine(rZ T.vs hp fun e he=>Bool.eq_false_iff.2 fun ho=> ?_).2 ?_
   ·obtain⟨x,y,m,h1,h2,h3,h4,h5⟩:=Kz (Hf a b c) (T.vs.lS he) ho;have cd:=Hf a b c;have pm:=Int.mul_pos h3 cd;obtain⟨f,hf,hle⟩:=X.free N e.a e.b (.inl (List.mem_append_left _ he)) x y h1 h2 (by omega)
    dsimp only at hle;have q:=(Lj hl).2 f hf;rw[ek,show ev f ⟨k*(p3 (dB a b c)).x,k*(p3 (dB a b c)).y,k*(p3 (dB a b c)).d⟩=k*ev f (p3 (dB a b c)) by unfold ev;grind]at q
    have q2:0<ev f (p3 (dB a b c)):=dZ hk q;have e1:x*ev f (pt e.a)+y*ev f (pt e.b)=m*ev f (p3 (dB a b c)):=by rw[<-aM,h5];unfold ev p3;grind
    have:=Int.mul_pos h3 q2;omega
   ·have:=X.mid;change fH s (ctr a b c)=true at this;rw[ek,Xz hk]at this;exact this
end
end Go.Proofs.YtdaeofhdgabhjaaGreat.Geo
namespace Go.Proofs.YtdaeofhdgabhjaaGreat.Geo
theorem sR{a b c:V}(h:0<turn a b c):mL a b c=⟨a,b,c⟩:=by unfold mL;rw[if_neg (by omega)]
theorem xF{a b c:V}(h:0<turn a b c):mL a c b=⟨a,b,c⟩:=by unfold mL;rw[if_pos (by rw[oT];omega)]
theorem yW{a b c:V}:0<turn a b c↔0<ev (lin a b) (pt c):=by unfold turn;rw[yH,jW]
section
variable {s:Shape} {D:List S}
theorem Kc(T:Tg s D){v:List V}(hv:∀x,x∈v↔x∈bJ s)(hn:v.Nodup){i j k:Nat}(hij:i<j)(hjk:j<k)(hk:k<v.length)
  (h1:sides s D (nth v i) (nth v j)) (h2:sides s D (nth v j) (nth v k)) (h3:sides s D (nth v i) (nth v k)):
  gZ s v i j k=true↔(turn (nth v i) (nth v j) (nth v k)≠0/\Tri (bJ s) (sides s D) (fH s) (mL (nth v i) (nth v j) (nth v k)).a (mL (nth v i) (nth v j) (nth v k)).b (mL (nth v i) (nth v j) (nth v k)).c):=by
 have N:=T.filled.net;have near:=fun{x} (hx:x∈bJ s)=>eI T.vs hx
 have na:=near (N.mem h1);have nb:=near (N.mem h2);have nc:=near (N.mem (N.symm h2));have idx:∀n,n<v.length->∀m,m<v.length->(n≠m↔nth v n≠nth v m):=fun n h1 m h2=>⟨fun h e=>h (eV hn h1 h2 e),fun h e=>h (by rw[e])⟩
 have all:∀R:aC,(∀w,bL (kA (nth v i) (nth v j) (nth v k)) w=bL R w)->(((List.range v.length).all fun n=> !(n !=i&&n !=j&&n !=k&&bL (kA (nth v i) (nth v j) (nth v k)) (nth v n) !=0))=true↔∀w∈v,w=nth v i\/w=nth v j\/w=nth v k\/bL R w=0):=fun R hR=>by
  rw[List.all_eq_true];constructor
  ·intro g w hw;obtain⟨n,hn',rfl⟩:=fU.1 hw;have:=g n (List.mem_range.2 hn');rw[hR]at this;by_cases c1:n=i
   ·exact .inl (by rw[c1])
   ·by_cases c2:n=j
    ·exact .inr (.inl (by rw[c2]))
    ·by_cases c3:n=k
     ·exact .inr (.inr (.inl (by rw[c3])))
     ·simp[c1,c2,c3]at this;exact .inr (.inr (.inr this))
  ·intro g n hn';have hn':=List.mem_range.1 hn';have:=g (nth v n) (gT hn');rw[hR];rcases this with e|e|e|e
   ·simp[eV hn hn' (by omega) e]
   ·simp[eV hn hn' (by omega) e]
   ·simp[eV hn hn' (by omega) e]
   ·simp[e]
 unfold gZ;rw[Bool.and_eq_true,Bool.and_eq_true,bne_iff_ne,beq_iff_eq];generalize hA:nth v i=a at*;generalize hB:nth v j=b at*;generalize hC:nth v k=c at*;rcases Int.lt_trichotomy (turn a b c) 0 with g|g|g
 ·have g':0<turn a c b:=by rw[oT];omega
  have hl:=yW.1 g';have hval:VR [a,c,b] :=(cL _).1 ((zX (If na nc nb)).2 g');have eT:kA a b c=dP [a,c,b] :=by unfold kA cX;rw[if_pos g,if_pos ((cL _).2 hval)]
  have hw:∀w,bL (kA a b c) w=bL [a,c,b] w:=fun w=>by rw[eT];exact xA hval (by have:=iI (r:=[a,c,b]) (by simp);omega) w
  have eo:mL a b c=⟨a,c,b⟩:=by unfold mL;rw[if_pos g]
  rw[eo,<-It T hv h3 (N.symm h2) (N.symm h1) hl,<-Sf a b c,all _ hw];constructor
  ·rintro⟨⟨p1,p2⟩,p3⟩;exact⟨p1,fun w hw=>by rcases p2 w hw with e|e|e|e<;>simp[e],p3⟩
  ·rintro⟨p1,p2,p3⟩;exact⟨⟨p1,fun w hw=>by rcases p2 w hw with e|e|e|e<;>simp[e]⟩,p3⟩
 ·simp[g]
 ·have hl:=yW.1 g;have hval:VR [a,b,c] :=(cL _).1 ((zX (If na nb nc)).2 g);have eT:kA a b c=dP [a,b,c] :=by unfold kA cX;rw[if_neg (by omega),if_pos ((cL _).2 hval)]
  have hw:∀w,bL (kA a b c) w=bL [a,b,c] w:=fun w=>by rw[eT];exact xA hval (by have:=iI (r:=[a,b,c]) (by simp);omega) w
  rw[sR g,<-It T hv h1 h2 (N.symm h3) hl,all _ hw];constructor
  ·rintro⟨⟨p1,p2⟩,p3⟩;exact⟨p1,p2,p3⟩
  ·rintro⟨p1,p2,p3⟩;exact⟨⟨p1,p2⟩,p3⟩
structure Idx(s:Shape)(D:List S)(v:List V)(L:List (Nat×Nat×Nat)):Prop where
 nodup:L.Nodup
 mem:∀i j k,(i,j,k)∈L↔i<j/\j<k/\k<v.length/\sides s D (nth v i) (nth v j)/\sides s D (nth v i) (nth v k)/\sides s D (nth v j) (nth v k)/\gZ s v i j k=true
def wK(v:List V)(p:Nat×Nat×Nat):T3:=mL (nth v p.1) (nth v p.2.1) (nth v p.2.2)
theorem Idx.all3(T:Tg s D){v:List V}(hv:∀x,x∈v↔x∈bJ s)(hn:v.Nodup){L:List (Nat×Nat×Nat)}(I:Idx s D v L):All3 (bJ s) (sides s D) (fH s) (L.map (wK v)):=by
 have N:=T.filled.net;have get:∀{p},p∈L->p.1<p.2.1/\p.2.1<p.2.2/\p.2.2<v.length/\turn (nth v p.1) (nth v p.2.1) (nth v p.2.2)≠0/\Tri (bJ s) (sides s D) (fH s) (wK v p).a (wK v p).b (wK v p).c:=fun{p} hp=>by
  obtain⟨i,j,k⟩:=p;obtain⟨h1,h2,h3,h4,h5,h6,h7⟩:=(I.mem i j k).1 hp;obtain⟨g1,g2⟩:=(Kc T hv hn h1 h2 h3 h4 h6 h5).1 h7;exact⟨h1,h2,h3,g1,g2⟩
 refine⟨fun t ht=> ?_,fun a b c h=> ?_,?_⟩
 ·obtain⟨p,hp,rfl⟩:=List.mem_map.1 ht;exact(get hp).2.2.2.2
 ·
  have put:∀{i j k:Nat} {t:T3},i<j->j<k->k<v.length->sides s D (nth v i) (nth v j)->sides s D (nth v i) (nth v k)->sides s D (nth v j) (nth v k)->turn (nth v i) (nth v j) (nth v k)≠0->mL (nth v i) (nth v j) (nth v k)=t->Tri (bJ s) (sides s D) (fH s) t.a t.b t.c->t∈L.map (wK v):=fun{i j k t} h1 h2 h3 h4 h5 h6 h7 h8 h9=>by
   subst h8;exact List.mem_map.2 ⟨(i,j,k),(I.mem i j k).2 ⟨h1,h2,h3,h4,h5,h6,(Kc T hv hn h1 h2 h3 h4 h6 h5).2 ⟨h7,h9⟩⟩,rfl⟩
  have ht:0<turn a b c:=yW.2 h.left;have ht1:0<turn b c a:=by rw[<-rM];exact ht
  have ht2:0<turn c a b:=by rw[<-rM];exact ht1
  have f1:turn a c b≠0:=by rw[oT];omega
  have f2:turn b a c≠0:=by rw[oT];omega
  have f3:turn c b a≠0:=by rw[oT];omega
  have ab:=h.ab;have bc:=h.bc;have ca:=h.ca;obtain⟨i,hi,rfl⟩:=fU.1 ((hv a).2 (N.mem ab));obtain⟨j,hj,rfl⟩:=fU.1 ((hv b).2 (N.mem bc));obtain⟨k,hk,rfl⟩:=fU.1 ((hv c).2 (N.mem ca));have n1:i≠j:=fun e=>N.ne ab (by rw[e])
  have n2:j≠k:=fun e=>N.ne bc (by rw[e])
  have n3:k≠i:=fun e=>N.ne ca (by rw[e])
  rcases Nat.lt_or_gt_of_ne n1 with g1|g1<;>rcases Nat.lt_or_gt_of_ne n2 with g2|g2<;>rcases Nat.lt_or_gt_of_ne n3 with g3|g3
  ·omega
  ·exact .inl (put g1 g2 hk ab (N.symm ca) bc (by omega) (sR ht) h)
  ·exact .inr (.inr (put g3 g1 hj ca (N.symm bc) ab (by omega) (sR ht2) h.rot.rot))
  ·exact .inl (put g3 g2 hj (N.symm ca) ab (N.symm bc) f1 (xF ht) h)
  ·exact .inr (.inl (put g2 g3 hi bc (N.symm ab) ca (by omega) (sR ht1) h.rot))
  ·exact .inr (.inl (put g1 g3 hk (N.symm ab) bc (N.symm ca) f2 (xF ht1) h.rot))
  ·exact .inr (.inr (put g2 g1 hi (N.symm bc) ca (N.symm ab) f3 (xF ht2) h.rot.rot))
  ·omega
 ·rw[List.pairwise_map];refine(List.Pairwise.and_mem.1 (List.nodup_iff_pairwise_ne.1 I.nodup)).imp ?_;rintro⟨i,j,k⟩ ⟨i',j',k'⟩ ⟨hp,hq,hne⟩;obtain⟨a1,a2,a3,_,_⟩:=get hp;obtain⟨b1,b2,b3,_,_⟩:=get hq;dsimp only at a1 a2 a3 b1 b2 b3;have vs:∀{i j k:Nat} (x:V),(x=(wK v (i,j,k)).a\/x=(wK v (i,j,k)).b\/x=(wK v (i,j,k)).c)↔(x=nth v i\/x=nth v j\/x=nth v k):=fun{i j k} x=>by
   unfold wK mL;dsimp only;split
   ·dsimp only;constructor<;>rintro(e|e|e)<;>simp[e]
   ·exact Iff.rfl
  have same:(∀x,(x=nth v i\/x=nth v j\/x=nth v k)->(x=nth v i'\/x=nth v j'\/x=nth v k'))->False:=fun g=>by
   have k1:∀n,n<v.length->(nth v n=nth v i'\/nth v n=nth v j'\/nth v n=nth v k')->n=i'\/n=j'\/n=k':=fun n hn' h=>by
    rcases h with h|h|h
    ·exact .inl (eV hn hn' (by omega) h)
    ·exact .inr (.inl (eV hn hn' (by omega) h))
    ·exact .inr (.inr (eV hn hn' (by omega) h))
   have m1:=k1 i (by omega) (g _ (.inl rfl))
   have m2:=k1 j (by omega) (g _ (.inr (.inl rfl)))
   have m3:=k1 k (by omega) (g _ (.inr (.inr rfl)))
   refine hne ?_;rw[show i=i' by omega,show j=j' by omega,show k=k' by omega]
  refine⟨fun e=>same fun x hx=> ?_,fun e=>same fun x hx=> ?_,fun e=>same fun x hx=> ?_⟩
  ·rw[<-vs x]at hx|-;rw[e]at hx;exact hx
  ·rw[<-vs x]at hx|-;rw[e]at hx;unfold T3.rot at hx;dsimp only at hx;rcases hx with h|h|h<;>simp[h]
  ·rw[<-vs x]at hx|-;rw[e]at hx;unfold T3.rot at hx;dsimp only at hx;rcases hx with h|h|h<;>simp[h]
end
end Go.Proofs.YtdaeofhdgabhjaaGreat.Geo
namespace Go.Proofs.YtdaeofhdgabhjaaGreat.Geo
section
variable (s:Shape) (v:List V) (T:Tab)
def kL(i j:Nat):Nat->List (Nat×Nat×Nat)
 |0=>[]
 |m+1=>kL i j m++(if T i (j+1+m)&&(T j (j+1+m)&&gZ s v i j (j+1+m))then [(i,j,j+1+m)]else [])
def jL(i:Nat):Nat->List (Nat×Nat×Nat)
 |0=>[]
 |m+1=>jL i m++(if T i (i+1+m)then kL s v T i (i+1+m) (v.length-(i+1+m+1))else [])
def iL:Nat->List (Nat×Nat×Nat)
 |0=>[]
 |i+1=>iL i++jL s v T i (v.length-(i+1))
variable {s v T}
theorem Dv{i j:Nat}:∀{m:Nat} {a b c:Nat},(a,b,c)∈kL s v T i j m↔a=i/\b=j/\j<c/\c<j+1+m/\T i c=true/\T j c=true/\gZ s v i j c=true
 |0,a,b,c=>by
  unfold kL;simp only[List.not_mem_nil,false_iff];omega
 |m+1,a,b,c=>by
  unfold kL;rw[List.mem_append,Dv];constructor
  ·rintro(⟨h1,h2,h3,h4,h5⟩|h)
   ·exact⟨h1,h2,h3,by omega,h5⟩
   ·split at h
    ·rename_i g;simp only[Bool.and_eq_true]at g;simp only[List.mem_singleton,Prod.mk.injEq]at h;obtain⟨rfl,rfl,rfl⟩:=h;exact⟨rfl,rfl,by omega,by omega,g.1,g.2.1,g.2.2⟩
    ·cases h
  ·rintro⟨h1,h2,h3,h4,h5,h6,h7⟩;by_cases g:c=j+1+m
   ·subst g h1 h2;right;rw[if_pos (by rw[h5,h6,h7];rfl)]
    simp
   ·exact .inl ⟨h1,h2,h3,by omega,h5,h6,h7⟩
theorem Px{i j:Nat}:∀m,(kL s v T i j m).Nodup
 |0=>List.nodup_nil
 |m+1=>by
  unfold kL;rw[List.nodup_append];refine⟨Px m,by split<;>simp,?_⟩
  rintro⟨a,b,c⟩ hp q hq e;subst e;have:=Dv.1 hp;split at hq
  ·simp only[List.mem_singleton,Prod.mk.injEq]at hq;omega
  ·cases hq
theorem Lc{i:Nat}:∀{m:Nat} {a b c:Nat},(a,b,c)∈jL s v T i m↔a=i/\i<b/\b<i+1+m/\b<c/\c<v.length/\T i b=true/\T i c=true/\T b c=true/\gZ s v i b c=true
 |0,a,b,c=>by
  unfold jL;simp only[List.not_mem_nil,false_iff];omega
 |m+1,a,b,c=>by
  unfold jL;rw[List.mem_append,Lc];constructor
  ·rintro(⟨h1,h2,h3,h4⟩|h)
   ·exact⟨h1,h2,by omega,h4⟩
   ·split at h
    ·rename_i g;obtain⟨h1,rfl,h3,h4,h5,h6,h7⟩:=Dv.1 h;exact⟨h1,by omega,by omega,h3,by omega,g,h5,h6,h7⟩
    ·cases h
  ·rintro⟨h1,h2,h3,h4,h5,h6,h7,h8,h9⟩;by_cases g:b=i+1+m
   ·subst g;right;rw[if_pos h6];exact Dv.2 ⟨h1,rfl,h4,by omega,h7,h8,h9⟩
   ·exact .inl ⟨h1,h2,by omega,h4,h5,h6,h7,h8,h9⟩
theorem Py{i:Nat}:∀m,(jL s v T i m).Nodup
 |0=>List.nodup_nil
 |m+1=>by
  unfold jL;rw[List.nodup_append];refine⟨Py m,by split;exact Px _;simp,?_⟩
  rintro⟨a,b,c⟩ hp q hq e;subst e;have:=Lc.1 hp;split at hq
  ·have:=Dv.1 hq;omega
  ·cases hq
theorem Tm:∀{n:Nat} {a b c:Nat},(a,b,c)∈iL s v T n↔a<n/\a<b/\b<c/\c<v.length/\T a b=true/\T a c=true/\T b c=true/\gZ s v a b c=true
 |0,a,b,c=>by
  unfold iL;simp only[List.not_mem_nil,false_iff];omega
 |n+1,a,b,c=>by
  unfold iL;rw[List.mem_append,Tm,Lc];constructor
  ·rintro(⟨h1,h2⟩|⟨rfl,h2,h3,h4,h5,h6⟩)
   ·exact⟨by omega,h2⟩
   ·exact⟨by omega,h2,h4,h5,h6⟩
  ·rintro⟨h1,h2,h3,h4,h5⟩;by_cases g:a=n
   ·subst g;exact .inr ⟨rfl,h2,by omega,h3,h4,h5⟩
   ·exact .inl ⟨by omega,h2,h3,h4,h5⟩
theorem Qc:∀n,(iL s v T n).Nodup
 |0=>List.nodup_nil
 |n+1=>by
  unfold iL;rw[List.nodup_append];refine⟨Qc n,Py _,?_⟩;rintro⟨a,b,c⟩ hp q hq e;subst e;have:=Tm.1 hp;have:=Lc.1 hq;omega
end
theorem Rr{l:List S}{a b:V}:yL l a b=true↔rG l a b:=by
 unfold yL rG;rw[List.any_eq_true];constructor
 ·rintro⟨e,he,h⟩;simp only[Bool.or_eq_true,Bool.and_eq_true,beq_iff_eq]at h;rcases h with⟨h1,h2⟩|⟨h1,h2⟩
  ·left;rw[<-h1,<-h2];exact he
  ·right;rw[<-h1,<-h2];exact he
 ·rintro(h|h)
  ·exact⟨_,h,by simp⟩
  ·exact⟨_,h,by simp⟩
section
variable {s:Shape} {v:List V} {T:Tab}
theorem aIa{D:List S}(hT:∀i k,i<v.length->k<v.length->(T i k=true↔sides s D (nth v i) (nth v k))):Idx s D v (iL s v T v.length):=by
 refine⟨Qc _,fun i j k=> ?_⟩
 rw[Tm];constructor
 ·rintro⟨h1,h2,h3,h4,h5,h6,h7,h8⟩;exact⟨h2,h3,h4,(hT _ _ (by omega) (by omega)).1 h5,(hT _ _ (by omega) (by omega)).1 h6,(hT _ _ (by omega) (by omega)).1 h7,h8⟩
 ·rintro⟨h2,h3,h4,h5,h6,h7,h8⟩;exact⟨by omega,h2,h3,h4,(hT _ _ (by omega) (by omega)).2 h5,(hT _ _ (by omega) (by omega)).2 h6,(hT _ _ (by omega) (by omega)).2 h7,h8⟩
end
end Go.Proofs.YtdaeofhdgabhjaaGreat.Geo
namespace Go.Proofs.YtdaeofhdgabhjaaGreat
open Go.RowKit
def trq(v:List Geo.V)(q:Nat×Nat×Nat):Geo.aC:=Geo.kA (Geo.nth v q.1) (Geo.nth v q.2.1) (Geo.nth v q.2.2)
theorem Xx(s:Geo.Shape)(v:List Geo.V)(T:Geo.Tab)(i j:Nat)(acc:List Geo.aC):∀m,Di s v T i j acc m=acc++(Geo.kL s v T i j m).map (trq v)
 |0=>(List.append_nil _).symm
 |m+1=>by
  unfold Di Id Geo.kL;rw[Xx s v T i j acc m,List.map_append];split<;>simp[trq]
theorem Xy(s:Geo.Shape)(v:List Geo.V)(T:Geo.Tab)(i:Nat)(acc:List Geo.aC):∀m,Ch s v T i acc m=acc++(Geo.jL s v T i m).map (trq v)
 |0=>(List.append_nil _).symm
 |m+1=>by
  unfold Ch Geo.jL;rw[Xy s v T i acc m,List.map_append];split
  ·rw[Xx,List.append_assoc]
  ·simp
theorem Yb(s:Geo.Shape)(v:List Geo.V)(T:Geo.Tab):∀n,kC s v T n=(Geo.iL s v T n).map (trq v)
 |0=>rfl
 |n+1=>by
  unfold kC Geo.iL;rw[Xy,Yb s v T n,List.map_append]
theorem aCF{s:Geo.Shape}(h:Geo.bD s=true){i k:Nat}(hi:i<(vOf s).length)(hk:k<(vOf s).length):tT s i k=true↔Geo.sides s (Geo.rI s (vOf s)) (Geo.nth (vOf s) i) (Geo.nth (vOf s) k):=by
 rw[<-aL6 h hi hk,Geo.Rr,yQ h];unfold Geo.sides Geo.rG;rw[List.mem_append,List.mem_append,List.mem_append,List.mem_append,or_comm (a:=_∈Geo.rI s (vOf s)),or_comm (a:=_∈Geo.rI s (vOf s))]
theorem yV{s:Geo.Shape}(h:Geo.bD s=true):(vOf s).Perm (Geo.bJ s):=by rw[Lo h];exact Geo.kO s
theorem aB7{s:Geo.Shape}(h:Geo.bD s=true):(tOf s).Perm ((Geo.iL s (vOf s) (tT s) (vOf s).length).map (trq (vOf s))):=by
 unfold tOf;rw[if_pos h];unfold aA6;rw[<-Yb];exact Geo.lV _
end Go.Proofs.YtdaeofhdgabhjaaGreat
namespace Go.Proofs.YtdaeofhdgabhjaaGreat.Geo
def T3.ring(t:T3):aC:=[t.a,t.b,t.c]
def aDH(r:aC):T3:=⟨nth r 0,nth r 1,nth r 2⟩
def Rt(t u:T3):Prop:=t=u\/t=u.rot\/t=u.rot.rot
theorem aIk(t:T3):∃u:T3,Rt u t/\dP t.ring=u.ring:=by
 have h:=iI (r:=t.ring) (by simp[T3.ring])
 unfold dP;generalize cH t.ring=n at h;match n,h with
 |0,_=>exact⟨t,.inl rfl,rfl⟩
 |1,_=>exact⟨t.rot,.inr (.inl rfl),rfl⟩
 |2,_=>exact⟨t.rot.rot,.inr (.inr rfl),rfl⟩
def bgn(t:T3):T3:=aDH (dP t.ring)
theorem aBQ(t:T3):Rt (bgn t) t/\dP t.ring=(bgn t).ring:=by
 obtain⟨u,h1,h2⟩:=aIk t;have:bgn t=u:=by unfold bgn;rw[h2];rfl
 rw[this];exact⟨h1,h2⟩
theorem Rt.symm{t u:T3}(h:Rt t u):Rt u t:=by
 rcases h with rfl|rfl|rfl
 ·exact .inl rfl
 ·exact .inr (.inr rfl)
 ·exact .inr (.inl rfl)
theorem Rt.trans{t u w:T3}(h:Rt t u)(g:Rt u w):Rt t w:=by
 rcases h with rfl|rfl|rfl<;>rcases g with rfl|rfl|rfl
 ·exact .inl rfl
 ·exact .inr (.inl rfl)
 ·exact .inr (.inr rfl)
 ·exact .inr (.inl rfl)
 ·exact .inr (.inr rfl)
 ·exact .inl rfl
 ·exact .inr (.inr rfl)
 ·exact .inl rfl
 ·exact .inr (.inl rfl)
section
variable {W:List V} {side:V->V->Prop} {ins:P3->Bool}
theorem Tri.rt{t u:T3}(h:Tri W side ins t.a t.b t.c)(g:Rt u t):Tri W side ins u.a u.b u.c:=by
 rcases g with rfl|rfl|rfl
 ·exact h
 ·exact h.rot
 ·exact h.rot.rot
theorem Ti{t u:T3}:¬Rt t u↔(t≠u/\t≠u.rot/\t≠u.rot.rot):=by unfold Rt;simp only[not_or]
theorem All3.rots{TL:List T3}(A:All3 W side ins TL){f:T3->T3}(hf:∀t,Rt (f t) t):All3 W side ins (TL.map f):=by
 refine⟨fun t ht=> ?_,fun a b c h=> ?_,?_⟩
 ·obtain⟨u,hu,rfl⟩:=List.mem_map.1 ht;exact(A.tri u hu).rt (hf u)
 ·have key:∀u:T3,u∈TL->Rt u ⟨a,b,c⟩->(⟨a,b,c⟩:T3)∈TL.map f\/(⟨b,c,a⟩:T3)∈TL.map f\/(⟨c,a,b⟩:T3)∈TL.map f:=fun u hu hr=>by
   have m:=List.mem_map_of_mem (f:=f) hu;rcases(hf u).trans hr with e|e|e
   ·rw[e]at m;exact .inl m
   ·rw[e]at m;exact .inr (.inl m)
   ·rw[e]at m;exact .inr (.inr m)
  rcases A.all a b c h with h|h|h
  ·exact key _ h (.inl rfl)
  ·exact key _ h (.inr (.inl rfl))
  ·exact key _ h (.inr (.inr rfl))
 ·rw[List.pairwise_map];refine A.once.imp fun{t u} h=> ?_
  rw[<-Ti]at h|-;exact fun g=>h (((hf t).symm.trans g).trans (hf u))
theorem All3.perm'{TL TM:List T3}(A:All3 W side ins TL)(p:TL.Perm TM):All3 W side ins TM:=by
 refine⟨fun t ht=>A.tri t (p.mem_iff.2 ht),fun a b c h=> ?_,?_⟩
 ·simp only[<-p.mem_iff];exact A.all a b c h
 ·refine(p.pairwise_iff fun{t u} h=> ?_).1 A.once
  rw[<-Ti]at h|-;exact fun g=>h g.symm
theorem aMe{a b c x y z:V}(hab:a≠b)(hbc:b≠c)(hca:c≠a)(ha:a=x\/a=y\/a=z)(hb:b=x\/b=y\/b=z)(hc:c=x\/c=y\/c=z)(h1:0<ev (lin a b) (pt c))(h2:0<ev (lin x y) (pt z)):Rt ⟨a,b,c⟩ ⟨x,y,z⟩:=by
 rcases ha with rfl|rfl|rfl<;>rcases hb with rfl|rfl|rfl<;>rcases hc with rfl|rfl|rfl
 all_goals first|exact absurd rfl ‹_› |exact .inl rfl|exact .inr (.inl rfl)|exact .inr (.inr rfl)|skip
 all_goals exfalso;unfold ev lin pt at h1 h2;grind
theorem aEG(N:Net W side){t u:T3}(ht:Tri W side ins t.a t.b t.c)(hu:Tri W side ins u.a u.b u.c){p q:P3}(hp:In [lin t.a t.b,lin t.b t.c,lin t.c t.a] p)(hpu:In [lin u.a u.b,lin u.b u.c,lin u.c u.a] p)
  (hq:In [lin t.a t.b,lin t.b t.c,lin t.c t.a] q):∀g∈[lin u.a u.b,lin u.b u.c,lin u.c u.a],0<ev g q:=by
 have P:=aB0 (u:=u.a) (v:=u.b) (w:=u.c) (by rw[<-jW];exact hu.left)
 obtain⟨m,n,hm,hn,hmn,h1,h2⟩:=aG9 p q hp.1 hq.1 _ hpu.2;rcases h2 with h2|h2
 ·exfalso;have hd:0<(cmb m p n q).d:=by
   show 0<m*p.d+n*q.d;have a1:=Int.mul_nonneg hm (Int.le_of_lt hp.1);have a2:=Int.mul_nonneg hn (Int.le_of_lt hq.1);rcases Int.lt_or_le 0 m with h|h
   ·have:=Int.mul_pos h hp.1;omega
   ·have:=Int.mul_pos (show 0<n by omega) hq.1;omega
  obtain⟨s,hs,x,y,k,hx,hy,hk,e⟩:=P.side _ hd h2 h1;have hside:side s.a s.b:=by
   simp only[List.mem_cons,List.not_mem_nil,or_false]at hs;rcases hs with rfl|rfl|rfl
   ·exact hu.ab
   ·exact hu.bc
   ·exact hu.ca
  have pos:∀f∈[lin t.a t.b,lin t.b t.c,lin t.c t.a],0<ev f (cmb m p n q):=fun f hf=>by
   rw[aM];have a1:=Int.mul_nonneg hm (Int.le_of_lt (hp.2 f hf));have a2:=Int.mul_nonneg hn (Int.le_of_lt (hq.2 f hf));rcases Int.lt_or_le 0 m with h|h
   ·have:=Int.mul_pos h (hp.2 f hf);omega
   ·have:=Int.mul_pos (show 0<n by omega) (hq.2 f hf);omega
  have hxy:0<x+y:=by
   refine Classical.byContradiction fun h=> ?_
   have e1:=e (lin t.a t.b);have e2:=Int.mul_pos hk (pos (lin t.a t.b) (by simp))
   rw[show x=0 by omega,show y=0 by omega,Int.zero_mul,Int.zero_mul]at e1;omega
  obtain⟨f,hf,g⟩:=ht.free N s.a s.b hside x y hx hy hxy;have e2:=Int.mul_pos hk (pos f hf);rw[e f]at e2;change x*ev f (pt s.a)+y*ev f (pt s.b)<=0 at g;omega
 ·exact h2.2
theorem aAe{A B:Int}(h:∀n:Int,0<=n->0<n*A+B):0<=A:=by
 refine Classical.byContradiction fun g=> ?_
 have:=h (B.natAbs) (by omega)
 have h2:(B.natAbs:Int)*A<=(B.natAbs:Int)*(-1):=Int.mul_le_mul_of_nonneg_left (by omega) (by omega)
 omega
theorem Be(N:Net W side){t u:T3}(ht:Tri W side ins t.a t.b t.c)(hu:Tri W side ins u.a u.b u.c){p:P3}(hp:In [lin t.a t.b,lin t.b t.c,lin t.c t.a] p)(hpu:In [lin u.a u.b,lin u.b u.c,lin u.c u.a] p):
  t.a=u.a\/t.a=u.b\/t.a=u.c:=by
 have e:∀x y z:V,ev (lin x y) (pt z)=ev (lin y z) (pt x):=fun u v w=>by unfold ev lin pt;grind
 have hl:=ht.left;have key:∀g∈[lin u.a u.b,lin u.b u.c,lin u.c u.a],0<=ev g (pt t.a):=fun g hg=>by
  refine aAe (B:=ev g p) fun n hn=> ?_
  have:=aEG N ht hu hp hpu (q:=cmb n (pt t.a) 1 p) ⟨by show 0<n*1+1*p.d;have:=hp.1;omega,fun f hf=> ?_⟩ g hg
  ·rw[aM]at this;omega
  ·have h0:0<=ev f (pt t.a):=by
    simp only[List.mem_cons,List.not_mem_nil,or_false]at hf;rcases hf with rfl|rfl|rfl
    ·rw[bB];exact Int.le_refl _
    ·rw[<-e];omega
    ·rw[bR];exact Int.le_refl _
   have h1:=hp.2 f hf;have h2:=Int.mul_nonneg hn h0;rw[aM];omega
 exact hu.empty _ (N.mem ht.ab) (key _ (by simp)) (key _ (by simp)) (key _ (by simp))
theorem aEr(N:Net W side){t u:T3}(ht:Tri W side ins t.a t.b t.c)(hu:Tri W side ins u.a u.b u.c){p:P3}(hp:In [lin t.a t.b,lin t.b t.c,lin t.c t.a] p)(hpu:In [lin u.a u.b,lin u.b u.c,lin u.c u.a] p):Rt t u:=by
 have i:∀{x y z:V},In [lin x y,lin y z,lin z x] p->In [lin y z,lin z x,lin x y] p:=fun h=>⟨h.1,fun f hf=>h.2 f (by simp only[List.mem_cons,List.not_mem_nil,or_false]at hf|-;rcases hf with h|h|h<;>simp[h])⟩
 exact aMe (N.ne ht.ab) (N.ne ht.bc) (N.ne ht.ca) (Be N ht hu hp hpu) (Be (t:=t.rot) N ht.rot hu (i hp) hpu) (Be (t:=t.rot.rot) N ht.rot.rot hu (i (i hp)) hpu) ht.left hu.left
end
end Go.Proofs.YtdaeofhdgabhjaaGreat.Geo
namespace Go.Proofs.YtdaeofhdgabhjaaGreat.Geo
theorem xD(t:T3):edges t.ring=t.sides:=rA _ _ _
theorem Bv:∀TL:List T3,(TL.map T3.ring).flatMap edges=TL.flatMap T3.sides
 |[] =>rfl
 |t::TL=>by rw[List.map_cons,List.flatMap_cons,List.flatMap_cons,Bv TL,xD]
section
variable {s:Shape} {D:List S}
theorem sP(T:Tg s D){t:T3}(h:Tri (bJ s) (sides s D) (fH s) t.a t.b t.c):cB t.ring=true:=by
 have N:=T.filled.net;exact(zX (If (eI T.vs (N.mem h.ab)) (eI T.vs (N.mem h.bc)) (eI T.vs (N.mem h.ca)))).2 (yW.2 h.left)
theorem Om{W:List V}{side:V->V->Prop}{ins:P3->Bool}{t:T3}(h:Tri W side ins t.a t.b t.c){e:S}(he:e∈t.sides):side e.a e.b:=by
 rcases oW.1 he with⟨h1,h2⟩|⟨h1,h2⟩|⟨h1,h2⟩<;>rw[h1,h2]
 ·exact h.ab
 ·exact h.bc
 ·exact h.ca
theorem Ub(T:Tg s D){TL:List T3}(A:All3 (bJ s) (sides s D) (fH s) TL):((TL.map T3.ring).flatMap edges).Perm (Dj (Ks s) D):=by
 rw[Bv];exact A.perm T.filled (Hc T (Vi T) fun e he=>((Fc T e).1 he).1) (Fb T (Fc T))
theorem aBY(T:Tg s D){v:List V}(hv:∀x,x∈v↔x∈bJ s)(hn:v.Nodup){L:List (Nat×Nat×Nat)}(I:Idx s D v L){R:List aC}(p:R.Perm (L.map fun q=>kA (nth v q.1) (nth v q.2.1) (nth v q.2.2))):
  ∃TL,All3 (bJ s) (sides s D) (fH s) TL/\R=TL.map T3.ring:=by
 have N:=T.filled.net;have e:(L.map fun q=>kA (nth v q.1) (nth v q.2.1) (nth v q.2.2))=((L.map (wK v)).map bgn).map T3.ring:=by
  rw[List.map_map,List.map_map];refine List.map_congr_left fun q hq=> ?_
  obtain⟨i,j,k⟩:=q;obtain⟨h1,h2,h3,sij,sik,sjk,he⟩:=(I.mem i j k).1 hq;have na:=eI T.vs (N.mem sij);have nb:=eI T.vs (N.mem sjk);have nc:=eI T.vs (N.mem (N.symm sjk));have ht:turn (nth v i) (nth v j) (nth v k)≠0:=by
   unfold gZ at he;rw[Bool.and_eq_true,Bool.and_eq_true,bne_iff_ne]at he;exact he.1.1
  show kA (nth v i) (nth v j) (nth v k)=(bgn (mL (nth v i) (nth v j) (nth v k))).ring;rw[<-(aBQ _).2];unfold kA cX mL;by_cases g:turn (nth v i) (nth v j) (nth v k)<0
  ·rw[if_pos g,if_pos g,if_pos ((zX (If na nc nb)).2 (by rw[oT];omega))];rfl
  ·rw[if_neg g,if_neg g,if_pos ((zX (If na nb nc)).2 (by omega))];rfl
 rw[e]at p;have q:=p.map aDH;rw[List.map_map,show(aDH∘T3.ring)=id from rfl,List.map_id]at q
 refine⟨R.map aDH,((I.all3 T hv hn).rots fun t=>(aBQ t).1).perm' q.symm,?_⟩
 rw[List.map_map]
 conv=>lhs;rw[<-List.map_id R]
 refine List.map_congr_left fun r hr=> ?_
 obtain⟨t,_,rfl⟩:=List.mem_map.1 (p.mem_iff.1 hr);rfl
end
end Go.Proofs.YtdaeofhdgabhjaaGreat.Geo
namespace Go.Proofs.YtdaeofhdgabhjaaGreat
open Go.RowKit
theorem aBF{s:Geo.Shape}(h:Geo.bD s=true):Geo.Tg s (dOf s):=by
 rw[yQ h];exact Geo.aFT (vsR h) (fun x=>(yV h).mem_iff) ((yV h).nodup_iff.2 (vsR h).nodup)
theorem Pw{s:Geo.Shape}(h:Geo.bD s=true):∃TL,Geo.All3 (Geo.bJ s) (Geo.sides s (dOf s)) (Geo.fH s) TL/\tOf s=TL.map Geo.T3.ring:=by
 refine Geo.aBY (aBF h) (v:=vOf s) (fun x=>(yV h).mem_iff) ((yV h).nodup_iff.2 (vsR h).nodup) (Geo.aIa fun i k hi hk=> ?_) (aB7 h)
 rw[yQ h];exact aCF h hi hk
end Go.Proofs.YtdaeofhdgabhjaaGreat
namespace Go.Proofs.YtdaeofhdgabhjaaGreat.Geo
def Bet(q:P3)(a b:V):Prop:=∃x y k:Int,0<=x/\0<=y/\0<k/\cmb x (pt a) y (pt b)=cmb k q 0 q
theorem Bet.swap{q:P3}{a b:V}(h:Bet q a b):Bet q b a:=by
 obtain⟨x,y,k,h1,h2,h3,h4⟩:=h;exact⟨y,x,k,h2,h1,h3,by rw[gP];exact h4⟩
theorem lQ{e:S}{q:Pt}(hq:0<q.den)(hne:e.a≠e.b):onP e q=true↔Bet (p3 q) e.a e.b:=by
 constructor
 ·intro h;obtain⟨x,y,k,h1,h2,h3,_,h5⟩:=Kz hq hne h;exact⟨x,y,k,h1,h2,h3,by rw[h5];unfold cmb p3;simp⟩
 ·rintro⟨x,y,k,h1,h2,h3,h4⟩;have hx:x*e.a.x+y*e.b.x=k*q.x:=by have:=congrArg P3.x h4;simpa[cmb,pt,p3]using this
  have hy:x*e.a.y+y*e.b.y=k*q.y:=by have:=congrArg P3.y h4;simpa[cmb,pt,p3]using this
  have hd:x+y=k*q.den:=by have:=congrArg P3.d h4;simpa[cmb,pt,p3]using this
  have box:∀u v w:Int,x*u+y*v=k*w->min u v*q.den<=w/\w<=max u v*q.den:=fun u v w h=>by
   have l1:=Int.mul_le_mul_of_nonneg_left (Int.min_le_left u v) h1;have l2:=Int.mul_le_mul_of_nonneg_left (Int.min_le_right u v) h2;have l3:=Int.mul_le_mul_of_nonneg_left (Int.le_max_left u v) h1;have l4:=Int.mul_le_mul_of_nonneg_left (Int.le_max_right u v) h2;have e1:k*(min u v*q.den)=(x+y)*min u v:=by rw[hd];grind
   have e2:k*(max u v*q.den)=(x+y)*max u v:=by rw[hd];grind
   rw[Int.add_mul]at e1 e2;exact⟨Int.le_of_mul_le_mul_left (by omega) h3,Int.le_of_mul_le_mul_left (by omega) h3⟩
  rw[aBe e q hq];unfold onR;simp only[Bool.and_eq_true,decide_eq_true_eq,beq_iff_eq,kI];refine⟨⟨⟨⟨(box _ _ _ hx).1,(box _ _ _ hx).2⟩,(box _ _ _ hy).1⟩,(box _ _ _ hy).2⟩,?_⟩;have h0:ev (lin e.a e.b) (p3 q)=0:=by
   have:=congrArg (ev (lin e.a e.b)) h4;rw[aM,aM,bB,bR]at this;rcases Int.mul_eq_zero.1 (show k*ev (lin e.a e.b) (p3 q)=0 by omega)with h|h
   ·omega
   ·exact h
  rw[<-h0];unfold fK cross sub toV ev lin p3;grind
theorem aBR{a b c:V}(hab:a≠b){x y k:Int}(h:cmb x (pt a) y (pt b)=cmb k (pt c) 0 (pt c))(_hk:0<k):(c=a->y=0)/\(c=b->x=0):=by
 have hx:x*a.x+y*b.x=k*c.x:=by have:=congrArg P3.x h;simpa[cmb,pt]using this
 have hy:x*a.y+y*b.y=k*c.y:=by have:=congrArg P3.y h;simpa[cmb,pt]using this
 have hd:x+y=k:=by have:=congrArg P3.d h;simpa[cmb,pt]using this
 constructor
 ·rintro rfl;have e1:y*(b.x-c.x)=0:=by rw[<-hd]at hx;grind
  have e2:y*(b.y-c.y)=0:=by rw[<-hd]at hy;grind
  rcases Int.mul_eq_zero.1 e1 with h|h
  ·exact h
  rcases Int.mul_eq_zero.1 e2 with g|g
  ·exact g
  ·exact absurd (by cases b;cases c;simp only[V.mk.injEq]at*;omega) hab
 ·rintro rfl;have e1:x*(a.x-c.x)=0:=by rw[<-hd]at hx;grind
  have e2:x*(a.y-c.y)=0:=by rw[<-hd]at hy;grind
  rcases Int.mul_eq_zero.1 e1 with h|h
  ·exact h
  rcases Int.mul_eq_zero.1 e2 with g|g
  ·exact g
  ·exact absurd (by cases a;cases c;simp only[V.mk.injEq]at*;omega) hab
theorem Da(x y:Int)(p q:P3)(h:y=0):cmb x p y q=cmb x p 0 p:=by subst h;unfold cmb;simp
theorem Fe(x y:Int)(p q:P3)(h:x=0):cmb x p y q=cmb y q 0 q:=by subst h;unfold cmb;simp
theorem yC{m x y k:Int}{p q z:P3}(h:cmb x p y q=cmb k z 0 z):cmb (m*x) p (m*y) q=cmb (m*k) z 0 z:=by
 unfold cmb at h|-;simp only[P3.mk.injEq]at h|-;obtain⟨h1,h2,h3⟩:=h;refine⟨?_,?_,?_⟩
 ·have:=congrArg (fun n=>m*n) h1;grind
 ·have:=congrArg (fun n=>m*n) h2;grind
 ·have:=congrArg (fun n=>m*n) h3;grind
theorem aBp{W:List V}{side:V->V->Prop}(N:Net W side){a b c d:V}{z:P3}(hz:0<z.d)(hab:side a b)(hcd:side c d)(h:Bet z a b)(g:Bet z c d):
  ((a=c/\b=d)\/(a=d/\b=c))\/(∃k m:Int,0<k/\0<m/\(cmb m (pt a) 0 (pt a)=cmb k z 0 z\/cmb m (pt b) 0 (pt b)=cmb k z 0 z)):=by
 obtain⟨x,y,k,hx,hy,hk,e⟩:=h;obtain⟨x',y',k',hx',hy',hk',e'⟩:=g;have pd:∀{m k:Int} {v:V},0<k->cmb m (pt v) 0 (pt v)=cmb k z 0 z->0<m:=fun{m k v} hk h=>by
  have:=congrArg P3.d h;simp only[cmb,pt]at this;have:=Int.mul_pos hk hz;omega
 by_cases c1:x=0
 ·rw[Fe _ _ _ _ c1]at e;exact .inr ⟨k,y,hk,pd hk e,.inr e⟩
 by_cases c2:y=0
 ·rw[Da _ _ _ _ c2]at e;exact .inr ⟨k,x,hk,pd hk e,.inl e⟩
 have vert:∀v,v∈W->∀m,cmb m (pt v) 0 (pt v)=cmb k' z 0 z->∃k m:Int,0<k/\0<m/\(cmb m (pt a) 0 (pt a)=cmb k z 0 z\/cmb m (pt b) 0 (pt b)=cmb k z 0 z):=fun v hv m hm=>by
  have e2:cmb (k'*x) (pt a) (k'*y) (pt b)=cmb (k*m) (pt v) 0 (pt v):=by
   rw[yC e,Int.mul_comm k' k,<-yC (m:=k) (k:=k') (x:=m) (y:=0) hm,Int.mul_zero]
  have hm0:=pd hk' hm;rcases N.clear hab hv (k'*x) (k'*y) (k*m) (mpp (by omega) hx) (mpp (by omega) hy) e2 (Int.mul_pos hk hm0)with h|h
  ·exact⟨k',m,hk',hm0,.inl (by rw[<-h];exact hm)⟩
  ·exact⟨k',m,hk',hm0,.inr (by rw[<-h];exact hm)⟩
 by_cases c3:x'=0
 ·rw[Fe _ _ _ _ c3]at e';exact .inr (vert d (N.mem (N.symm hcd)) _ e')
 by_cases c4:y'=0
 ·rw[Da _ _ _ _ c4]at e';exact .inr (vert c (N.mem hcd) _ e')
 refine .inl (N.apart hab hcd (k'*x) (k'*y) (k*x') (k*y') (Int.mul_pos hk' (by omega)) (Int.mul_pos hk' (by omega)) (Int.mul_pos hk (by omega)) (Int.mul_pos hk (by omega)) ?_)
 rw[yC e,yC e',Int.mul_comm]
section
variable {s:Shape} {D:List S}
theorem Pq(T:Tg s D){r q:aC}(hr:r∈aG s)(hq:q∈aG s)(hrq:r≠q){e d:S}(he:e∈edges r)(hd:d∈edges q){z:P3}(hz:0<z.d)(h:Bet z e.a e.b)(g:Bet z d.a d.b):False:=by
 have N:=T.segs.net;obtain⟨h1,h2⟩:=dX he;have o1:=nG T hr hq hrq h1 hd;have o2:=nG T hr hq hrq h2 hd;have vert:∀v,v∈r->v≠d.a/\v≠d.b->∀k m:Int,0<k->0<m->cmb m (pt v) 0 (pt v)=cmb k z 0 z->False:=fun v hv ho k m hk hm e=>by
  obtain⟨x,y,k',hx,hy,hk',e'⟩:=g;rcases N.clear (lF hq hd) (oV hr hv) (k*x) (k*y) (k'*m) (mpp (by omega) hx) (mpp (by omega) hy) (by rw[yC e',Int.mul_comm k k',<-yC e,Int.mul_zero]) (Int.mul_pos hk' hm)with h|h
  ·exact ho.1 h
  ·exact ho.2 h
 rcases aBp N hz (lF hr he) (lF hq hd) h g with h|⟨k,m,hk,hm,h|h⟩
 ·rcases h with⟨h,_⟩|⟨h,_⟩
  ·exact o1.1 h
  ·exact o1.2 h
 ·exact vert _ h1 o1 k m hk hm h
 ·exact vert _ h2 o2 k m hk hm h
theorem aE2{a b:V}{q:P3}(h:Bet q a b){s t:Int}{z:P3}(hs:0<=s)(ht:0<=t)(e:z=cmb s (pt a) t q):Bet z a b:=by
 obtain⟨x,y,k,hx,hy,hk,g⟩:=h;refine⟨k*s+t*x,t*y,k,?_,mpp ht hy,hk,?_⟩
 ·have:=mpp (Int.le_of_lt hk) hs;have:=mpp ht hx;omega
 ·subst e;unfold cmb at g|-;simp only[P3.mk.injEq]at g|-;obtain⟨g1,g2,g3⟩:=g;refine⟨?_,?_,?_⟩<;>simp only[pt]at* <;>grind
theorem Fr(h:VS s)(q:Pt):eJ s q=fW q s.holes (aP s.outer q):=by
 unfold eJ;rw[<-mB,(fR s).2 h,<-Qd,<-yU];rfl
theorem uM{q:Pt}:eJ s q=2↔dA s q=2:=by
 have:=Fq s q;rw[Bool.eq_iff_iff,beq_iff_eq,beq_iff_eq]at this;exact this.symm
theorem Lw(T:Tg s D){q:Pt}(hq:cF q=true)(hqd:0<q.den){e:S}(he:e∈aQ s)(ho:onP e q=true):eJ s q≠0:=by
 have h:=T.vs;have b:=(lQ hqd (h.lS he)).1 ho;obtain⟨r,hr,he'⟩:=List.mem_flatMap.1 he;have one:aP r q=1:=by
  unfold aP;rw[(cL _).2 (h.ring hr),hq];exact sI ⟨e,he',ho⟩
 have same:∀q'∈aG s,r≠q'->aP q' q=if dV q' (pt e.a)then 2 else 0:=fun q' hq' hne=>by
  rw[mA (h.ring hq') hq fun d hd=> ?_]
  ·rw[pQ (p:=p3 q) (q:=pt e.a) (by have:=(h.ring hq').three;omega) hqd (show(0:Int)<1 by decide) fun d hd hm=> ?_]
   obtain⟨x,y,s',t',hx,hy,hxy,hs,ht,g⟩:=hm;have hzd:0<(cmb x (pt d.a) y (pt d.b)).d:=by show 0<x*1+y*1;omega
   exact Pq T hr hq' hne he' hd hzd (aE2 b ht hs (by rw[g,gP])) ⟨x,y,1,hx,hy,by omega,by unfold cmb;simp⟩
  ·refine Bool.eq_false_iff.2 fun hd'=> ?_
   exact Pq T hr hq' hne he' hd hqd b ((lQ hqd ((h.ring hq').lS hd)).1 hd')
 rw[Fr h];obtain⟨ha,_⟩:=dX he';have hol:∀w:Int,w≠0->∀l:List aC,(∀q'∈l,q'∈s.holes)->fW q l w≠0:=fun w hw l=>by
  induction l with
  |nil=>intro _;unfold fW;exact hw
  |cons q' l ih=>
   intro hl;unfold fW;have hq':=hl q' List.mem_cons_self;have hq'':q'∈aG s:=List.mem_cons_of_mem _ hq';have n2:aP q' q≠2:=by
    by_cases e1:r=q'
    ·rw[<-e1];omega
    ·rw[same q' hq'' e1];have:dV q' (pt e.a)=false:=by
      rcases List.mem_cons.1 hr with e2|e2
      ·rw[e2]at ha;exact Ji T hq' ha
      ·exact Qe T e2 hq' e1 ha
     rw[this];simp
   rw[if_neg n2];split
   ·omega
   ·exact ih fun q' hq'=>hl q' (List.mem_cons_of_mem _ hq')
 rcases List.mem_cons.1 hr with e1|e1
 ·rw[<-e1,one];exact hol 1 (by decide) _ fun _ h=>h
 ·have:aP s.outer q=2:=by
   rw[same _ List.mem_cons_self (yM T e1),aBH h.outer (eI h (oV hr ha)) (Mb T e1 ha)];rfl
  rw[this];exact hol 2 (by decide) _ fun _ h=>h
theorem Xm(T:Tg s D){q:Pt}(hq:cF q=true)(hqd:0<q.den){d:S}(hd:d∈D)(ho:onP d q=true):eJ s q≠0:=by
 have h:=T.vs;have N:=T.segs.net;obtain⟨d1,d2,d3⟩:=T.ends d hd;by_cases hc:∃e∈aQ s,onP e q=true
 ·obtain⟨e,he,ho⟩:=hc;exact Lw T hq hqd he ho
 have hn:∀e∈aQ s,onP e q=false:=fun e he=>Bool.eq_false_iff.2 fun g=>hc ⟨e,he,g⟩
 have sd:sides s D d.a d.b:= .inl (List.mem_append_right _ hd);obtain⟨x,y,k,hx,hy,hk,g⟩:=(lQ hqd d3).1 ho;have vert:∀v∈bJ s,∀k m:Int,0<k->0<m->cmb m (pt v) 0 (pt v)=cmb k (p3 q) 0 (p3 q)->False:=fun v hv k m hk hm e=>by
  obtain⟨r,hr,hv⟩:=List.mem_flatten.1 hv;obtain⟨i,hi,rfl⟩:=fU.1 hv;have he:=yP (h.ring hr) hi;have hes:cO r i∈aQ s:=List.mem_flatMap.2 ⟨r,hr,he⟩;have:=hn _ hes;rw[(lQ hqd (h.lS hes)).2 ⟨m,0,k,by omega,by omega,hk,by rw[Da _ _ _ _ rfl];exact e⟩]at this
  cases this
 have hxy:0<x/\0<y:=by
  have hd':x+y=k*q.den:=by have:=congrArg P3.d g;simpa[cmb,pt,p3]using this
  have:=Int.mul_pos hk hqd;constructor
  ·refine Classical.byContradiction fun c=> ?_
   rw[Fe _ _ _ _ (show x=0 by omega)]at g
   exact vert _ d2 k y hk (by omega) g
  ·refine Classical.byContradiction fun c=> ?_
   rw[Da _ _ _ _ (show y=0 by omega)]at g
   exact vert _ d1 k x hk (by omega) g
 have:fH s (p3 q)=fH s (xS d):=by
  refine Ex h hqd (by show(0:Int)<1*1+1*1;decide) fun e he hm=> ?_
  obtain⟨x',y',s',t',hx',hy',hxy',hs,ht,g'⟩:=hm;have hzd:0<(cmb x' (pt e.a) y' (pt e.b)).d:=by show 0<x'*1+y'*1;omega
  have hpos:0<s'+t':=by
   refine Classical.byContradiction fun c=> ?_
   rw[g',show s'=0 by omega,show t'=0 by omega]at hzd
   have:(cmb 0 (p3 q) 0 (xS d)).d=0:=by unfold cmb;simp
   omega
  have gz:cmb (s'*x+k*t') (pt d.a) (s'*y+k*t') (pt d.b)=cmb k (cmb x' (pt e.a) y' (pt e.b)) 0 (cmb x' (pt e.a) y' (pt e.b)):=by
   rw[g'];unfold xS;unfold cmb at g|-;simp only[P3.mk.injEq]at g|-;obtain⟨g1,g2,g3⟩:=g;refine⟨?_,?_,?_⟩<;>grind
  have pw:∀w:Int,0<w->0<s'*w+k*t':=fun w hw=>by
   have a1:=mpp hs (Int.le_of_lt hw);have a2:=mpp (Int.le_of_lt hk) ht;rcases Int.lt_or_le 0 s' with c|c
   ·have:=Int.mul_pos c hw;omega
   ·have:=Int.mul_pos hk (show 0<t' by omega);omega
  have p1:=pw x hxy.1;have p2:=pw y hxy.2;rcases aBp N hzd sd (.inl (List.mem_append_left _ he):sides s D e.a e.b) ⟨_,_,k,by omega,by omega,hk,gz⟩ ⟨x',y',1,hx',hy',by omega,by unfold cmb;simp⟩with c|⟨m,n,hm,hn',c⟩
  ·have:=nF T hd he;rcases c with⟨c1,c2⟩|⟨c1,c2⟩
   ·exact this.1 (by cases e;cases d;simp_all)
   ·exact this.2 (by cases e;cases d;unfold swp;simp_all)
  ·have e2:=yC (m:=m) gz;rcases c with c|c
   ·rw[Int.mul_comm m k,<-yC c,Int.mul_zero]at e2;have:=(aBR d3 e2 (Int.mul_pos hk hn')).1 rfl;have:=Int.mul_pos hm p2;omega
   ·rw[Int.mul_comm m k,<-yC c,Int.mul_zero]at e2;have:=(aBR d3 e2 (Int.mul_pos hk hn')).2 rfl;have:=Int.mul_pos hm p1;omega
 rw[Qu h d1 d2 (T.chord d hd)]at this;rw[uM.2 ((rZ h hq hn).2 this)];decide
end
end Go.Proofs.YtdaeofhdgabhjaaGreat.Geo
namespace Go.Proofs.YtdaeofhdgabhjaaGreat.Geo
theorem yF:∀l m:List Bool,fD (l++m)=(fD l !=fD m)
 |[],m=>by cases h:fD m<;>simp[fD]at h|- <;>exact h
 |b::l,m=>by
  show(b !=fD (l++m))=((b !=fD l) !=fD m);rw[yF l m];cases b<;>cases fD l<;>cases fD m<;>rfl
theorem Eb(g:S->Bool):∀R:List aC,fD ((R.flatMap edges).map g)=fD (R.map fun r=>fD ((edges r).map g))
 |[] =>rfl
 |r::R=>by
  rw[List.flatMap_cons,List.map_append,yF,Eb g R];rfl
theorem Ea:∀{l:List Bool},(∀b∈l,b=false)->fD l=false
 |[],_=>rfl
 |b::l,h=>by
  show(b !=fD l)=false;rw[h b List.mem_cons_self,Ea fun c hc=>h c (List.mem_cons_of_mem _ hc)];rfl
theorem Yv{r:aC}(hv:VR r){q:Pt}(hq:cF q=true)(h:aP r q=1):∃e∈edges r,onP e q=true:=by
 refine Classical.byContradiction fun c=> ?_
 rw[mA hv hq fun e he=>Bool.eq_false_iff.2 fun g=>c ⟨e,he,g⟩]at h
 split at h<;>omega
theorem Ip(r:aC)(q:Pt):aP r q=0\/aP r q=1\/aP r q=2:=by
 have:∀(l:List S) (b:Bool),eQ q l b=0\/eQ q l b=1\/eQ q l b=2:=fun l=>by
  induction l with
  |nil=>intro b;unfold eQ;split<;>simp
  |cons e l ih=>intro b;unfold eQ;split;simp;exact ih _
 unfold aP;split
 ·simp
 ·exact this _ _
theorem aBE{t:T3}{p:T3->Bool}:∀{TL:List T3},(TL.Pairwise fun t u=>t≠u/\t≠u.rot/\t≠u.rot.rot)->(∀u∈TL,p u=true->Rt t u)->TL.countP p<=1
 |[],_,_=>by simp
 |u::TL,h,g=>by
  rw[List.pairwise_cons]at h;have ih:=aBE h.2 fun w hw=>g w (List.mem_cons_of_mem _ hw)
  rw[List.countP_cons];split
  ·rename_i hu;have:TL.countP p=0:=List.countP_eq_zero.2 fun w hw hp=>by
    exact Ti.2 (h.1 w hw) ((g u List.mem_cons_self hu).symm.trans (g w (List.mem_cons_of_mem _ hw) hp))
   omega
  ·omega
section
variable {s:Shape} {D:List S}
theorem Qw{W:List V}{side:V->V->Prop}{ins:P3->Bool}(N:Net W side){t:T3}(ht:Tri W side ins t.a t.b t.c){p:P3}(hp:In [lin t.a t.b,lin t.b t.c,lin t.c t.a] p){a b:V}(hab:side a b):¬Bet p a b:=by
 rintro⟨x,y,k,hx,hy,hk,e⟩;have hd:=congrArg P3.d e;have hd:x*1+y*1=k*p.d+0*p.d:=hd;have:=Int.mul_pos hk hp.1;obtain⟨f,hf,g⟩:=ht.free N a b hab x y hx hy (by omega)
 have h1:=congrArg (ev f) e;rw[aM,aM]at h1;have h2:=Int.mul_pos hk (hp.2 f hf);change x*ev f (pt a)+y*ev f (pt b)<=0 at g;omega
variable (T:Tg s D) {q:Pt} (hq:cF q=true) (hqd:0<q.den)
include T hq hqd
theorem aBf(t:T3)(ht:Tri (bJ s) (sides s D) (fH s) t.a t.b t.c)(h:aP t.ring q=2):In [lin t.a t.b,lin t.b t.c,lin t.c t.a] (p3 q):=by
 have:=(aBn (sP T ht) q hq (by rw[<-jW];exact ht.left)).1 h
 exact⟨hqd,fun f hf=>this f (by unfold Cu;rw[rA];exact hf)⟩
theorem Wv(t:T3)(ht:Tri (bJ s) (sides s D) (fH s) t.a t.b t.c)(h:aP t.ring q=1):∃a b,sides s D a b/\Bet (p3 q) a b/\onP ⟨a,b⟩ q=true:=by
 have V:=(cL _).1 (sP T ht);obtain⟨e,he,ho⟩:=Yv V hq h;have hs:=Om ht (by rw[<-xD];exact he)
 exact⟨e.a,e.b,hs,(lQ hqd (T.filled.net.ne hs)).1 ho,ho⟩
theorem Tz{t u:T3}(ht:Tri (bJ s) (sides s D) (fH s) t.a t.b t.c)(hu:Tri (bJ s) (sides s D) (fH s) u.a u.b u.c)(h1:aP t.ring q=2)(h2:aP u.ring q≠0):Rt t u:=by
 have N:=T.filled.net;have I:=aBf T hq hqd t ht h1;rcases Ip u.ring q with c|c|c
 ·exact absurd c h2
 ·obtain⟨a,b,hs,hb,_⟩:=Wv T hq hqd u hu c;exact absurd hb (Qw N ht I hs)
 ·exact aEr N ht hu I (aBf T hq hqd u hu c)
theorem Iv{t:T3}(ht:Tri (bJ s) (sides s D) (fH s) t.a t.b t.c)(h1:aP t.ring q=2):eJ s q=2:=by
 have N:=T.filled.net;have I:=aBf T hq hqd t ht h1;refine uM.2 ((rZ T.vs hq fun e he=>Bool.eq_false_iff.2 fun g=> ?_).2 ?_)
 ·exact Qw N ht I (.inl (List.mem_append_left _ he):sides s D e.a e.b) ((lQ hqd (T.vs.lS he)).1 g)
 ·rw[T.filled.calm.const (ht.free N) I (Lj ht.left)];exact ht.mid
theorem aEF{t:T3}(ht:Tri (bJ s) (sides s D) (fH s) t.a t.b t.c)(h1:aP t.ring q≠0):eJ s q≠0:=by
 rcases Ip t.ring q with c|c|c
 ·exact absurd c h1
 ·obtain⟨a,b,hs,hb,ho⟩:=Wv T hq hqd t ht c;have ne:=T.filled.net.ne hs;have ho':onP ⟨b,a⟩ q=true:=(lQ hqd (e:=⟨b,a⟩) ne.symm).2 hb.swap;rcases hs with hs|hs<;>rcases List.mem_append.1 hs with hs|hs
  ·exact Lw T hq hqd hs ho
  ·exact Xm T hq hqd hs ho
  ·exact Lw T hq hqd hs ho'
  ·exact Xm T hq hqd hs ho'
 ·rw[Iv T hq hqd ht c];decide
theorem aEe{TL:List T3}(A:All3 (bJ s) (sides s D) (fH s) TL)(h:eJ s q≠0):∃t∈TL,aP t.ring q≠0:=by
 have hS:=T.vs;have N:=T.filled.net;have P:=Ub T A;by_cases c:∃e∈aQ s++D,onP e q=true
 ·obtain⟨e,he,ho⟩:=c;have hs:sides s D e.a e.b:= .inl he;have ne:=N.ne hs;have:e∈Dj (Ks s) D\/swp e∈Dj (Ks s) D:=by
   rcases List.mem_append.1 he with he|he
   ·simp only[Fb T (Fc T)];rw[wB,List.mem_append,List.mem_flatMap]at he;rcases he with he|⟨r,hr,he⟩
    ·exact .inl ⟨hs,(xE T he).1⟩
    ·exact .inr ⟨N.symm hs,(Av T hr he).1⟩
   ·exact .inl (List.mem_append_right _ (List.mem_append_left _ he))
  have key:∀d:S,d∈Dj (Ks s) D->onP d q=true->∃t∈TL,aP t.ring q≠0:=fun d hd ho=>by
   obtain⟨r,hr,hd⟩:=List.mem_flatMap.1 (P.mem_iff.2 hd);obtain⟨t,ht,rfl⟩:=List.mem_map.1 hr;refine⟨t,ht,?_⟩;unfold aP;rw[sP T (A.tri t ht),hq];simp only[Bool.not_true,Bool.or_false,Bool.false_eq_true,if_false];rw[sI ⟨d,hd,ho⟩];decide
  rcases this with hd|hd
  ·exact key _ hd ho
  ·exact key _ hd ((lQ hqd (e:=swp e) ne.symm).2 ((lQ hqd ne).1 ho).swap)
 ·have off:∀e∈aQ s++D,onP e q=false:=fun e he=>Bool.eq_false_iff.2 fun g=>c ⟨e,he,g⟩
  have w:∀r∈aG s,aP r q=if dV r (p3 q)then 2 else 0:=fun r hr=>mA (hS.ring hr) hq fun e he=>off e (List.mem_append_left _ (List.mem_flatMap.2 ⟨r,hr,he⟩))
  have ii:fH s (p3 q)=true:=by
   refine(rZ hS hq fun e he=>off e (List.mem_append_left _ he)).1 (uM.1 ?_)
   rw[Fr hS]at h|-;rw[w _ List.mem_cons_self]at h|-;have:∀x:Int,(x=0\/x=2)->∀l:List aC,(∀r∈l,r∈s.holes)->fW q l x≠0->fW q l x=2:=fun x hx l=>by
    induction l with
    |nil=>intro _ h;unfold fW at h|-;omega
    |cons r l ih=>
     intro hl hn;unfold fW at hn|-;rw[w r (List.mem_cons_of_mem _ (hl r List.mem_cons_self))]at hn|-;cases g:dV r (p3 q)with
     |true=>rw[g]at hn;simp at hn
     |false=>
      rw[g]at hn;simp only[Bool.false_eq_true,if_false]at hn|-;exact ih (fun r hr=>hl r (List.mem_cons_of_mem _ hr)) hn
   exact this _ (by split<;>simp) _ (fun _ h=>h) h
  have sw:∀e∈aQ s++D,hit (p3 q) (swp e)=hit (p3 q) e:=fun e he=>by
   have hs:sides s D e.a e.b:= .inl he;refine aCJ _ _ _ fun h0=>Classical.byContradiction fun hd=> ?_
   obtain⟨x,y,k,hx,hy,hxy,hk,g⟩:=Xl (r:=p3 q) hqd h0 hd;have hdd:x*1+y*1=k*q.den:=congrArg P3.d g;have:k≠0:=fun k0=>by rw[k0,Int.zero_mul]at hdd;omega
   have:=off e he;rw[(lQ hqd (N.ne hs)).2 ⟨x,y,k,hx,hy,by omega,by rw[g];unfold cmb;simp⟩]at this
   cases this
  have swL:∀l:List S,(∀e∈l,e∈aQ s++D)->(l.map swp).map (hit (p3 q))=l.map (hit (p3 q)):=fun l hl=>by
   rw[List.map_map];exact List.map_congr_left fun e he=>sw e (hl e he)
  have tot:=Og (P.map (hit (p3 q)));rw[Eb]at tot;unfold Dj Ks at tot;rw[List.map_append,List.map_append,List.map_append,yF,yF,yF,swL _ fun e he=>List.mem_append_left _ (by rw[wB];exact List.mem_append_right _ he),swL D fun e he=>List.mem_append_right _ he]at tot
  rw[Eb]at tot;unfold fH at ii;rw[Bool.and_eq_true,List.all_eq_true]at ii;obtain⟨i1,i2⟩:=ii;rw[Ea (l:=s.holes.map fun r=>fD ((edges r).map (hit (p3 q)))) fun b hb=>by
   obtain⟨r,hr,rfl⟩:=List.mem_map.1 hb;have:=i2 r hr;unfold dV at this;simpa using this]at tot
  unfold dV at i1;rw[i1]at tot;have tot:fD ((TL.map T3.ring).map fun r=>fD ((edges r).map (hit (p3 q))))=true:=by
   rw[tot];cases fD (D.map (hit (p3 q)))<;>rfl
  refine Classical.byContradiction fun cn=> ?_
  rw[Ea fun b hb=> ?_]at tot
  ·cases tot
  obtain⟨r,hr,rfl⟩:=List.mem_map.1 hb;obtain⟨t,ht,rfl⟩:=List.mem_map.1 hr;have V:=(cL _).1 (sP T (A.tri t ht));have hw:=mA V hq fun e he=>by
   have hs:=Om (A.tri t ht) (by rw[<-xD];exact he)
   refine Bool.eq_false_iff.2 fun g=> ?_
   have b:=(lQ hqd (N.ne hs)).1 g;rcases hs with hs|hs
   ·have:=off _ hs;rw[g]at this;cases this
   ·have:=off _ hs;rw[(lQ hqd (e:=⟨e.b,e.a⟩) (N.ne (.inr (by assumption):sides s D e.a e.b)).symm).2 b.swap]at this;cases this
  refine Bool.eq_false_iff.2 fun g=>cn ⟨t,ht,?_⟩
  rw[hw,show dV t.ring (p3 q)=true from g];decide
theorem Nc{TL:List T3}(A:All3 (bJ s) (sides s D) (fH s) TL):(0<(TL.map T3.ring).countP (fun r=>aP r q==2)->eJ s q=2/\(TL.map T3.ring).countP (fun r=>aP r q==2)=1/\(TL.map T3.ring).countP (fun r=>aP r q !=0)=1)/\
  (0<(TL.map T3.ring).countP (fun r=>aP r q !=0)↔eJ s q≠0):=by
 rw[List.countP_map,List.countP_map];constructor
 ·intro h;obtain⟨t,ht,h1⟩:=List.countP_pos_iff.1 h;have h1:aP t.ring q=2:=by simpa using h1
  have le:=aBE (t:=t) (p:=(fun r=>aP r q !=0)∘T3.ring) A.once fun u hu hp=>Tz T hq hqd (A.tri t ht) (A.tri u hu) h1 (by simpa using hp)
  have le2:TL.countP ((fun r=>aP r q==2)∘T3.ring)<=TL.countP ((fun r=>aP r q !=0)∘T3.ring):=List.countP_mono_left fun u _ hu=>by
   simp only[Function.comp_apply,beq_iff_eq,bne_iff_ne]at hu|-;omega
  exact⟨Iv T hq hqd (A.tri t ht) h1,by omega,by omega⟩
 ·rw[List.countP_pos_iff];constructor
  ·rintro⟨t,ht,h1⟩;exact aEF T hq hqd (A.tri t ht) (by simpa using h1)
  ·intro h;obtain⟨t,ht,h1⟩:=aEe T hq hqd A h;exact⟨t,ht,by simpa using h1⟩
end
end Go.Proofs.YtdaeofhdgabhjaaGreat.Geo
namespace Go.Proofs.YtdaeofhdgabhjaaGreat
open Go.RowKit
def inU(l:List Geo.aC)(p:Geo.V)(k:Nat):Nat:=(l.take k).countP fun r=>decide (Geo.dN r p≠0)
def isU(l:List Geo.aC)(p:Geo.V)(k:Nat):Nat:=(l.take k).countP fun r=>decide (Geo.dN r p=2)
theorem Qb{l:List Geo.aC}{p:Geo.V}{k:Nat}(h:k<l.length):inU l p (k+1)=inU l p k+if Geo.dN (Geo.aD l k) p≠0 then 1 else 0:=by
 unfold inU;rw[List.take_succ_eq_append_getElem h,List.countP_append,List.countP_singleton,<-jY h];simp
theorem Pz{l:List Geo.aC}{p:Geo.V}{k:Nat}(h:k<l.length):isU l p (k+1)=isU l p k+if Geo.dN (Geo.aD l k) p=2 then 1 else 0:=by
 unfold isU;rw[List.take_succ_eq_append_getElem h,List.countP_append,List.countP_singleton,<-jY h];simp
theorem aH9(l:List Geo.aC)(p:Geo.V)(k:Nat):inU l p k<=k:=Nat.le_trans List.countP_le_length (by rw[List.length_take];omega)
theorem aH8(l:List Geo.aC)(p:Geo.V)(k:Nat):isU l p k<=k:=Nat.le_trans List.countP_le_length (by rw[List.length_take];omega)
def whV(s:Geo.Shape)(p:Geo.V):Int:=if Geo.aJ p 8000=true then Geo.eJ s (Geo.iD p)else 0
theorem Tx{s:Geo.Shape}(h:Geo.bD s=true){p:Geo.V}(hp:Geo.aJ p 3000=true):
  (0<isU (tOf s) p (tOf s).length->whV s p=2/\isU (tOf s) p (tOf s).length=1/\inU (tOf s) p (tOf s).length=1)/\(0<inU (tOf s) p (tOf s).length↔whV s p≠0):=by
 obtain⟨TL,A,e⟩:=Pw h;have h4:=Geo.dD hp (show(3000:Int)<=4000 by omega)
 have h8:=Geo.dD hp (show(3000:Int)<=8000 by omega)
 have hq:Geo.cF (Geo.iD p)=true:=by rw[Geo.lJ];exact h4
 have P:=Geo.Nc (aBF h) hq (by show(0:Int)<1;decide) A
 have w:∀r,Geo.dN r p=Geo.aP r (Geo.iD p):=fun r=>by rw[<-Geo.oS];unfold Geo.bL;rw[h4];rfl
 have i1:inU (tOf s) p (tOf s).length=(TL.map Geo.T3.ring).countP fun r=>Geo.aP r (Geo.iD p) !=0:=by
  unfold inU;rw[List.take_length,e];congr 1;funext r;rw[w,Bool.eq_iff_iff];simp
 have i2:isU (tOf s) p (tOf s).length=(TL.map Geo.T3.ring).countP fun r=>Geo.aP r (Geo.iD p)==2:=by
  unfold isU;rw[List.take_length,e];congr 1;funext r;rw[w,Bool.eq_iff_iff];simp
 rw[i1,i2];unfold whV;rw[if_pos h8];exact P
end Go.Proofs.YtdaeofhdgabhjaaGreat
namespace Go.Proofs.YtdaeofhdgabhjaaGreat
open Go.RowKit
set_option maxRecDepth 100000
noncomputable section
open Geo (aD)
def c37:Con:=con (ac aSh (a1 aV)) (fun(s,_)=>[Fit s]) (fun(s,p)=> .int .i64 (whV s p)
 )
theorem k37:c37.Ok Tryz.prog 37:=aR (bO aJs) (raw:=bT) (fun(_,_)=>[]) (fun(_,_)=>⟨_,rfl⟩) fun(s,p) hp=>bP (q:=(0:Int)<=8000/\(8000:Int)<=1000000000000/\((!Geo.aJ p 8000)=true->0=whV s p)/\
 ((!Geo.aJ p 8000)=false->Fit s/\Geo.eJ s (Geo.iD p)=whV s p)) (by kernel_rfl) (by
  change Fit s at hp;have e1:(!Geo.aJ p 8000)=true->0=whV s p:=fun h=>by unfold whV;rw[if_neg (by rw[nb' h];decide)]
  have e2:(!Geo.aJ p 8000)=false->Geo.eJ s (Geo.iD p)=whV s p:=fun h=>by unfold whV;rw[if_pos (nb h)]
  exact⟨by decide,by decide,e1,fun h=>⟨hp,e2 h⟩⟩)
def t37:Tab:=cK [(37,c37)] t30
theorem aMD:t37.Ok Tryz.prog:=aH aJs ⟨k37,trivial⟩
def c8:Con:=con (ac aSh (a1 aV)) (fun(s,p)=>[tG s,VOk p]) (fun(_,_)=> .bool true)
theorem k8:c8.Ok Tryz.prog 8:=aR (bO aMD) (raw:=bT) (fun(s,p)=>[lp 8 29 (tOf s).length (fun _=>[]) [] (fun k=>[(7,.int .i64 (inU (tOf s) p k:Int)),(8,.int .i64 (isU (tOf s) p k:Int))]) (fun _=>[])]
  ) (fun(_,_)=>⟨_,rfl⟩) fun(s,p) hp=>bP (q:=((!true)=true->false=true)/\
 ((!true)=false->tG s/\((!(qD s&&Geo.bD s))=true->true=true)/\
  ((!(qD s&&Geo.bD s))=false->(0:Int)<=3000/\(3000:Int)<=1000000000000/\((!Geo.aJ p 3000)=true->true=true)/\
   ((!Geo.aJ p 3000)=false->Fit s/\(0=(0:Int)/\0=(inU (tOf s) p 0:Int)/\0=(isU (tOf s) p 0:Int)/\(0:Nat)<=(tOf s).length)/\
    (∀x:Nat,x<=(tOf s).length->((x:Int)<(tOf s).length->ix (x:Int) (tOf s).length/\(aD (tOf s) x).length<=100000/\(Geo.dN (aD (tOf s) x) p=2->aE ((isU (tOf s) p x:Int)+1)/\aE ((inU (tOf s) p x:Int)+1)/\aE ((x:Int)+1)/\(x:Int)+1=((x+1:Nat):Int)/\(inU (tOf s) p x:Int)+1=inU (tOf s) p (x+1)/\(isU (tOf s) p x:Int)+1=isU (tOf s) p (x+1)/\x+1<=(tOf s).length/\(tOf s).length-(x+1)<(tOf s).length-x)/\
      (¬Geo.dN (aD (tOf s) x) p=2->(Geo.dN (aD (tOf s) x) p=1->aE ((inU (tOf s) p x:Int)+1)/\aE ((x:Int)+1)/\(x:Int)+1=((x+1:Nat):Int)/\(inU (tOf s) p x:Int)+1=inU (tOf s) p (x+1)/\(isU (tOf s) p x:Int)=isU (tOf s) p (x+1)/\x+1<=(tOf s).length/\(tOf s).length-(x+1)<(tOf s).length-x)/\
       (¬Geo.dN (aD (tOf s) x) p=1->aE ((x:Int)+1)/\(x:Int)+1=((x+1:Nat):Int)/\(inU (tOf s) p x:Int)=inU (tOf s) p (x+1)/\(isU (tOf s) p x:Int)=isU (tOf s) p (x+1)/\x+1<=(tOf s).length/\(tOf s).length-(x+1)<(tOf s).length-x)))/\
     (¬(x:Int)<(tOf s).length->Fit s/\(¬eOf s=0->false=true)/\
      (¬(¬eOf s=0)->(1<(isU (tOf s) p x:Int)->false=true)/\
       (¬1<(isU (tOf s) p x:Int)->((isU (tOf s) p x:Int)=1->(1<(inU (tOf s) p x:Int)->false=true)/\
         (¬1<(inU (tOf s) p x:Int)->((decide (0<(inU (tOf s) p x:Int))==decide (¬whV s p=0))=true->((isU (tOf s) p x:Int)=0->true=true)/\
           (¬(isU (tOf s) p x:Int)=0->decide (whV s p=2)=true))/\
          ((decide (0<(inU (tOf s) p x:Int))==decide (¬whV s p=0))=false->false=true)))/\
        (¬(isU (tOf s) p x:Int)=1->((decide (0<(inU (tOf s) p x:Int))==decide (¬whV s p=0))=true->((isU (tOf s) p x:Int)=0->true=true)/\
          (¬(isU (tOf s) p x:Int)=0->decide (whV s p=2)=true))/\
         ((decide (0<(inU (tOf s) p x:Int))==decide (¬whV s p=0))=false->false=true)))))))))) (by kernel_rfl) (by
  change tG s/\VOk p at hp;obtain⟨hb,_⟩:=hp;have hf:(!(qD s&&Geo.bD s))=false->Fit s:=fun h=>Qj hb (by have:=nb h;simp only[Bool.and_eq_true]at this;exact this.1)
  have R:(!(qD s&&Geo.bD s))=false->Geo.bD s=true:=fun h=>by have:=nb h;simp only[Bool.and_eq_true]at this;exact this.2
  have e0:(!(qD s&&Geo.bD s))=false->eOf s=0:=fun h=>by unfold eOf;rw[R h];rfl
  have L:=fun(h:(!(qD s&&Geo.bD s))=false) (g:(!Geo.aJ p 3000)=false)=>Tx (R h) (nb g)
  have l3:(!(qD s&&Geo.bD s))=false->∀x:Nat,(x:Int)<(tOf s).length->(aD (tOf s) x).length<=100000:=fun h x hx=>by
   obtain⟨TL,A,e⟩:=Pw (R h);have hr:aD (tOf s) x∈tOf s:=Geo.fQ (by omega)
   obtain⟨t,_,er⟩:∃t∈TL,t.ring=aD (tOf s) x:=List.mem_map.1 ((congrArg (fun l=>aD (tOf s) x∈l) e).mp hr)
   rw[<-er];exact(by decide:3<=100000)
  have wr:∀r:Geo.aC,¬Geo.dN r p=2->¬Geo.dN r p=1->Geo.dN r p=0:=fun r h1 h2=>by
   have:=Geo.rC r p;rw[Geo.oS]at this;omega
  have i0:0=(inU (tOf s) p 0:Int):=rfl;have j0:0=(isU (tOf s) p 0:Int):=rfl;have i1:∀x:Nat,(x:Int)<(tOf s).length->(Geo.dN (aD (tOf s) x) p=2\/Geo.dN (aD (tOf s) x) p=1)->(inU (tOf s) p x:Int)+1=inU (tOf s) p (x+1):=fun x hx h=>by
   rw[Qb (by omega),if_pos (by omega)];rfl
  have i2:∀x:Nat,(x:Int)<(tOf s).length->¬Geo.dN (aD (tOf s) x) p=2->¬Geo.dN (aD (tOf s) x) p=1->(inU (tOf s) p x:Int)=inU (tOf s) p (x+1):=fun x hx h g=>by
   rw[Qb (by omega),if_neg (by rw[wr _ h g];simp)];rfl
  have j1:∀x:Nat,(x:Int)<(tOf s).length->Geo.dN (aD (tOf s) x) p=2->(isU (tOf s) p x:Int)+1=isU (tOf s) p (x+1):=fun x hx h=>by
   rw[Pz (by omega),if_pos h];rfl
  have j2:∀x:Nat,(x:Int)<(tOf s).length->¬Geo.dN (aD (tOf s) x) p=2->(isU (tOf s) p x:Int)=isU (tOf s) p (x+1):=fun x hx h=>by
   rw[Pz (by omega),if_neg h];rfl
  have ht:=aD8 s;have w1:∀x:Nat,(x:Int)<(tOf s).length->aE ((isU (tOf s) p x:Int)+1):=fun x hx=>by
   have:=aH8 (tOf s) p x;exact eC (by omega)
  have w2:∀x:Nat,(x:Int)<(tOf s).length->aE ((inU (tOf s) p x:Int)+1):=fun x hx=>by
   have:=aH9 (tOf s) p x;exact eC (by omega)
  have fin:(!(qD s&&Geo.bD s))=false->(!Geo.aJ p 3000)=false->∀x:Nat,¬(x:Int)<(tOf s).length->x<=(tOf s).length->(1<(isU (tOf s) p x:Int)->false=true)/\((isU (tOf s) p x:Int)=1->1<(inU (tOf s) p x:Int)->false=true)/\((decide (0<(inU (tOf s) p x:Int))==decide (¬whV s p=0))=false->false=true)/\(¬(isU (tOf s) p x:Int)=0->decide (whV s p=2)=true):=fun h g x h1 h2=>by
   obtain rfl:x=(tOf s).length:=by omega
   obtain⟨q1,q2⟩:=L h g;refine⟨fun c=>absurd c (by have:=q1;omega),fun c d=>absurd d (by have:=q1;omega),fun c=> ?_,fun c=>decide_eq_true (q1 (by omega)).1⟩
   rw[<-c,beq_iff_eq];exact decide_eq_decide.2 ⟨fun a=>q2.1 (by omega),fun a=>by have:=q2.2 a;omega⟩
  clear L wr
  repeat' first|with_reducible apply And.intro|with_reducible intro
  all_goals repeat with_reducible cases‹_/\_›
  all_goals first|assumption|decide|(with_reducible exact hf ‹_›)|rfl|exact l3 ‹_› _ ‹_› |exact i1 _ ‹_› (.inl ‹_›)|exact i1 _ ‹_› (.inr ‹_›)|exact i2 _ ‹_› ‹_› ‹_› |exact j1 _ ‹_› ‹_› |exact j2 _ ‹_› ‹_› |exact w1 _ ‹_› |exact w2 _ ‹_› |(exfalso;exact absurd (e0 ‹_›) ‹_›)|exact(fin ‹_› ‹_› _ ‹_› ‹_›).1 ‹_› |exact(fin ‹_› ‹_› _ ‹_› ‹_›).2.1 ‹_› ‹_› |exact(fin ‹_› ‹_› _ ‹_› ‹_›).2.2.1 ‹_› |exact(fin ‹_› ‹_› _ ‹_› ‹_›).2.2.2 ‹_› |(clear hf R e0 l3 i1 i2 j1 j2 w1 w2 fin;first|omega|(unfold ix;omega)|(unfold aE;omega)))
end
end Go.Proofs.YtdaeofhdgabhjaaGreat
namespace Go.Proofs.YtdaeofhdgabhjaaGreat
open Go.ChangeShapes Go.WideShapes Go.ChangeAt Go.RowKit Go.Joins Go.Deep
theorem Us(s:Geo.Shape)(v:Geo.V)(hs:tG s)(hv:VOk v):Sat Tryz.prog false 8 [gK s,aDG v] (.bool true):=
 uA (k8 [aSh.enc s,aV.enc v] (s,v) rfl ((fB (l:=c8.pre (s,v))).1 ⟨hs,hv⟩)) (by simp only[avs,Bn,aIl];rfl) rfl
set_option maxRecDepth 100000 in
theorem Ia(os:Os)(started:os.Started)(H:Type)(enc:TypeId×Value->H):
  ReturnsInHanded {} Tryz.checked os 8 .any (Rows.trianglePointsSpec.pre6 enc Tryz.prog Tryz.f8 Rows.trianglePointsRow.domain false) (Rows.trianglePointsSpec.post enc Tryz.prog Tryz.f8 false true false false):=by
 refine returnsInHanded_of_change_sized (C:=Tryz.checked) Tryz.own started (by kernel_rfl) Tryz.func8
  (ChangeSpec.witness6 (enc:=enc) (C:=Tryz.checked) false ⟨#[], #[(.agg #[.slice none 0 0,.slice none 0 0]),(.agg #[.int .i64 0,.int .i64 0])],[]⟩ 8 (by kernel_rfl) (by kernel_rfl) (by kernel_rfl) (by kernel_rfl)) ?_
 intro W base args ds gs before hval0 hW hcnd hsz0 _;have hval:∀(j:Nat) t v,Tryz.f8.params[j]? =some t->args[j]? =some v->Value.okWide Tryz.prog W .any base t v:=hval0;have hsz:(DataW.weightsEach Tryz.prog (Tryz.f8.params.toList++Rows.trianglePointsSpec.plain.varTypes Tryz.prog) (ds++gs)).all (· <=reachBytes)=true:=hsz0
 have hW':=hW;obtain⟨p,q,hA0,hV,rfl,hfz,hnd⟩:=hW;have hA:DataW.TrodAll enc Tryz.prog W 0 (fun _=>true) true Tryz.f8.params.toList args.toList ds p:=hA0
 rw[Tryz.params8]at hA hval hsz;obtain⟨v0,v1,d0,d1,p0,p1,rfl,rfl,rfl,h0,h1⟩:=trodAll_two hA;obtain⟨rfl,rfl⟩:=trodVars_none hV;have hw0:∀n∈DataW.weights Tryz.prog 26 d0,n<=reachBytes:=fun n hn=>by
  have:=List.all_eq_true.1 hsz n (DataW.weights_mem_each (j:=0) (t:=26) rfl rfl n hn);simpa using this
 obtain⟨s,r0,b0⟩:=Uk (hval 0 26 v0 rfl rfl) h0 hw0;obtain⟨v,r1,b1⟩:=aCs (hval 1 44 v1 rfl rfl) h1;clear hA0 hval0;simp only[List.append_nil]at hW';have hcall:=(Us s v b0 b1).2 (tE W) W [v0,v1] (fun _ _ _ h=>h) (by unfold cG;exact⟨v0,[v1],rfl,r0,by unfold cG;exact⟨v1,[],rfl,r1,by unfold cG;rfl⟩⟩)
 refine hcall.mono fun e W' ⟨v,he,hr,hB⟩=> ?_
 unfold bF at hr;subst he hr;have hlt0:∀x∈p0,x.block<W.heap.size:=fun x hx=>by simpa using hW'.lt x (by simp[hx])
 have hlt1:∀x∈p1,x.block<W.heap.size:=fun x hx=>by simpa using hW'.lt x (by simp[hx])
 refine⟨_,rfl,_,_,_,[],(p0++p1),[],hW',?_,?_,rfl,hB.frame _,fun h=>by cases h⟩
 ·exact trodAll_mk1 (shut_bool Tryz.underlying4 true)
 ·exact trodAll_mk2 (Below.trod Tryz.laidOut (by kernel_rfl) (of_decide_eq_true (by kernel_rfl)) h0 hB hlt0) (Below.trod Tryz.laidOut (by kernel_rfl) (of_decide_eq_true (by kernel_rfl)) h1 hB hlt1)
theorem points_holds:Rows.TrianglePointsSaid:=
 OpenClaim.holds_of_wide 8 Tryz.f8 rfl rfl rfl rfl rfl rfl rfl ⟨rfl,rfl,rfl,rfl,rfl⟩ rfl rfl rfl rfl rfl (by kernel_rfl) Tryz.func8 (by kernel_rfl)
  (of_decide_eq_true (by kernel_rfl)) (by unfold Func.isWrapper;first|(rw[if_pos (by decide+kernel)];kernel_rfl)|(rw[if_neg (by decide+kernel)];exact⟨rfl,rfl⟩))
  (fun os started H enc _=>Ia os started H enc)
end Go.Proofs.YtdaeofhdgabhjaaGreat
