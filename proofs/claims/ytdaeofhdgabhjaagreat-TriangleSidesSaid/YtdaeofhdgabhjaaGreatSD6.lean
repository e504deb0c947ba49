/- TriangleSides returns true for every shape: the triangles of a valid shape with at most 20 corners pass both checks; each edge is a side of one of them, each diagonal of two, and there are no other sides; no condition. (I23 I24 M2 I25 I26 M3 K24 Q6) -/
import Derived.Test.YtdaeofhdgabhjaaGreatSD5
namespace Go.Proofs.YtdaeofhdgabhjaaGreat.Geo
theorem uQ{a b c:V}(h:0<turn a b c):nB a b c=⟨a,b,c⟩:=by unfold nB;rw[if_neg (by omega)]
theorem zF{a b c:V}(h:0<turn a b c):nB a c b=⟨a,b,c⟩:=by unfold nB;rw[if_pos (by rw[pT];omega)]
theorem Al{a b c:V}:0<turn a b c↔0<ev (lin a b) (pt c):=by unfold turn;rw[uH,gE]
section
variable {s:Shape} {D:List S}
theorem Mg(T:Tg s D){v:List V}(hv:∀x,x∈v↔x∈aR s)(hn:v.Nodup){i j k:Nat}(hij:i<j)(hjk:j<k)(hk:k<v.length)
  (h1:sides s D (nth v i) (nth v j)) (h2:sides s D (nth v j) (nth v k)) (h3:sides s D (nth v i) (nth v k)):
  iC s v i j k=true↔(turn (nth v i) (nth v j) (nth v k)≠0/\Tri (aR s) (sides s D) (eI s) (nB (nth v i) (nth v j) (nth v k)).a (nB (nth v i) (nth v j) (nth v k)).b (nB (nth v i) (nth v j) (nth v k)).c):=by
 have N:=T.filled.net;have near:=fun{x} (hx:x∈aR s)=>dZ T.vs hx
 have na:=near (N.mem h1);have nb:=near (N.mem h2);have nc:=near (N.mem (N.symm h2));have idx:∀n,n<v.length->∀m,m<v.length->(n≠m↔nth v n≠nth v m):=fun n h1 m h2=>⟨fun h e=>h (eW hn h1 h2 e),fun h e=>h (by rw[e])⟩
 have all:∀R:aD,(∀w,bR (kR (nth v i) (nth v j) (nth v k)) w=bR R w)->(((List.range v.length).all fun n=> !(n !=i&&n !=j&&n !=k&&bR (kR (nth v i) (nth v j) (nth v k)) (nth v n) !=0))=true↔∀w∈v,w=nth v i\/w=nth v j\/w=nth v k\/bR R w=0):=fun R hR=>by
  rw[List.all_eq_true];constructor
  ·intro g w hw;obtain⟨n,hn',rfl⟩:=fL.1 hw;have:=g n (List.mem_range.2 hn');rw[hR]at this;by_cases c1:n=i
   ·exact .inl (by rw[c1])
   ·by_cases c2:n=j
    ·exact .inr (.inl (by rw[c2]))
    ·by_cases c3:n=k
     ·exact .inr (.inr (.inl (by rw[c3])))
     ·simp[c1,c2,c3]at this;exact .inr (.inr (.inr this))
  ·intro g n hn';have hn':=List.mem_range.1 hn';have:=g (nth v n) (fK hn');rw[hR];rcases this with e|e|e|e
   ·simp[eW hn hn' (by omega) e]
   ·simp[eW hn hn' (by omega) e]
   ·simp[eW hn hn' (by omega) e]
   ·simp[e]
 unfold iC;rw[Bool.and_eq_true,Bool.and_eq_true,bne_iff_ne,beq_iff_eq];generalize hA:nth v i=a at*;generalize hB:nth v j=b at*;generalize hC:nth v k=c at*;rcases Int.lt_trichotomy (turn a b c) 0 with g|g|g
 ·have g':0<turn a c b:=by rw[pT];omega
  have hl:=Al.1 g';have hval:VR [a,c,b] :=(cS _).1 ((yS (Kj na nc nb)).2 g');have eT:kR a b c=cK [a,c,b] :=by unfold kR dC;rw[if_pos g,if_pos ((cS _).2 hval)]
  have hw:∀w,bR (kR a b c) w=bR [a,c,b] w:=fun w=>by rw[eT];exact zB hval (by have:=fZ (r:=[a,c,b]) (by simp);omega) w
  have eo:nB a b c=⟨a,c,b⟩:=by unfold nB;rw[if_pos g]
  rw[eo,<-Cf T hv h3 (N.symm h2) (N.symm h1) hl,<-Uj a b c,all _ hw];constructor
  ·rintro⟨⟨p1,p2⟩,p3⟩;exact⟨p1,fun w hw=>by rcases p2 w hw with e|e|e|e<;>simp[e],p3⟩
  ·rintro⟨p1,p2,p3⟩;exact⟨⟨p1,fun w hw=>by rcases p2 w hw with e|e|e|e<;>simp[e]⟩,p3⟩
 ·simp[g]
 ·have hl:=Al.1 g;have hval:VR [a,b,c] :=(cS _).1 ((yS (Kj na nb nc)).2 g);have eT:kR a b c=cK [a,b,c] :=by unfold kR dC;rw[if_neg (by omega),if_pos ((cS _).2 hval)]
  have hw:∀w,bR (kR a b c) w=bR [a,b,c] w:=fun w=>by rw[eT];exact zB hval (by have:=fZ (r:=[a,b,c]) (by simp);omega) w
  rw[uQ g,<-Cf T hv h1 h2 (N.symm h3) hl,all _ hw];constructor
  ·rintro⟨⟨p1,p2⟩,p3⟩;exact⟨p1,p2,p3⟩
  ·rintro⟨p1,p2,p3⟩;exact⟨⟨p1,p2⟩,p3⟩
structure Idx(s:Shape)(D:List S)(v:List V)(L:List (Nat×Nat×Nat)):Prop where
 nodup:L.Nodup
 mem:∀i j k,(i,j,k)∈L↔i<j/\j<k/\k<v.length/\sides s D (nth v i) (nth v j)/\sides s D (nth v i) (nth v k)/\sides s D (nth v j) (nth v k)/\iC s v i j k=true
def yI(v:List V)(p:Nat×Nat×Nat):T3:=nB (nth v p.1) (nth v p.2.1) (nth v p.2.2)
theorem Idx.all3(T:Tg s D){v:List V}(hv:∀x,x∈v↔x∈aR s)(hn:v.Nodup){L:List (Nat×Nat×Nat)}(I:Idx s D v L):All3 (aR s) (sides s D) (eI s) (L.map (yI v)):=by
 have N:=T.filled.net;have get:∀{p},p∈L->p.1<p.2.1/\p.2.1<p.2.2/\p.2.2<v.length/\turn (nth v p.1) (nth v p.2.1) (nth v p.2.2)≠0/\Tri (aR s) (sides s D) (eI s) (yI v p).a (yI v p).b (yI v p).c:=fun{p} hp=>by
  obtain⟨i,j,k⟩:=p;obtain⟨h1,h2,h3,h4,h5,h6,h7⟩:=(I.mem i j k).1 hp;obtain⟨g1,g2⟩:=(Mg T hv hn h1 h2 h3 h4 h6 h5).1 h7;exact⟨h1,h2,h3,g1,g2⟩
 refine⟨fun t ht=> ?_,fun a b c h=> ?_,?_⟩
 ·obtain⟨p,hp,rfl⟩:=List.mem_map.1 ht;exact(get hp).2.2.2.2
 ·
  have put:∀{i j k:Nat} {t:T3},i<j->j<k->k<v.length->sides s D (nth v i) (nth v j)->sides s D (nth v i) (nth v k)->sides s D (nth v j) (nth v k)->turn (nth v i) (nth v j) (nth v k)≠0->nB (nth v i) (nth v j) (nth v k)=t->Tri (aR s) (sides s D) (eI s) t.a t.b t.c->t∈L.map (yI v):=fun{i j k t} h1 h2 h3 h4 h5 h6 h7 h8 h9=>by
   subst h8;exact List.mem_map.2 ⟨(i,j,k),(I.mem i j k).2 ⟨h1,h2,h3,h4,h5,h6,(Mg T hv hn h1 h2 h3 h4 h6 h5).2 ⟨h7,h9⟩⟩,rfl⟩
  have ht:0<turn a b c:=Al.2 h.left;have ht1:0<turn b c a:=by rw[<-sQ];exact ht
  have ht2:0<turn c a b:=by rw[<-sQ];exact ht1
  have f1:turn a c b≠0:=by rw[pT];omega
  have f2:turn b a c≠0:=by rw[pT];omega
  have f3:turn c b a≠0:=by rw[pT];omega
  have ab:=h.ab;have bc:=h.bc;have ca:=h.ca;obtain⟨i,hi,rfl⟩:=fL.1 ((hv a).2 (N.mem ab));obtain⟨j,hj,rfl⟩:=fL.1 ((hv b).2 (N.mem bc));obtain⟨k,hk,rfl⟩:=fL.1 ((hv c).2 (N.mem ca));have n1:i≠j:=fun e=>N.ne ab (by rw[e])
  have n2:j≠k:=fun e=>N.ne bc (by rw[e])
  have n3:k≠i:=fun e=>N.ne ca (by rw[e])
  rcases Nat.lt_or_gt_of_ne n1 with g1|g1<;>rcases Nat.lt_or_gt_of_ne n2 with g2|g2<;>rcases Nat.lt_or_gt_of_ne n3 with g3|g3
  ·omega
  ·exact .inl (put g1 g2 hk ab (N.symm ca) bc (by omega) (uQ ht) h)
  ·exact .inr (.inr (put g3 g1 hj ca (N.symm bc) ab (by omega) (uQ ht2) h.rot.rot))
  ·exact .inl (put g3 g2 hj (N.symm ca) ab (N.symm bc) f1 (zF ht) h)
  ·exact .inr (.inl (put g2 g3 hi bc (N.symm ab) ca (by omega) (uQ ht1) h.rot))
  ·exact .inr (.inl (put g1 g3 hk (N.symm ab) bc (N.symm ca) f2 (zF ht1) h.rot))
  ·exact .inr (.inr (put g2 g1 hi (N.symm bc) ca (N.symm ab) f3 (zF ht2) h.rot.rot))
  ·omega
 ·rw[List.pairwise_map];refine(List.Pairwise.and_mem.1 (List.nodup_iff_pairwise_ne.1 I.nodup)).imp ?_;rintro⟨i,j,k⟩ ⟨i',j',k'⟩ ⟨hp,hq,hne⟩;obtain⟨a1,a2,a3,_,_⟩:=get hp;obtain⟨b1,b2,b3,_,_⟩:=get hq;dsimp only at a1 a2 a3 b1 b2 b3;have vs:∀{i j k:Nat} (x:V),(x=(yI v (i,j,k)).a\/x=(yI v (i,j,k)).b\/x=(yI v (i,j,k)).c)↔(x=nth v i\/x=nth v j\/x=nth v k):=fun{i j k} x=>by
   unfold yI nB;dsimp only;split
   ·dsimp only;constructor<;>rintro(e|e|e)<;>simp[e]
   ·exact Iff.rfl
  have same:(∀x,(x=nth v i\/x=nth v j\/x=nth v k)->(x=nth v i'\/x=nth v j'\/x=nth v k'))->False:=fun g=>by
   have k1:∀n,n<v.length->(nth v n=nth v i'\/nth v n=nth v j'\/nth v n=nth v k')->n=i'\/n=j'\/n=k':=fun n hn' h=>by
    rcases h with h|h|h
    ·exact .inl (eW hn hn' (by omega) h)
    ·exact .inr (.inl (eW hn hn' (by omega) h))
    ·exact .inr (.inr (eW hn hn' (by omega) h))
   have m1:=k1 i (by omega) (g _ (.inl rfl))
   have m2:=k1 j (by omega) (g _ (.inr (.inl rfl)))
   have m3:=k1 k (by omega) (g _ (.inr (.inr rfl)))
   refine hne ?_;rw[show i=i' by omega,show j=j' by omega,show k=k' by omega]
  refine⟨fun e=>same fun x hx=> ?_,fun e=>same fun x hx=> ?_,fun e=>same fun x hx=> ?_⟩
  ·rw[<-vs x]at hx|-;rw[e]at hx;exact hx
  ·rw[<-vs x]at hx|-;rw[e]at hx;unfold T3.rot at hx;dsimp only at hx;rcases hx with h|h|h<;>simp[h]
  ·rw[<-vs x]at hx|-;rw[e]at hx;unfold T3.rot at hx;dsimp only at hx;rcases hx with h|h|h<;>simp[h]
end
end Go.Proofs.YtdaeofhdgabhjaaGreat.Geo
namespace Go.Proofs.YtdaeofhdgabhjaaGreat.Geo
section
variable (s:Shape) (v:List V) (T:Tab)
def kL(i j:Nat):Nat->List (Nat×Nat×Nat)
 |0=>[]
 |m+1=>kL i j m++(if T i (j+1+m)&&(T j (j+1+m)&&iC s v i j (j+1+m))then [(i,j,j+1+m)]else [])
def jL(i:Nat):Nat->List (Nat×Nat×Nat)
 |0=>[]
 |m+1=>jL i m++(if T i (i+1+m)then kL s v T i (i+1+m) (v.length-(i+1+m+1))else [])
def iL:Nat->List (Nat×Nat×Nat)
 |0=>[]
 |i+1=>iL i++jL s v T i (v.length-(i+1))
variable {s v T}
theorem Ge{i j:Nat}:∀{m:Nat} {a b c:Nat},(a,b,c)∈kL s v T i j m↔a=i/\b=j/\j<c/\c<j+1+m/\T i c=true/\T j c=true/\iC s v i j c=true
 |0,a,b,c=>by
  unfold kL;simp only[List.not_mem_nil,false_iff];omega
 |m+1,a,b,c=>by
  unfold kL;rw[List.mem_append,Ge];constructor
  ·rintro(⟨h1,h2,h3,h4,h5⟩|h)
   ·exact⟨h1,h2,h3,by omega,h5⟩
   ·split at h
    ·rename_i g;simp only[Bool.and_eq_true]at g;simp only[List.mem_singleton,Prod.mk.injEq]at h;obtain⟨rfl,rfl,rfl⟩:=h;exact⟨rfl,rfl,by omega,by omega,g.1,g.2.1,g.2.2⟩
    ·cases h
  ·rintro⟨h1,h2,h3,h4,h5,h6,h7⟩;by_cases g:c=j+1+m
   ·subst g h1 h2;right;rw[if_pos (by rw[h5,h6,h7];rfl)]
    simp
   ·exact .inl ⟨h1,h2,h3,by omega,h5,h6,h7⟩
theorem Sh{i j:Nat}:∀m,(kL s v T i j m).Nodup
 |0=>List.nodup_nil
 |m+1=>by
  unfold kL;rw[List.nodup_append];refine⟨Sh m,by split<;>simp,?_⟩
  rintro⟨a,b,c⟩ hp q hq e;subst e;have:=Ge.1 hp;split at hq
  ·simp only[List.mem_singleton,Prod.mk.injEq]at hq;omega
  ·cases hq
theorem Ng{i:Nat}:∀{m:Nat} {a b c:Nat},(a,b,c)∈jL s v T i m↔a=i/\i<b/\b<i+1+m/\b<c/\c<v.length/\T i b=true/\T i c=true/\T b c=true/\iC s v i b c=true
 |0,a,b,c=>by
  unfold jL;simp only[List.not_mem_nil,false_iff];omega
 |m+1,a,b,c=>by
  unfold jL;rw[List.mem_append,Ng];constructor
  ·rintro(⟨h1,h2,h3,h4⟩|h)
   ·exact⟨h1,h2,by omega,h4⟩
   ·split at h
    ·rename_i g;obtain⟨h1,rfl,h3,h4,h5,h6,h7⟩:=Ge.1 h;exact⟨h1,by omega,by omega,h3,by omega,g,h5,h6,h7⟩
    ·cases h
  ·rintro⟨h1,h2,h3,h4,h5,h6,h7,h8,h9⟩;by_cases g:b=i+1+m
   ·subst g;right;rw[if_pos h6];exact Ge.2 ⟨h1,rfl,h4,by omega,h7,h8,h9⟩
   ·exact .inl ⟨h1,h2,by omega,h4,h5,h6,h7,h8,h9⟩
theorem Si{i:Nat}:∀m,(jL s v T i m).Nodup
 |0=>List.nodup_nil
 |m+1=>by
  unfold jL;rw[List.nodup_append];refine⟨Si m,by split;exact Sh _;simp,?_⟩
  rintro⟨a,b,c⟩ hp q hq e;subst e;have:=Ng.1 hp;split at hq
  ·have:=Ge.1 hq;omega
  ·cases hq
theorem Vt:∀{n:Nat} {a b c:Nat},(a,b,c)∈iL s v T n↔a<n/\a<b/\b<c/\c<v.length/\T a b=true/\T a c=true/\T b c=true/\iC s v a b c=true
 |0,a,b,c=>by
  unfold iL;simp only[List.not_mem_nil,false_iff];omega
 |n+1,a,b,c=>by
  unfold iL;rw[List.mem_append,Vt,Ng];constructor
  ·rintro(⟨h1,h2⟩|⟨rfl,h2,h3,h4,h5,h6⟩)
   ·exact⟨by omega,h2⟩
   ·exact⟨by omega,h2,h4,h5,h6⟩
  ·rintro⟨h1,h2,h3,h4,h5⟩;by_cases g:a=n
   ·subst g;exact .inr ⟨rfl,h2,by omega,h3,h4,h5⟩
   ·exact .inl ⟨by omega,h2,h3,h4,h5⟩
theorem Sl:∀n,(iL s v T n).Nodup
 |0=>List.nodup_nil
 |n+1=>by
  unfold iL;rw[List.nodup_append];refine⟨Sl n,Si _,?_⟩;rintro⟨a,b,c⟩ hp q hq e;subst e;have:=Vt.1 hp;have:=Ng.1 hq;omega
end
theorem Ty{l:List S}{a b:V}:Af l a b=true↔sJ l a b:=by
 unfold Af sJ;rw[List.any_eq_true];constructor
 ·rintro⟨e,he,h⟩;simp only[Bool.or_eq_true,Bool.and_eq_true,beq_iff_eq]at h;rcases h with⟨h1,h2⟩|⟨h1,h2⟩
  ·left;rw[<-h1,<-h2];exact he
  ·right;rw[<-h1,<-h2];exact he
 ·rintro(h|h)
  ·exact⟨_,h,by simp⟩
  ·exact⟨_,h,by simp⟩
section
variable {s:Shape} {v:List V} {T:Tab}
theorem aCQ{D:List S}(hT:∀i k,i<v.length->k<v.length->(T i k=true↔sides s D (nth v i) (nth v k))):Idx s D v (iL s v T v.length):=by
 refine⟨Sl _,fun i j k=> ?_⟩
 rw[Vt];constructor
 ·rintro⟨h1,h2,h3,h4,h5,h6,h7,h8⟩;exact⟨h2,h3,h4,(hT _ _ (by omega) (by omega)).1 h5,(hT _ _ (by omega) (by omega)).1 h6,(hT _ _ (by omega) (by omega)).1 h7,h8⟩
 ·rintro⟨h2,h3,h4,h5,h6,h7,h8⟩;exact⟨by omega,h2,h3,h4,(hT _ _ (by omega) (by omega)).2 h5,(hT _ _ (by omega) (by omega)).2 h6,(hT _ _ (by omega) (by omega)).2 h7,h8⟩
theorem aJv(h:VS s)(hp:v.Perm (aR s))(hT:∀i k,i<v.length->k<v.length->(T i k=true↔sides s (nU s v) (nth v i) (nth v k))):
  (iL s v T v.length).length+2=v.length+2*s.holes.length/\(nU s v).length+3=v.length+3*s.holes.length:=by
 have hv:∀x,x∈v↔x∈aR s:=fun x=>hp.mem_iff
 have hn:v.Nodup:=hp.nodup_iff.2 h.nodup;have G:=Yc h hv hn;have A:=(aCQ hT).all3 G hv hn;have t:=Ku G A;have d:=Xo G A;rw[List.length_map,<-hp.length_eq]at t;rw[<-hp.length_eq]at d;omega
end
end Go.Proofs.YtdaeofhdgabhjaaGreat.Geo
namespace Go.Proofs.YtdaeofhdgabhjaaGreat
open Go.RowKit
def trq(v:List Geo.V)(q:Nat×Nat×Nat):Geo.aD:=Geo.kR (Geo.nth v q.1) (Geo.nth v q.2.1) (Geo.nth v q.2.2)
theorem aAf(s:Geo.Shape)(v:List Geo.V)(T:Geo.Tab)(i j:Nat)(acc:List Geo.aD):∀m,Fr s v T i j acc m=acc++(Geo.kL s v T i j m).map (trq v)
 |0=>(List.append_nil _).symm
 |m+1=>by
  unfold Fr Kg Geo.kL;rw[aAf s v T i j acc m,List.map_append];split<;>simp[trq]
theorem aAg(s:Geo.Shape)(v:List Geo.V)(T:Geo.Tab)(i:Nat)(acc:List Geo.aD):∀m,Ej s v T i acc m=acc++(Geo.jL s v T i m).map (trq v)
 |0=>(List.append_nil _).symm
 |m+1=>by
  unfold Ej Geo.jL;rw[aAg s v T i acc m,List.map_append];split
  ·rw[aAf,List.append_assoc]
  ·simp
theorem aAj(s:Geo.Shape)(v:List Geo.V)(T:Geo.Tab):∀n,mB s v T n=(Geo.iL s v T n).map (trq v)
 |0=>rfl
 |n+1=>by
  unfold mB Geo.iL;rw[aAg,aAj s v T n,List.map_append]
theorem Sf{s:Geo.Shape}(h:Geo.aQ s=true){i k:Nat}(hi:i<(vOf s).length)(hk:k<(vOf s).length):tT s i k=true↔Geo.sides s (Geo.nU s (vOf s)) (Geo.nth (vOf s) i) (Geo.nth (vOf s) k):=by
 rw[<-aNk h hi hk,Geo.Ty,xJ h];unfold Geo.sides Geo.sJ;rw[List.mem_append,List.mem_append,List.mem_append,List.mem_append,or_comm (a:=_∈Geo.nU s (vOf s)),or_comm (a:=_∈Geo.nU s (vOf s))]
theorem sP{s:Geo.Shape}(h:Geo.aQ s=true):(vOf s).Perm (Geo.aR s):=by rw[Ns h];exact Geo.lK s
theorem Qv{s:Geo.Shape}(h:Geo.aQ s=true):(tOf s).Perm ((Geo.iL s (vOf s) (tT s) (vOf s).length).map (trq (vOf s))):=by
 unfold tOf;rw[if_pos h];unfold aG4;rw[<-aAj];exact Geo.oA _
theorem aDK{s:Geo.Shape}(h:Geo.aQ s=true):(tOf s).length+2=(vOf s).length+2*s.holes.length/\(dOf s).length+3=(vOf s).length+3*s.holes.length:=by
 have c:=Geo.aJv (T:=tT s) (vsR h) (sP h) fun i k hi hk=>Sf h hi hk
 rw[(Qv h).length_eq,List.length_map,xJ h];exact c
end Go.Proofs.YtdaeofhdgabhjaaGreat
namespace Go.Proofs.YtdaeofhdgabhjaaGreat.Geo
def T3.ring(t:T3):aD:=[t.a,t.b,t.c]
def aB5(r:aD):T3:=⟨nth r 0,nth r 1,nth r 2⟩
def Rt(t u:T3):Prop:=t=u\/t=u.rot\/t=u.rot.rot
theorem aJy(t:T3):∃u:T3,Rt u t/\cK t.ring=u.ring:=by
 have h:=fZ (r:=t.ring) (by simp[T3.ring])
 unfold cK;generalize cH t.ring=n at h;match n,h with
 |0,_=>exact⟨t,.inl rfl,rfl⟩
 |1,_=>exact⟨t.rot,.inr (.inl rfl),rfl⟩
 |2,_=>exact⟨t.rot.rot,.inr (.inr rfl),rfl⟩
def bgn(t:T3):T3:=aB5 (cK t.ring)
theorem aCZ(t:T3):Rt (bgn t) t/\cK t.ring=(bgn t).ring:=by
 obtain⟨u,h1,h2⟩:=aJy t;have:bgn t=u:=by unfold bgn;rw[h2];rfl
 rw[this];exact⟨h1,h2⟩
theorem Rt.symm{t u:T3}(h:Rt t u):Rt u t:=by
 rcases h with rfl|rfl|rfl
 ·exact .inl rfl
 ·exact .inr (.inr rfl)
 ·exact .inr (.inl rfl)
theorem Rt.trans{t u w:T3}(h:Rt t u)(g:Rt u w):Rt t w:=by
 rcases h with rfl|rfl|rfl<;>rcases g with rfl|rfl|rfl
 ·exact .inl rfl
 ·exact .inr (.inl rfl)
 ·exact .inr (.inr rfl)
 ·exact .inr (.inl rfl)
 ·exact .inr (.inr rfl)
 ·exact .inl rfl
 ·exact .inr (.inr rfl)
 ·exact .inl rfl
 ·exact .inr (.inl rfl)
section
variable {W:List V} {side:V->V->Prop} {ins:P3->Bool}
theorem Tri.rt{t u:T3}(h:Tri W side ins t.a t.b t.c)(g:Rt u t):Tri W side ins u.a u.b u.c:=by
 rcases g with rfl|rfl|rfl
 ·exact h
 ·exact h.rot
 ·exact h.rot.rot
theorem Vn{t u:T3}:¬Rt t u↔(t≠u/\t≠u.rot/\t≠u.rot.rot):=by unfold Rt;simp only[not_or]
theorem All3.rots{TL:List T3}(A:All3 W side ins TL){f:T3->T3}(hf:∀t,Rt (f t) t):All3 W side ins (TL.map f):=by
 refine⟨fun t ht=> ?_,fun a b c h=> ?_,?_⟩
 ·obtain⟨u,hu,rfl⟩:=List.mem_map.1 ht;exact(A.tri u hu).rt (hf u)
 ·have key:∀u:T3,u∈TL->Rt u ⟨a,b,c⟩->(⟨a,b,c⟩:T3)∈TL.map f\/(⟨b,c,a⟩:T3)∈TL.map f\/(⟨c,a,b⟩:T3)∈TL.map f:=fun u hu hr=>by
   have m:=List.mem_map_of_mem (f:=f) hu;rcases(hf u).trans hr with e|e|e
   ·rw[e]at m;exact .inl m
   ·rw[e]at m;exact .inr (.inl m)
   ·rw[e]at m;exact .inr (.inr m)
  rcases A.all a b c h with h|h|h
  ·exact key _ h (.inl rfl)
  ·exact key _ h (.inr (.inl rfl))
  ·exact key _ h (.inr (.inr rfl))
 ·rw[List.pairwise_map];refine A.once.imp fun{t u} h=> ?_
  rw[<-Vn]at h|-;exact fun g=>h (((hf t).symm.trans g).trans (hf u))
theorem All3.perm'{TL TM:List T3}(A:All3 W side ins TL)(p:TL.Perm TM):All3 W side ins TM:=by
 refine⟨fun t ht=>A.tri t (p.mem_iff.2 ht),fun a b c h=> ?_,?_⟩
 ·simp only[<-p.mem_iff];exact A.all a b c h
 ·refine(p.pairwise_iff fun{t u} h=> ?_).1 A.once
  rw[<-Vn]at h|-;exact fun g=>h g.symm
theorem aNs{a b c x y z:V}(hab:a≠b)(hbc:b≠c)(hca:c≠a)(ha:a=x\/a=y\/a=z)(hb:b=x\/b=y\/b=z)(hc:c=x\/c=y\/c=z)(h1:0<ev (lin a b) (pt c))(h2:0<ev (lin x y) (pt z)):Rt ⟨a,b,c⟩ ⟨x,y,z⟩:=by
 rcases ha with rfl|rfl|rfl<;>rcases hb with rfl|rfl|rfl<;>rcases hc with rfl|rfl|rfl
 all_goals first|exact absurd rfl ‹_› |exact .inl rfl|exact .inr (.inl rfl)|exact .inr (.inr rfl)|skip
 all_goals exfalso;unfold ev lin pt at h1 h2;grind
theorem aFR(N:Net W side){t u:T3}(ht:Tri W side ins t.a t.b t.c)(hu:Tri W side ins u.a u.b u.c){p q:P3}(hp:In [lin t.a t.b,lin t.b t.c,lin t.c t.a] p)(hpu:In [lin u.a u.b,lin u.b u.c,lin u.c u.a] p)
  (hq:In [lin t.a t.b,lin t.b t.c,lin t.c t.a] q):∀g∈[lin u.a u.b,lin u.b u.c,lin u.c u.a],0<ev g q:=by
 have P:=Am (u:=u.a) (v:=u.b) (w:=u.c) (by rw[<-gE];exact hu.left)
 obtain⟨m,n,hm,hn,hmn,h1,h2⟩:=aCo p q hp.1 hq.1 _ hpu.2;rcases h2 with h2|h2
 ·exfalso;have hd:0<(cmb m p n q).d:=by
   show 0<m*p.d+n*q.d;have a1:=Int.mul_nonneg hm (Int.le_of_lt hp.1);have a2:=Int.mul_nonneg hn (Int.le_of_lt hq.1);rcases Int.lt_or_le 0 m with h|h
   ·have:=Int.mul_pos h hp.1;omega
   ·have:=Int.mul_pos (show 0<n by omega) hq.1;omega
  obtain⟨s,hs,x,y,k,hx,hy,hk,e⟩:=P.side _ hd h2 h1;have hside:side s.a s.b:=by
   simp only[List.mem_cons,List.not_mem_nil,or_false]at hs;rcases hs with rfl|rfl|rfl
   ·exact hu.ab
   ·exact hu.bc
   ·exact hu.ca
  have pos:∀f∈[lin t.a t.b,lin t.b t.c,lin t.c t.a],0<ev f (cmb m p n q):=fun f hf=>by
   rw[aK];have a1:=Int.mul_nonneg hm (Int.le_of_lt (hp.2 f hf));have a2:=Int.mul_nonneg hn (Int.le_of_lt (hq.2 f hf));rcases Int.lt_or_le 0 m with h|h
   ·have:=Int.mul_pos h (hp.2 f hf);omega
   ·have:=Int.mul_pos (show 0<n by omega) (hq.2 f hf);omega
  have hxy:0<x+y:=by
   refine Classical.byContradiction fun h=> ?_
   have e1:=e (lin t.a t.b);have e2:=Int.mul_pos hk (pos (lin t.a t.b) (by simp))
   rw[show x=0 by omega,show y=0 by omega,Int.zero_mul,Int.zero_mul]at e1;omega
  obtain⟨f,hf,g⟩:=ht.free N s.a s.b hside x y hx hy hxy;have e2:=Int.mul_pos hk (pos f hf);rw[e f]at e2;change x*ev f (pt s.a)+y*ev f (pt s.b)<=0 at g;omega
 ·exact h2.2
theorem aBk{A B:Int}(h:∀n:Int,0<=n->0<n*A+B):0<=A:=by
 refine Classical.byContradiction fun g=> ?_
 have:=h (B.natAbs) (by omega)
 have h2:(B.natAbs:Int)*A<=(B.natAbs:Int)*(-1):=Int.mul_le_mul_of_nonneg_left (by omega) (by omega)
 omega
theorem Da(N:Net W side){t u:T3}(ht:Tri W side ins t.a t.b t.c)(hu:Tri W side ins u.a u.b u.c){p:P3}(hp:In [lin t.a t.b,lin t.b t.c,lin t.c t.a] p)(hpu:In [lin u.a u.b,lin u.b u.c,lin u.c u.a] p):
  t.a=u.a\/t.a=u.b\/t.a=u.c:=by
 have e:∀x y z:V,ev (lin x y) (pt z)=ev (lin y z) (pt x):=fun u v w=>by unfold ev lin pt;grind
 have hl:=ht.left;have key:∀g∈[lin u.a u.b,lin u.b u.c,lin u.c u.a],0<=ev g (pt t.a):=fun g hg=>by
  refine aBk (B:=ev g p) fun n hn=> ?_
  have:=aFR N ht hu hp hpu (q:=cmb n (pt t.a) 1 p) ⟨by show 0<n*1+1*p.d;have:=hp.1;omega,fun f hf=> ?_⟩ g hg
  ·rw[aK]at this;omega
  ·have h0:0<=ev f (pt t.a):=by
    simp only[List.mem_cons,List.not_mem_nil,or_false]at hf;rcases hf with rfl|rfl|rfl
    ·rw[bG];exact Int.le_refl _
    ·rw[<-e];omega
    ·rw[bQ];exact Int.le_refl _
   have h1:=hp.2 f hf;have h2:=Int.mul_nonneg hn h0;rw[aK];omega
 exact hu.empty _ (N.mem ht.ab) (key _ (by simp)) (key _ (by simp)) (key _ (by simp))
theorem aFC(N:Net W side){t u:T3}(ht:Tri W side ins t.a t.b t.c)(hu:Tri W side ins u.a u.b u.c){p:P3}(hp:In [lin t.a t.b,lin t.b t.c,lin t.c t.a] p)(hpu:In [lin u.a u.b,lin u.b u.c,lin u.c u.a] p):Rt t u:=by
 have i:∀{x y z:V},In [lin x y,lin y z,lin z x] p->In [lin y z,lin z x,lin x y] p:=fun h=>⟨h.1,fun f hf=>h.2 f (by simp only[List.mem_cons,List.not_mem_nil,or_false]at hf|-;rcases hf with h|h|h<;>simp[h])⟩
 exact aNs (N.ne ht.ab) (N.ne ht.bc) (N.ne ht.ca) (Da N ht hu hp hpu) (Da (t:=t.rot) N ht.rot hu (i hp) hpu) (Da (t:=t.rot.rot) N ht.rot.rot hu (i (i hp)) hpu) ht.left hu.left
end
end Go.Proofs.YtdaeofhdgabhjaaGreat.Geo
namespace Go.Proofs.YtdaeofhdgabhjaaGreat.Geo
theorem Hp{r:aD}(h:2<=r.length):area r=((edges r).map fun e=>cross e.a e.b).sum:=by
 unfold area edges;rw[if_neg (by omega),List.map_map];rfl
theorem qQ(t:T3):edges t.ring=t.sides:=mK _ _ _
theorem wD:∀TL:List T3,(TL.map T3.ring).flatMap edges=TL.flatMap T3.sides
 |[] =>rfl
 |t::TL=>by rw[List.map_cons,List.flatMap_cons,List.flatMap_cons,wD TL,qQ]
def iB(x e:S):Bool:=decide (e=x)||decide (e=swp x)
theorem Cz{x:S}(hx:x≠swp x):∀{l:List S},l.Nodup->l.countP (iB x)=(if x∈l then 1 else 0)+(if swp x∈l then 1 else 0)
 |[],_=>by simp
 |e::l,h=>by
  rw[List.nodup_cons]at h;rw[List.countP_cons,Cz hx h.2];unfold iB;by_cases h1:e=x
  ·subst h1;simp[h.1,hx.symm];exact Nat.add_comm _ _
  ·by_cases h2:e=swp x
   ·subst h2;simp[h.1,hx]
   ·simp[h1,h2,Ne.symm h1,Ne.symm h2]
section
variable {s:Shape} {D:List S}
theorem zC(T:Tg s D){t:T3}(h:Tri (aR s) (sides s D) (eI s) t.a t.b t.c):bW t.ring=true:=by
 have N:=T.filled.net;exact(yS (Kj (dZ T.vs (N.mem h.ab)) (dZ T.vs (N.mem h.bc)) (dZ T.vs (N.mem h.ca)))).2 (Al.2 h.left)
theorem Ha(T:Tg s D){t:T3}(h:Tri (aR s) (sides s D) (eI s) t.a t.b t.c){e:S}(he:sides s D e.a e.b):cO e t.ring=false:=by
 rw[Bool.eq_false_iff];intro g;obtain⟨x,y,hx,hy,hg⟩:=(wN _ _).1 g;obtain⟨f,hf,hle⟩:=h.free T.filled.net e.a e.b he x y (by omega) (by omega) (by omega)
 have:=hg f (by unfold iG;rw[qQ];exact hf)
 rw[Int.mul_comm x,Int.mul_comm y]at hle;exact absurd this (Int.not_lt.2 hle)
theorem Wa(T:Tg s D){t:T3}(h:Tri (aR s) (sides s D) (eI s) t.a t.b t.c):iI s t.ring=true:=by
 unfold iI;rw[Bool.and_eq_true,List.all_eq_true,beq_iff_eq];refine⟨fun e he=> ?_,((Cf T (v:=aR s) (fun x=>Iff.rfl) h.ab h.bc h.ca h.left).2 h).2⟩
 rw[Ha T h (e:=e) (.inl (List.mem_append_left _ he))];rfl
theorem Qr{W:List V}{side:V->V->Prop}{ins:P3->Bool}{t:T3}(h:Tri W side ins t.a t.b t.c){e:S}(he:e∈t.sides):side e.a e.b:=by
 rcases pW.1 he with⟨h1,h2⟩|⟨h1,h2⟩|⟨h1,h2⟩<;>rw[h1,h2]
 ·exact h.ab
 ·exact h.bc
 ·exact h.ca
theorem aC8(T:Tg s D){t u:T3}(ht:Tri (aR s) (sides s D) (eI s) t.a t.b t.c)(hu:Tri (aR s) (sides s D) (eI s) u.a u.b u.c)(hne:¬Rt t u):cY t.ring u.ring=false:=by
 have N:=T.filled.net;unfold cY;rw[Bool.or_eq_false_iff,Bool.or_eq_false_iff,List.any_eq_false,List.any_eq_false,beq_eq_false_iff_ne];refine⟨fun e he=> ?_,fun e he=> ?_,fun h=>hne ?_⟩
 ·rw[Ha T hu (Qr ht (by rw[<-qQ];exact he))];simp
 ·rw[Ha T ht (Qr hu (by rw[<-qQ];exact he))];simp
 ·have na:=dZ T.vs (N.mem ht.ab);have nb:=dZ T.vs (N.mem ht.bc);have nc:=dZ T.vs (N.mem ht.ca);have:=(Uy (zC T hu) (cU t.a t.b t.c) (rA na nb nc) (by rw[<-gE];exact hu.left)).1 h
  refine aFC N ht hu (Nn ht.left) ⟨by show(0:Int)<3;decide,fun f hf=> ?_⟩
  exact(Mj f t.a t.b t.c).1 (this f (by unfold iG;rw[mK];exact hf))
theorem aA6(t:T3):area t.ring=cross t.a t.b+cross t.b t.c+cross t.c t.a:=by
 rw[Hp (by simp[T3.ring]),qQ];unfold T3.sides;simp only[List.map_cons,List.map_nil,List.sum_cons,List.sum_nil];omega
theorem Ly:∀{hs:List aD},(∀r∈hs,2<=r.length)->(((hs.flatMap edges).map swp).map fun e=>cross e.a e.b).sum= -(hs.map area).sum
 |[],_=>rfl
 |r::hs,h=>by
  have c:∀l:List S,((l.map swp).map fun e=>cross e.a e.b).sum= -(l.map fun e=>cross e.a e.b).sum:=fun l=>by
   induction l with
   |nil=>rfl
   |cons e l ih=>
    simp only[List.map_cons,List.sum_cons,ih];have:cross (swp e).a (swp e).b= -cross e.a e.b:=by show cross e.b e.a=_;unfold cross;grind
    rw[this];omega
  rw[List.flatMap_cons,List.map_append,List.map_append,List.sum_append,Ly fun r hr=>h r (List.mem_cons_of_mem _ hr),c,<-Hp (h r List.mem_cons_self),List.map_cons,List.sum_cons]
  omega
theorem aAI(T:Tg s D){TL:List T3}(A:All3 (aR s) (sides s D) (eI s) TL):((TL.map T3.ring).map area).sum=area s.outer-(s.holes.map area).sum:=by
 have h:(TL.map fun t=>cross t.a t.b+cross t.b t.c+cross t.c t.a).sum=_:=Yu T A fun e=>cross e.a e.b
 rw[Ao (f:=fun d:S=>cross d.a d.b+cross (swp d).a (swp d).b) (fun d _=>by show cross d.a d.b+cross d.b d.a=0;unfold cross;grind)]at h
 unfold zS at h;rw[List.map_append,List.sum_append,Ly (fun r hr=>by have:=(T.vs.ring (List.mem_cons_of_mem _ hr)).three;omega),<-Hp (by have:=T.vs.outer.three;omega)]at h
 rw[List.map_map,show(area∘T3.ring)=fun t:T3=>cross t.a t.b+cross t.b t.c+cross t.c t.a from funext aA6]
 omega
theorem zD(T:Tg s D){TL:List T3}(A:All3 (aR s) (sides s D) (eI s) TL):((TL.map T3.ring).flatMap edges).Perm (Ek (zS s) D):=by
 rw[wD];exact A.perm T.filled (oB T (qV T) fun e he=>((mG T e).1 he).1) (tE T (mG T))
theorem Xn(T:Tg s D){TL:List T3}(A:All3 (aR s) (sides s D) (eI s) TL){x:S}(hx:x∈aE s):((TL.map T3.ring).flatMap edges).countP (iB x)=1:=by
 have N:=T.filled.net;have sx:sides s D x.a x.b:= .inl (List.mem_append_left _ hx);have hne:=N.ne sx;rw[(zD T A).countP_eq,Cz (fun e=>hne (congrArg S.a e)) (oB T (qV T) fun e he=>((mG T e).1 he).1)]
 have m1:=tE T (mG T) x;have m2:=tE T (mG T) (swp x);have:(Lft (eI s) x.a x.b/\¬Lft (eI s) x.b x.a)\/(Lft (eI s) x.b x.a/\¬Lft (eI s) x.a x.b):=by
  rw[tW,List.mem_append,List.mem_flatMap]at hx;rcases hx with hx|⟨r,hr,hx⟩
  ·exact .inl (mN T hx)
  ·exact .inr (nZ T hr hx)
 rcases this with⟨h1,h2⟩|⟨h1,h2⟩
 ·rw[if_pos (m1.2 ⟨sx,h1⟩),if_neg (fun h=>h2 (m2.1 h).2)]
 ·rw[if_neg (fun h=>h2 (m1.1 h).2),if_pos (m2.2 ⟨N.symm sx,h1⟩)]
theorem aD4(T:Tg s D){TL:List T3}(A:All3 (aR s) (sides s D) (eI s) TL){x:S}(hx:x∈D):((TL.map T3.ring).flatMap edges).countP (iB x)=2:=by
 have N:=T.filled.net;have sx:sides s D x.a x.b:= .inl (List.mem_append_right _ hx);have hne:=N.ne sx;rw[(zD T A).countP_eq,Cz (fun e=>hne (congrArg S.a e)) (oB T (qV T) fun e he=>((mG T e).1 he).1)]
 rw[if_pos (show x∈Ek (zS s) D from List.mem_append_right _ (List.mem_append_left _ hx)),if_pos (show swp x∈Ek (zS s) D from List.mem_append_right _ (List.mem_append_right _ (List.mem_map_of_mem hx)))]
theorem aAR(T:Tg s D){TL:List T3}(A:All3 (aR s) (sides s D) (eI s) TL):3*TL.length=(aE s).length+2*D.length:=by
 have h:=(zD T A).length_eq;have:∀l:List T3,((l.map T3.ring).flatMap edges).length=3*l.length:=fun l=>by
  rw[wD];induction l with
  |nil=>rfl
  |cons t l ih=>rw[List.flatMap_cons,List.length_append,ih];show 3+_=_;rw[List.length_cons];omega
 rw[this]at h;rw[h,tW];unfold Ek zS;simp only[List.length_append,List.length_map];omega
theorem aC6(T:Tg s D){v:List V}(hv:∀x,x∈v↔x∈aR s)(hn:v.Nodup){L:List (Nat×Nat×Nat)}(I:Idx s D v L){R:List aD}(p:R.Perm (L.map fun q=>kR (nth v q.1) (nth v q.2.1) (nth v q.2.2))):
  ∃TL,All3 (aR s) (sides s D) (eI s) TL/\R=TL.map T3.ring:=by
 have N:=T.filled.net;have e:(L.map fun q=>kR (nth v q.1) (nth v q.2.1) (nth v q.2.2))=((L.map (yI v)).map bgn).map T3.ring:=by
  rw[List.map_map,List.map_map];refine List.map_congr_left fun q hq=> ?_
  obtain⟨i,j,k⟩:=q;obtain⟨h1,h2,h3,sij,sik,sjk,he⟩:=(I.mem i j k).1 hq;have na:=dZ T.vs (N.mem sij);have nb:=dZ T.vs (N.mem sjk);have nc:=dZ T.vs (N.mem (N.symm sjk));have ht:turn (nth v i) (nth v j) (nth v k)≠0:=by
   unfold iC at he;rw[Bool.and_eq_true,Bool.and_eq_true,bne_iff_ne]at he;exact he.1.1
  show kR (nth v i) (nth v j) (nth v k)=(bgn (nB (nth v i) (nth v j) (nth v k))).ring;rw[<-(aCZ _).2];unfold kR dC nB;by_cases g:turn (nth v i) (nth v j) (nth v k)<0
  ·rw[if_pos g,if_pos g,if_pos ((yS (Kj na nc nb)).2 (by rw[pT];omega))];rfl
  ·rw[if_neg g,if_neg g,if_pos ((yS (Kj na nb nc)).2 (by omega))];rfl
 rw[e]at p;have q:=p.map aB5;rw[List.map_map,show(aB5∘T3.ring)=id from rfl,List.map_id]at q
 refine⟨R.map aB5,((I.all3 T hv hn).rots fun t=>(aCZ t).1).perm' q.symm,?_⟩
 rw[List.map_map]
 conv=>lhs;rw[<-List.map_id R]
 refine List.map_congr_left fun r hr=> ?_
 obtain⟨t,_,rfl⟩:=List.mem_map.1 (p.mem_iff.1 hr);rfl
end
end Go.Proofs.YtdaeofhdgabhjaaGreat.Geo
namespace Go.Proofs.YtdaeofhdgabhjaaGreat
open Go.RowKit
theorem aCN{s:Geo.Shape}(h:Geo.aQ s=true):Geo.Tg s (dOf s):=by
 rw[xJ h];exact Geo.Yc (vsR h) (fun x=>(sP h).mem_iff) ((sP h).nodup_iff.2 (vsR h).nodup)
theorem Se{s:Geo.Shape}(h:Geo.aQ s=true):∃TL,Geo.All3 (Geo.aR s) (Geo.sides s (dOf s)) (Geo.eI s) TL/\tOf s=TL.map Geo.T3.ring:=by
 refine Geo.aC6 (aCN h) (v:=vOf s) (fun x=>(sP h).mem_iff) ((sP h).nodup_iff.2 (vsR h).nodup) (Geo.aCQ fun i k hi hk=> ?_) (Qv h)
 rw[xJ h];exact Sf h hi hk
def cnR(x:Geo.S)(r:Geo.aD)(k:Nat):Nat:=(List.range k).countP fun j=>Geo.iB x ⟨Geo.nth r j,Geo.nth r ((j+1) % r.length)⟩
def cnI(l:List Geo.aD)(x:Geo.S)(i k:Nat):Nat:=((l.take i).map fun r=>cnR x r r.length).sum+cnR x (Geo.aA l i) k
def cnS(l:List Geo.aD)(x:Geo.S):Nat:=(l.map fun r=>cnR x r r.length).sum
theorem Sz(x:Geo.S)(r:Geo.aD)(k:Nat):cnR x r (k+1)=cnR x r k+if Geo.iB x ⟨Geo.nth r k,Geo.nth r ((k+1) % r.length)⟩=true then 1 else 0:=by
 unfold cnR;rw[List.range_succ,List.countP_append,List.countP_singleton]
theorem aCY(x:Geo.S)(r:Geo.aD)(k:Nat):cnR x r k<=k:=by
 unfold cnR;exact Nat.le_trans List.countP_le_length (by simp)
theorem aD7{l:List Geo.aD}(x:Geo.S){i:Nat}(h:i<l.length):cnI l x i (Geo.aA l i).length=cnI l x (i+1) 0:=by
 unfold cnI;rw[List.take_succ_eq_append_getElem h,List.map_append,List.sum_append,gY h];simp[cnR]
theorem aF3(l:List Geo.aD)(x:Geo.S):cnI l x l.length 0=cnS l x:=by
 unfold cnI cnS;rw[List.take_length];rfl
theorem aJw{l:List Geo.aD}(hl:l.length<=1000)(hr:∀r∈l,r.length<=1000)(x:Geo.S){i k:Nat}(hk:k<=1000):cnI l x i k<=1001000:=by
 have:∀m:List Geo.aD,(∀r∈m,r.length<=1000)->(m.map fun r=>cnR x r r.length).sum<=1000*m.length:=fun m=>by
  induction m with
  |nil=>intro _;exact Nat.le_refl _
  |cons r m ih=>
   intro h;have:=ih fun q hq=>h q (List.mem_cons_of_mem _ hq)
   have:=aCY x r r.length;have:=h r List.mem_cons_self;rw[List.map_cons,List.sum_cons,List.length_cons];omega
 have h1:=this (l.take i) fun r hr'=>hr r (List.mem_of_mem_take hr')
 have h2:=aCY x (Geo.aA l i) k;have h3:(l.take i).length<=1000:=by rw[List.length_take];omega
 unfold cnI;omega
theorem Db(x:Geo.S):∀{l:List Geo.aD},(∀r∈l,2<=r.length)->cnS l x=(l.flatMap Geo.edges).countP (Geo.iB x)
 |[],_=>rfl
 |r::l,h=>by
  have h2:=h r List.mem_cons_self;rw[List.flatMap_cons,List.countP_append,<-Db x fun q hq=>h q (List.mem_cons_of_mem _ hq)]
  unfold cnS cnR Geo.edges;rw[if_neg (by omega),List.countP_map,List.map_cons,List.sum_cons];rfl
theorem aAH{s:Geo.Shape}(h:Geo.aQ s=true):eM s (tOf s)=true/\(∀x∈Geo.aE s,cnS (tOf s) x=1)/\(∀x∈dOf s,cnS (tOf s) x=2)/\3*(tOf s).length=(Geo.aE s).length+2*(dOf s).length:=by
 have T:=aCN h;obtain⟨TL,A,e⟩:=Se h;have two:∀r∈tOf s,2<=r.length:=fun r hr=>by
  rw[e]at hr;obtain⟨t,_,rfl⟩:=List.mem_map.1 hr;exact(by decide:2<=3)
 refine⟨?_,fun x hx=> ?_,fun x hx=> ?_,?_⟩
 ·unfold eM;rw[Bool.and_eq_true,Bool.and_eq_true,List.all_eq_true,decide_eq_true_eq];refine⟨⟨(Geo.fU s).2 T.vs,fun i hi=> ?_⟩,?_⟩
  ·have hi:=List.mem_range.1 hi;have hm:Geo.aA (tOf s) i∈tOf s:=Geo.fD hi;obtain⟨t,ht,er⟩:∃t∈TL,t.ring=Geo.aA (tOf s) i:=List.mem_map.1 ((congrArg (fun l=>Geo.aA (tOf s) i∈l) e).mp hm)
   have A1:=A.tri t ht;have N:=T.filled.net;unfold ckA ckB;rw[<-er,Bool.and_eq_true];constructor
   ·rw[Geo.zC T A1,Geo.Wa T A1];have:t.ring.any (fgn (vOf s))=false:=by
     rw[List.any_eq_false];intro v hv;have hw:v∈vOf s:=(sP h).mem_iff.2 (by
      simp only[Geo.T3.ring,List.mem_cons,List.not_mem_nil,or_false]at hv;rcases hv with rfl|rfl|rfl
      ·exact N.mem A1.ab
      ·exact N.mem A1.bc
      ·exact N.mem A1.ca)
     unfold fgn;simp only[Bool.not_eq_true',Bool.not_eq_false,List.any_eq_true,decide_eq_true_eq];exact⟨v,hw,rfl⟩
    rw[this];simp[Geo.T3.ring]
   ·rw[Bool.not_eq_true',List.any_eq_false];intro r hr;obtain⟨j,hj,rfl⟩:=List.getElem_of_mem hr;rw[List.length_take]at hj;rw[List.getElem_take];have hTi:i<TL.length:=by have:=congrArg List.length e;rw[List.length_map]at this;omega
    have hTj:j<TL.length:=by omega
    have ei:t.ring=(TL[i]).ring:=by rw[er,gY hi];simp[e]
    have ej:(tOf s)[j]'(by omega)=(TL[j]).ring:=by simp[e]
    have et:t=TL[i] :=by have:=congrArg Geo.aB5 ei;exact this
    have pw:=(List.pairwise_iff_getElem.1 A.once) j i hTj hTi (by omega)
    rw[ej,Geo.aC8 T A1 (A.tri _ (List.getElem_mem hTj)) fun g=>Geo.Vn.2 pw (by rw[<-et];exact g.symm)]
    simp
  ·unfold a2S jD;rw[List.take_length,<-Geo.aAI T A,<-e]
   congr 1
   refine List.map_congr_left fun r hr=> ?_
   rw[e]at hr;obtain⟨t,ht,rfl⟩:=List.mem_map.1 hr;unfold a2;rw[if_pos (Geo.zC T (A.tri t ht))]
 ·rw[Db x two,e];exact Geo.Xn T A hx
 ·rw[Db x two,e];exact Geo.aD4 T A hx
 ·rw[e,List.length_map];exact Geo.aAR T A
end Go.Proofs.YtdaeofhdgabhjaaGreat
namespace Go.Proofs.YtdaeofhdgabhjaaGreat
open Go.RowKit
set_option maxRecDepth 100000
noncomputable section
open Geo (aE nth aA)
def tB:Tab:=cJ [(30,c30)] t29
theorem tBo:tB.Ok Tryz.prog:=aH aNW ⟨k30,trivial⟩
def c34:Con:=con (ac (aL .R) (a1 aS)) (fun(l,_)=>[l.length<=1000,(∀r∈l,r.length<=1000)]) (fun(l,x)=> .int .i64 (cnS l x:Int))
theorem k34:c34.Ok Tryz.prog 34:=aU (bL tBo) (raw:=bO) (fun(l,x)=>[lp 3 13 l.length (fun _=>[]) [] (fun i=>[(5,.int .i64 (cnI l x i 0:Int))]) (fun _=>[]) fun i=>[lp 6 19 (aA l i).length (fun _=>[]) [] (fun k=>[(5,.int .i64 (cnI l x i k:Int))]) (fun _=>[]) fun k=>[jb 10 55 (Geo.iB x ⟨nth (aA l i) k,nth (aA l i) ((k+1) % (aA l i).length)⟩)]]]
  ) (fun(_,_)=>⟨_,rfl⟩) fun(l,x) hp=>bM (q:=(0=(0:Int)/\0=(cnI l x 0 0:Int)/\(0:Nat)<=l.length)/\
 (∀x_1:Nat,x_1<=l.length->((x_1:Int)<l.length->ix (x_1:Int) l.length/\(0=(0:Int)/\(cnI l x x_1 0:Int)=cnI l x x_1 0/\(0:Nat)<=(aA l x_1).length)/\
   (∀x_2:Nat,x_2<=(aA l x_1).length->((x_2:Int)<(aA l x_1).length->ix (x_2:Int) (aA l x_1).length/\aG ((x_2:Int)+1)/\((aA l x_1).length:Int)≠0/\ix (((x_2+1) % (aA l x_1).length:Nat):Int) (aA l x_1).length/\(((nth (aA l x_1) x_2)=x.a->((nth (aA l x_1) ((x_2+1) % (aA l x_1).length))=x.b->true=Geo.iB x (⟨nth (aA l x_1) x_2,nth (aA l x_1) ((x_2+1) % (aA l x_1).length)⟩:Geo.S))/\
       (¬(nth (aA l x_1) ((x_2+1) % (aA l x_1).length))=x.b->((nth (aA l x_1) x_2)=x.b->decide ((nth (aA l x_1) ((x_2+1) % (aA l x_1).length))=x.a)=Geo.iB x (⟨nth (aA l x_1) x_2,nth (aA l x_1) ((x_2+1) % (aA l x_1).length)⟩:Geo.S))/\
        (¬(nth (aA l x_1) x_2)=x.b->false=Geo.iB x (⟨nth (aA l x_1) x_2,nth (aA l x_1) ((x_2+1) % (aA l x_1).length)⟩:Geo.S))))/\
      (¬(nth (aA l x_1) x_2)=x.a->((nth (aA l x_1) x_2)=x.b->decide ((nth (aA l x_1) ((x_2+1) % (aA l x_1).length))=x.a)=Geo.iB x (⟨nth (aA l x_1) x_2,nth (aA l x_1) ((x_2+1) % (aA l x_1).length)⟩:Geo.S))/\
       (¬(nth (aA l x_1) x_2)=x.b->false=Geo.iB x (⟨nth (aA l x_1) x_2,nth (aA l x_1) ((x_2+1) % (aA l x_1).length)⟩:Geo.S))))/\
     (∀y:Unit,(Geo.iB x (⟨nth (aA l x_1) x_2,nth (aA l x_1) ((x_2+1) % (aA l x_1).length)⟩:Geo.S)=true->aG ((cnI l x x_1 x_2:Int)+1)/\aG ((x_2:Int)+1)/\(x_2:Int)+1=((x_2+1:Nat):Int)/\(cnI l x x_1 x_2:Int)+1=cnI l x x_1 (x_2+1)/\x_2+1<=(aA l x_1).length/\(aA l x_1).length-(x_2+1)<(aA l x_1).length-x_2)/\
      (Geo.iB x (⟨nth (aA l x_1) x_2,nth (aA l x_1) ((x_2+1) % (aA l x_1).length)⟩:Geo.S)=false->aG ((x_2:Int)+1)/\(x_2:Int)+1=((x_2+1:Nat):Int)/\(cnI l x x_1 x_2:Int)=cnI l x x_1 (x_2+1)/\x_2+1<=(aA l x_1).length/\(aA l x_1).length-(x_2+1)<(aA l x_1).length-x_2)))/\
    (¬(x_2:Int)<(aA l x_1).length->aG ((x_1:Int)+1)/\(x_1:Int)+1=((x_1+1:Nat):Int)/\(cnI l x x_1 x_2:Int)=cnI l x (x_1+1) 0/\x_1+1<=l.length/\l.length-(x_1+1)<l.length-x_1)))/\
  (¬(x_1:Int)<l.length->(cnI l x x_1 0:Int)=cnS l x))) (by kernel_rfl) (by
  change l.length<=1000/\((∀r∈l,r.length<=1000))at hp;obtain⟨hl,hr⟩:=hp;have hr':∀i:Nat,(i:Int)<l.length->(aA l i).length<=1000:=fun i h=>hr _ (Geo.fD (by omega))
  have cb:=fun(i k:Nat) (h:k<=1000)=>aJw hl hr x (i:=i) h
  have si:∀p q:Geo.V,Geo.iB x ⟨p,q⟩=(decide (p=x.a)&&decide (q=x.b)||decide (p=x.b)&&decide (q=x.a)):=fun p q=>by
   obtain⟨a,b⟩:=x;unfold Geo.iB Geo.swp;simp only[Geo.S.mk.injEq,Bool.decide_and]
  have s1:∀p q:Geo.V,p=x.a->q=x.b->true=Geo.iB x ⟨p,q⟩:=fun p q h1 h2=>by rw[si,decide_eq_true h1,decide_eq_true h2];rfl
  have s2:∀p q:Geo.V,(¬q=x.b\/¬p=x.a)->p=x.b->decide (q=x.a)=Geo.iB x ⟨p,q⟩:=fun p q h1 h2=>by
   rw[si,decide_eq_true h2];rcases h1 with h1|h1<;>simp[h1]
  have s3:∀p q:Geo.V,(¬q=x.b\/¬p=x.a)->¬p=x.b->false=Geo.iB x ⟨p,q⟩:=fun p q h1 h2=>by
   rw[si,decide_eq_false h2];rcases h1 with h1|h1<;>simp[h1]
  have n1:∀i k:Nat,Geo.iB x ⟨nth (aA l i) k,nth (aA l i) ((k+1) % (aA l i).length)⟩=true->(cnI l x i k:Int)+1=cnI l x i (k+1):=fun i k h=>by
   unfold cnI;rw[Sz,h];simp;omega
  have n2:∀i k:Nat,Geo.iB x ⟨nth (aA l i) k,nth (aA l i) ((k+1) % (aA l i).length)⟩=false->(cnI l x i k:Int)=cnI l x i (k+1):=fun i k h=>by
   unfold cnI;rw[Sz,h];simp
  have n3:∀i k:Nat,(i:Int)<l.length->¬(k:Int)<(aA l i).length->k<=(aA l i).length->(cnI l x i k:Int)=cnI l x (i+1) 0:=fun i k h h1 h2=>by
   obtain rfl:k=(aA l i).length:=by omega
   rw[aD7 x (by omega)]
  have n4:∀i:Nat,¬(i:Int)<l.length->i<=l.length->(cnI l x i 0:Int)=cnS l x:=fun i h1 h2=>by
   obtain rfl:i=l.length:=by omega
   rw[aF3]
  have n5:∀i k:Nat,(i:Int)<l.length->(k:Int)<(aA l i).length->aG ((cnI l x i k:Int)+1):=fun i k h1 h2=>by
   have:=hr' i h1;have:=cb i k (by omega)
   exact dY (by omega)
  have n6:∀i k:Nat,(i:Int)<l.length->(k:Int)<(aA l i).length->aG ((k:Int)+1):=fun i k h1 h2=>by
   have:=hr' i h1;exact dY (by omega)
  clear hr cb si
  repeat' first|with_reducible apply And.intro|with_reducible intro
  all_goals repeat with_reducible cases‹_/\_›
  all_goals first|assumption|rfl|exact trivial|exact nb ‹_› |exact nb' ‹_› |omega|exact cV (by omega)|(unfold ix;omega)|(unfold aG;omega)|exact bC _|exact aC ‹_› ‹_› |(refine aC ‹_› ?_;simp_all;done)|exact s1 _ _ ‹_› ‹_› |exact s2 _ _ (.inl ‹_›) ‹_› |exact s2 _ _ (.inr ‹_›) ‹_› |exact s3 _ _ (.inl ‹_›) ‹_› |exact s3 _ _ (.inr ‹_›) ‹_› |exact n1 _ _ ‹_› |exact n2 _ _ ‹_› |exact n3 _ _ ‹_› ‹_› ‹_› |exact n4 _ ‹_› ‹_› |exact n5 _ _ ‹_› ‹_› |exact n6 _ _ ‹_› ‹_› |grind)
def t34:Tab:=cJ [(34,c34)] tB
theorem aNU:t34.Ok Tryz.prog:=aH tBo ⟨k34,trivial⟩
def c7:Con:=con (a1 aSh) (fun s=>[sL s]) (fun _=> .bool true)
theorem k7:c7.Ok Tryz.prog 7:=aU (bL aNU) (raw:=bO) (fun s=>[lp 11 49 (aE s).length (fun _=>[]) [] (fun _=>[]) (fun _=>[]),lp 17 60 (dOf s).length (fun _=>[]) [] (fun _=>[]) (fun _=>[])]
  ) (fun _=>⟨_,rfl⟩) fun s hp=>bM (q:=((!true)=true->false=true)/\
 ((!true)=false->sL s/\((!(oM s&&Geo.aQ s))=true->true=true)/\
  ((!(oM s&&Geo.aQ s))=false->Fit s/\Fit s/\(¬eOf s=0->false=true)/\
   (¬(¬eOf s=0)->(¬eOf s=0->false=true)/\
    (¬(¬eOf s=0)->Fit s/\(tOf s).length<=1000/\(∀r:Geo.aD,r∈tOf s->r.length<=1000)/\((!eM s (tOf s))=true->false=true)/\
     ((!eM s (tOf s))=false->Fit s/\(tOf s).length<=1000/\(∀r:Geo.aD,r∈tOf s->r.length<=1000)/\((!eM s (tOf s))=true->false=true)/\
      ((!eM s (tOf s))=false->Fit s/\(0=(0:Int)/\(0:Nat)<=(aE s).length)/\
       (∀x:Nat,x<=(aE s).length->((x:Int)<(aE s).length->ix (x:Int) (aE s).length/\(tOf s).length<=1000/\(∀r:Geo.aD,r∈tOf s->r.length<=1000)/\(¬(cnS (tOf s) (aX (aE s) x):Int)=1->false=true)/\
         (¬(¬(cnS (tOf s) (aX (aE s) x):Int)=1)->aG ((x:Int)+1)/\(x:Int)+1=((x+1:Nat):Int)/\x+1<=(aE s).length/\(aE s).length-(x+1)<(aE s).length-x))/\
        (¬(x:Int)<(aE s).length->(0=(0:Int)/\(0:Nat)<=(dOf s).length)/\
         (∀x_1:Nat,x_1<=(dOf s).length->((x_1:Int)<(dOf s).length->ix (x_1:Int) (dOf s).length/\(tOf s).length<=1000/\(∀r:Geo.aD,r∈tOf s->r.length<=1000)/\(¬(cnS (tOf s) (aX (dOf s) x_1):Int)=2->false=true)/\
           (¬(¬(cnS (tOf s) (aX (dOf s) x_1):Int)=2)->aG ((x_1:Int)+1)/\(x_1:Int)+1=((x_1+1:Nat):Int)/\x_1+1<=(dOf s).length/\(dOf s).length-(x_1+1)<(dOf s).length-x_1))/\
          (¬(x_1:Int)<(dOf s).length->aG (3*((tOf s).length:Int))/\aG (2*((dOf s).length:Int))/\aG (((aE s).length:Int)+2*(dOf s).length)/\decide (3*((tOf s).length:Int)=(aE s).length+2*(dOf s).length)=true))))))))))) (by kernel_rfl) (by
  change sL s at hp;have nb:∀{b:Bool},(!b)=false->b=true:=fun{b} h=>by cases b<;>simp_all
  have hf:(!(oM s&&Geo.aQ s))=false->Fit s:=fun h=>Sr hp (by have:=nb h;simp only[Bool.and_eq_true]at this;exact this.1)
  have R:(!(oM s&&Geo.aQ s))=false->Geo.aQ s=true:=fun h=>by have:=nb h;simp only[Bool.and_eq_true]at this;exact this.2
  have e0:(!(oM s&&Geo.aQ s))=false->eOf s=0:=fun h=>by unfold eOf;rw[R h];rfl
  have L:=fun h:(!(oM s&&Geo.aQ s))=false=>aAH (R h)
  have l3:(!(oM s&&Geo.aQ s))=false->∀r∈tOf s,r.length<=1000:=fun h r hr=>by
   obtain⟨TL,A,e⟩:=Se (R h);rw[e]at hr;obtain⟨t,_,rfl⟩:=List.mem_map.1 hr;exact(by decide:3<=1000)
  have c1:(!(oM s&&Geo.aQ s))=false->(!eM s (tOf s))=true->false=true:=fun h h2=>by rw[(L h).1]at h2;exact h2
  have c2:(!(oM s&&Geo.aQ s))=false->∀x:Nat,(x:Int)<(aE s).length->¬(cnS (tOf s) (aX (aE s) x):Int)=1->false=true:=fun h x hx h2=>absurd (by rw[(L h).2.1 _ (by rw[fA (by omega)];exact List.getElem_mem _)];rfl) h2
  have c3:(!(oM s&&Geo.aQ s))=false->∀x:Nat,(x:Int)<(dOf s).length->¬(cnS (tOf s) (aX (dOf s) x):Int)=2->false=true:=fun h x hx h2=>absurd (by rw[(L h).2.2.1 _ (by rw[fA (by omega)];exact List.getElem_mem _)];rfl) h2
  have c4:(!(oM s&&Geo.aQ s))=false->decide (3*((tOf s).length:Int)=(aE s).length+2*(dOf s).length)=true:=fun h=>decide_eq_true (by have:=(L h).2.2.2;omega)
  have hd:=aF1 s;have he:(!(oM s&&Geo.aQ s))=false->(tOf s).length<=1000/\(aE s).length<=100000:=fun h=>by
   have h1:=(L h).2.2.2;have h2:=(aDK (R h)).1;have h3:=(vsR (R h)).few;have h4:=Bt s;omega
  repeat' first|with_reducible apply And.intro|with_reducible intro
  all_goals first|assumption|(with_reducible exact hf ‹_›)|rfl|exact l3 ‹_› _ ‹_› |exact c1 ‹_› ‹_› |exact c2 ‹_› _ ‹_› ‹_› |exact c3 ‹_› _ ‹_› ‹_› |exact c4 ‹_› |(exfalso;exact absurd (e0 ‹_›) ‹_›)|(have h2:=he ‹_›;clear hf R e0 L l3 c1 c2 c3 c4 he;first|omega|(unfold ix;omega)|(unfold aG;omega)))
end
end Go.Proofs.YtdaeofhdgabhjaaGreat
namespace Go.Proofs.YtdaeofhdgabhjaaGreat
open Go.ChangeShapes Go.WideShapes Go.ChangeAt Go.RowKit Go.Joins Go.Deep
theorem aBq(s:Geo.Shape)(hs:sL s):Sat Tryz.prog false 7 [gR s] (.bool true):=
 vO (k7 [aSh.enc s] s rfl ((fE (l:=c7.pre s)).1 hs)) (by simp only[avs,Dm];rfl) rfl
set_option maxRecDepth 100000 in
theorem Pi(os:Os)(started:os.Started)(H:Type)(enc:TypeId×Value->H):
  ReturnsInHanded {} Tryz.checked os 7 .any (Rows.triangleSidesSpec.pre6 enc Tryz.prog Tryz.f7 Rows.triangleSidesRow.domain false) (Rows.triangleSidesSpec.post enc Tryz.prog Tryz.f7 false true false false):=by
 refine returnsInHanded_of_change_sized (C:=Tryz.checked) Tryz.own started (by kernel_rfl) Tryz.func7
  (ChangeSpec.witness6 (enc:=enc) (C:=Tryz.checked) false ⟨#[], #[(.agg #[.slice none 0 0,.slice none 0 0])],[]⟩ 8 (by kernel_rfl) (by kernel_rfl) (by kernel_rfl) (by kernel_rfl)) ?_
 intro W base args ds gs before hval0 hW hcnd hsz0 _;have hval:∀(j:Nat) t v,Tryz.f7.params[j]? =some t->args[j]? =some v->Value.okWide Tryz.prog W .any base t v:=hval0;have hsz:(DataW.weightsEach Tryz.prog (Tryz.f7.params.toList++Rows.triangleSidesSpec.plain.varTypes Tryz.prog) (ds++gs)).all (· <=reachBytes)=true:=hsz0
 have hW':=hW;obtain⟨p,q,hA0,hV,rfl,hfz,hnd⟩:=hW;have hA:DataW.TrodAll enc Tryz.prog W 0 (fun _=>true) true Tryz.f7.params.toList args.toList ds p:=hA0
 rw[Tryz.params7]at hA hval hsz;obtain⟨v0,d0,rfl,rfl,h0⟩:=trodAll_one hA;obtain⟨rfl,rfl⟩:=trodVars_none hV;have hw0:∀n∈DataW.weights Tryz.prog 26 d0,n<=reachBytes:=fun n hn=>by
  have:=List.all_eq_true.1 hsz n (DataW.weights_mem_each (j:=0) (t:=26) rfl rfl n hn);simpa using this
 obtain⟨s,r0,b0⟩:=Wp (hval 0 26 v0 rfl rfl) h0 hw0;clear hA0 hval0;simp only[List.append_nil]at hW';have hcall:=(aBq s b0).2 (vN W) W [v0] (fun _ _ _ h=>h) (by unfold cG;exact⟨v0,[],rfl,r0,by unfold cG;rfl⟩)
 refine hcall.mono fun e W' ⟨v,he,hr,hB⟩=> ?_
 unfold bI at hr;subst he hr;have hlt0:∀x∈p,x.block<W.heap.size:=fun x hx=>by simpa using hW'.lt x hx
 refine⟨_,rfl,_,_,_,[],p,[],hW',?_,?_,rfl,hB.frame _,fun h=>by cases h⟩
 ·exact trodAll_mk1 (shut_bool Tryz.underlying4 true)
 ·exact trodAll_mk1 (Below.trod Tryz.laidOut (by kernel_rfl) (of_decide_eq_true (by kernel_rfl)) h0 hB hlt0)
theorem sides_holds:Rows.TriangleSidesSaid:=
 OpenClaim.holds_of_wide 7 Tryz.f7 rfl rfl rfl rfl rfl rfl rfl ⟨rfl,rfl,rfl,rfl,rfl⟩ rfl rfl rfl rfl rfl (by kernel_rfl) Tryz.func7 (by kernel_rfl)
  (of_decide_eq_true (by kernel_rfl)) (by unfold Func.isWrapper;first|(rw[if_pos (by decide+kernel)];kernel_rfl)|(rw[if_neg (by decide+kernel)];exact⟨rfl,rfl⟩))
  (fun os started H enc _=>Pi os started H enc)
end Go.Proofs.YtdaeofhdgabhjaaGreat
