/- ConvexMeet returns true for every two lists of rings, no condition (K28 K29 K30 H1 H2 H3 H4 K18 H9 J15 K31 M0 K32 K33 K34 Q0 K36 Q9) -/
import Derived.Test.YtdaeofhdgabhjaaGreatCM4
import Derived.Test.YtdaeofhdgabhjaaGreatRows
import Derived.ProofKit
import Derived.Carry
import Derived.SizedLaws
import Derived.Deep.SlicePairs
import Derived.Lib.SmallJoins
namespace Go.Proofs.YtdaeofhdgabhjaaGreat
open Go.RowKit
noncomputable section
open Geo (aB)
def fT(L:List (List Int))(a b:Nat):List (List Int):=L.set a (cV L a++[(b:Int)])
def both(L:List (List Int))(a b:Nat):List (List Int):=fT (fT L a b) b a
def rgO(base m:Nat):Nat->List (List Int)->List (List Int)
 |0,L=>L
 |i+1,L=>both (rgO base m i L) (base+i) (base+(i+1) % m)
def rgN(n base m:Nat):Nat->List Int->List Int
 |0,N=>N
 |i+1,N=>if n=0 then(rgN n base m i N).set (base+i) ((base+(i+1) % m:Nat):Int)else(rgN n base m i N).set (base+(i+1) % m) ((base+i:Nat):Int)
def bs(R:List Geo.aH)(k:Nat):Nat:=(R.take k).flatten.length
def rsO(R:List Geo.aH):Nat->List (List Int)->List (List Int)
 |0,L=>L
 |k+1,L=>rgO (bs R k) (aB R k).length (aB R k).length (rsO R k L)
def rsN(R:List Geo.aH):Nat->List Int->List Int
 |0,N=>N
 |k+1,N=>rgN k (bs R k) (aB R k).length (aB R k).length (rsN R k N)
def dgO(v:List Geo.V)(D:List Geo.S):Nat->List (List Int)->List (List Int)
 |0,L=>L
 |k+1,L=>both (dgO v D k L) (cY v (bK D k).a) (cY v (bK D k).b)
def dgP(v:List Geo.V)(D:List Geo.S):List (Nat×Nat):=D.map fun d=>(cY v d.a,cY v d.b)
def stO(v:List Geo.V):Nat->List (List Int)->List (List Int)
 |0,L=>L
 |k+1,L=>(stO v k L).set k (qV (ltA v k) (cV (stO v k L) k))
def oX(s:Geo.Shape)(k:Nat):List (List Int):=rsO (Geo.aA (aC s)) k (List.replicate (vOf s).length [])
def nX(s:Geo.Shape)(k:Nat):List Int:=rsN (Geo.aA (aC s)) k (List.replicate (vOf s).length 0)
def oB(s:Geo.Shape):List (List Int):=rsO (Geo.aA (aC s)) (Geo.aA (aC s)).length (List.replicate (vOf s).length [])
def oD(s:Geo.Shape):List (List Int):=dgO (vOf s) (dOf s) (dOf s).length (oB s)
def oG(s:Geo.Shape):List (List Int):=stO (vOf s) (vOf s).length (oD s)
def nG(s:Geo.Shape):List Int:=rsN (Geo.aA (aC s)) (Geo.aA (aC s)).length (List.replicate (vOf s).length 0)
def pG(s:Geo.Shape):List (Nat×Nat):=dgP (vOf s) (dOf s)
theorem Lu(L:List (List Int))(a c:Nat)(x:List Int):cV (L.set a x) c=if c=a/\a<L.length then x else cV L c:=by
 unfold cV;rw[List.getD_eq_getElem?_getD,List.getD_eq_getElem?_getD,List.getElem?_set];by_cases h:a=c
 ·subst h;by_cases h2:a<L.length
  ·rw[if_pos rfl,if_pos h2,if_pos ⟨rfl,h2⟩];rfl
  ·rw[if_pos rfl,if_neg h2,if_neg fun h=>h2 h.2,List.getElem?_eq_none (by omega)]
 ·rw[if_neg h,if_neg fun h2=>h h2.1.symm]
theorem wP(L:List (List Int))(a b:Nat):(fT L a b).length=L.length:=List.length_set ..
theorem Mz(L:List (List Int))(a b:Nat):(both L a b).length=L.length:=by unfold both;rw[wP,wP]
theorem Im(base m:Nat)(L:List (List Int)):∀i,(rgO base m i L).length=L.length
 |0=>rfl
 |i+1=>(Mz _ _ _).trans (Im base m L i)
theorem In(n base m:Nat)(N:List Int):∀i,(rgN n base m i N).length=N.length
 |0=>rfl
 |i+1=>by unfold rgN;split<;>rw[List.length_set,In n base m N i]
theorem Td(R:List Geo.aH)(L:List (List Int)):∀k,(rsO R k L).length=L.length
 |0=>rfl
 |k+1=>(Im _ _ _ _).trans (Td R L k)
theorem Te(R:List Geo.aH)(N:List Int):∀k,(rsN R k N).length=N.length
 |0=>rfl
 |k+1=>(In _ _ _ _ _).trans (Te R N k)
theorem Iy(v:List Geo.V)(D:List Geo.S)(L:List (List Int)):∀k,(dgO v D k L).length=L.length
 |0=>rfl
 |k+1=>(Mz _ _ _).trans (Iy v D L k)
theorem Af(v:List Geo.V)(L:List (List Int)):∀k,(stO v k L).length=L.length
 |0=>rfl
 |k+1=>(List.length_set ..).trans (Af v L k)
theorem Zv(s:Geo.Shape)(k:Nat):(oX s k).length=(vOf s).length:=(Td _ _ k).trans List.length_replicate
theorem Pk(s:Geo.Shape)(k:Nat):(nX s k).length=(vOf s).length:=(Te _ _ k).trans List.length_replicate
theorem Zw(s:Geo.Shape):(oB s).length=(vOf s).length:=Zv s _
theorem Pj(s:Geo.Shape):(oD s).length=(vOf s).length:=(Iy _ _ _ _).trans (Zw s)
theorem aFl(s:Geo.Shape):(oG s).length=(vOf s).length:=(Af _ _ _).trans (Pj s)
theorem Id{L:List (List Int)}{t:Nat}(h:∀c,(cV L c).length<=t)(a b c:Nat):(cV (fT L a b) c).length<=t+1:=by
 unfold fT;rw[Lu];have:=h c;have:=h a;split
 ·rw[List.length_append];simp;omega
 ·omega
theorem aAe{L:List (List Int)}{t:Nat}(h:∀c,(cV L c).length<=t)(a b c:Nat):(cV (both L a b) c).length<=t+2:=Id (Id h a b) b a c
theorem Yr{L:List (List Int)}{t:Nat}(h:∀c,(cV L c).length<=t)(base m:Nat):∀i c,(cV (rgO base m i L) c).length<=t+2*i
 |0,c=>h c
 |i+1,c=>aAe (Yr h base m i) _ _ c
theorem Jb{R:List Geo.aH}{k:Nat}(h:k<R.length):bs R k+(aB R k).length=bs R (k+1):=by
 unfold bs;rw[List.take_succ_eq_append_getElem h,List.flatten_append,List.flatten_singleton,List.length_append,lZ h]
theorem aEj(R:List Geo.aH)(k:Nat):bs R k<=R.flatten.length:=by
 unfold bs
 conv=>rhs;rw[<-List.take_append_drop k R,List.flatten_append,List.length_append]
 omega
theorem aDZ{L:List (List Int)}{t:Nat}(h:∀c,(cV L c).length<=t)(R:List Geo.aH):∀k,k<=R.length->∀c,(cV (rsO R k L) c).length<=t+2*bs R k
 |0,_,c=>h c
 |k+1,hk,c=>by
  have:=Yr (aDZ h R k (by omega)) (bs R k) (aB R k).length (aB R k).length c
  have e:=Jb (R:=R) (k:=k) (by omega)
  show(cV (rgO _ _ _ _) c).length<=_;omega
theorem aHv(s:Geo.Shape)(k:Nat)(hk:k<=(Geo.aA (aC s)).length)(c:Nat):(cV (oX s k) c).length<=2*bs (Geo.aA (aC s)) k:=by
 have:=aDZ (L:=List.replicate (vOf s).length []) (t:=0) (fun c=>by
  unfold cV;rw[List.getD_eq_getElem?_getD,List.getElem?_replicate];split<;>simp) (Geo.aA (aC s)) k hk c
 rw[Nat.zero_add]at this;exact this
theorem aEc{L:List (List Int)}{t:Nat}(h:∀c,(cV L c).length<=t)(v:List Geo.V)(D:List Geo.S):∀i c,(cV (dgO v D i L) c).length<=t+2*i
 |0,c=>h c
 |i+1,c=>aAe (aEc h v D i) _ _ c
theorem Pa(v:List Geo.V)(L:List (List Int)):∀k c,c<L.length->cV (stO v k L) c=if c<k then qV (ltA v c) (cV L c)else cV L c
 |0,c,_=>(if_neg (Nat.not_lt_zero c)).symm
 |k+1,c,hc=>by
  show cV ((stO v k L).set k (qV (ltA v k) (cV (stO v k L) k))) c=_;rw[Lu,Af];by_cases h:c=k
  ·subst h;rw[if_pos ⟨rfl,hc⟩,if_pos (by omega),Pa v L c c hc,if_neg (Nat.lt_irrefl c)]
  ·rw[if_neg fun h2=>h h2.1,Pa v L k c hc]
   by_cases h3:c<k
   ·rw[if_pos h3,if_pos (by omega)]
   ·rw[if_neg h3,if_neg (by omega)]
theorem Ib{s:Geo.Shape}(hv:Geo.aM s=true):(dOf s).length<=6400/\∀d∈dOf s,d.a∈vOf s/\d.b∈vOf s:=by
 have V:Geo.VS s:=(Geo.gX s).1 hv;have R:Geo.fK s=true:=by rw[<-Geo.jE];exact hv
 have dE:(Geo.cZ s (vOf s)).map (Geo.eF (vOf s))=dOf s:=by
  rw[Uh R,If R];exact(Geo.Ug V (fun x hx=>(Geo.jK s).subset hx) ((Geo.jK s).nodup_iff.2 V.nodup)).1
 have hvl:=xF s;have pL:(Geo.cZ s (vOf s)).length<=6400:=by
  have:=nU (s:=s) (v:=vOf s) (vOf s).length;have h2:(vOf s).length*(vOf s).length<=80*80:=Nat.mul_le_mul hvl hvl;unfold Geo.cZ;omega
 refine⟨by rw[<-dE,List.length_map];exact pL,fun d hd=> ?_⟩
 rw[<-dE]at hd;obtain⟨p,hp,rfl⟩:=List.mem_map.1 hd;have:=Cz hp;exact⟨Geo.dW (by omega),Geo.dW (by omega)⟩
def GOk(s:Geo.Shape):Prop:=∀k,k<(vOf s).length->0<(cV (oD s) k).length/\(∀x∈cV (oD s) k,0<=x/\x.toNat<(vOf s).length)/\OrdOn (ltA (vOf s) k) (cV (oD s) k)
def jF(key:Nat)(x:Nat)(L:List (List Int)):Nat×Ann:=(key+10000,.mk Unit (fun _ _=>some ()) [] (fun _=>[]) (fun _=>[]) (fun _=>[(x,.fam 112 3 .I L [])]) (fun _=>0) (fun _=>[]))
def aH7:Con:=aEQ (a1 aSh) (fun s=>[Fit s,Geo.aM s=true,GOk s]) (fun s=> .tup [.ptr 19 0,.own 40 .P (pG s).length]) (fun s=>[(19,some (.box 114 [.lst .V (vOf s),.owF 14 (vOf s).length,.own 17 .I (vOf s).length])),(14,some (.fam 112 3 .I (oG s) [])),(17,some (.row 3 .I (nG s))),(40,some (.row 67 .P (pG s)))])
set_option maxRecDepth 100000 in
set_option maxHeartbeats 4000000 in
theorem aKD:aH7.Ok Tryz.prog 171:=Ui (bP aDO) (st:=true) (raw:=bR) (fun s=>[lp 5 39 (Geo.aA (aC s)).length (fun _=>[]) [] (fun k=>[(7,.int .i64 (bs (Geo.aA (aC s)) k:Nat))]) (fun k=>[(14,.fam 112 3 .I (oX s k) []),(17,.row 3 .I (nX s k))]) fun k=>
  [lp 8 46 (aB (Geo.aA (aC s)) k).length (fun _=>[]) [] (fun _=>[]) (fun i=>[(14,.fam 112 3 .I (rgO (bs (Geo.aA (aC s)) k) (aB (Geo.aA (aC s)) k).length i (oX s k)) []),(17,.row 3 .I (rgN k (bs (Geo.aA (aC s)) k) (aB (Geo.aA (aC s)) k).length i (nX s k)))]) fun i=>
  [jU 11 [(11,.int .i64 (bs (Geo.aA (aC s)) k+i:Nat)),(12,.int .i64 (bs (Geo.aA (aC s)) k+(i+1) % (aB (Geo.aA (aC s)) k).length:Nat))],
  jF 12 14 (fT (rgO (bs (Geo.aA (aC s)) k) (aB (Geo.aA (aC s)) k).length i (oX s k)) (bs (Geo.aA (aC s)) k+i) (bs (Geo.aA (aC s)) k+(i+1) % (aB (Geo.aA (aC s)) k).length))]],
  lp 22 120 (dOf s).length (fun _=>[]) [40] (fun k=>[(13,.own 40 .P k)]) (fun k=>[(14,.fam 112 3 .I (dgO (vOf s) (dOf s) k (oB s)) []),(40,.row 67 .P ((pG s).take k))]) fun k=>
  [jF 26 14 (fT (dgO (vOf s) (dOf s) k (oB s)) (cY (vOf s) (bK (dOf s) k).a) (cY (vOf s) (bK (dOf s) k).b))],
  lp 30 173 (vOf s).length (fun _=>[]) [] (fun _=>[]) (fun k=>[(14,.fam 112 3 .I (stO (vOf s) k (oD s)) []),(0,.box 0 [.undef])])]) fun s hp=>bQ (q:=Fit s/\0<=((vOf s).length:Int)/\((vOf s).length:Int)=(vOf s).length/\((vOf s).length:Int)<=1000000/\(vOf s).length*24<=1000000000/\0<=((vOf s).length:Int)/\((vOf s).length:Int)=(vOf s).length/\((vOf s).length:Int)<=1000000/\(vOf s).length*8<=1000000000/\Fit s/\Fit (aC s)/\(0:Nat)<(aC s).outer.length/\(∀r:Geo.aH,r∈(aC s).holes->(0:Nat)<r.length)/\(0=(0:Int)/\0=(bs (Geo.aA (aC s)) 0:Int)/\List.replicate (vOf s).length ([] :List Int)=oX s 0/\List.replicate (vOf s).length 0=nX s 0/\(0:Nat)<=(Geo.aA (aC s)).length)/\
 (∀x:Nat,x<=(Geo.aA (aC s)).length->((x:Int)<(Geo.aA (aC s)).length->ix (x:Int) (Geo.aA (aC s)).length/\(0=(0:Int)/\oX s x=rgO (bs (Geo.aA (aC s)) x) (aB (Geo.aA (aC s)) x).length 0 (oX s x)/\nX s x=rgN x (bs (Geo.aA (aC s)) x) (aB (Geo.aA (aC s)) x).length 0 (nX s x)/\(0:Nat)<=(aB (Geo.aA (aC s)) x).length)/\
   (∀x_1:Nat,x_1<=(aB (Geo.aA (aC s)) x).length->((x_1:Int)<(aB (Geo.aA (aC s)) x).length->(aK ((bs (Geo.aA (aC s)) x:Int)+x_1)/\aK ((x_1:Int)+1)/\((aB (Geo.aA (aC s)) x).length:Int)≠0/\aK ((bs (Geo.aA (aC s)) x:Int)+(((x_1+1) % (aB (Geo.aA (aC s)) x).length:Nat):Int))/\(bs (Geo.aA (aC s)) x:Int)+x_1=((bs (Geo.aA (aC s)) x+x_1:Nat):Int)/\(bs (Geo.aA (aC s)) x:Int)+(((x_1+1) % (aB (Geo.aA (aC s)) x).length:Nat):Int)=((bs (Geo.aA (aC s)) x+(x_1+1) % (aB (Geo.aA (aC s)) x).length:Nat):Int))/\
     (∀y:Unit,(ix ((bs (Geo.aA (aC s)) x+x_1:Nat):Int) (vOf s).length/\bs (Geo.aA (aC s)) x+x_1<(rgO (bs (Geo.aA (aC s)) x) (aB (Geo.aA (aC s)) x).length x_1 (oX s x)).length/\bs (Geo.aA (aC s)) x+x_1<(rgO (bs (Geo.aA (aC s)) x) (aB (Geo.aA (aC s)) x).length x_1 (oX s x)).length/\(List.getD (rgO (bs (Geo.aA (aC s)) x) (aB (Geo.aA (aC s)) x).length x_1 (oX s x)) (bs (Geo.aA (aC s)) x+x_1) ([] :List Int)).length=(List.getD (rgO (bs (Geo.aA (aC s)) x) (aB (Geo.aA (aC s)) x).length x_1 (oX s x)) (bs (Geo.aA (aC s)) x+x_1) ([] :List Int)).length/\(List.getD (rgO (bs (Geo.aA (aC s)) x) (aB (Geo.aA (aC s)) x).length x_1 (oX s x)) (bs (Geo.aA (aC s)) x+x_1) ([] :List Int)).length+[((bs (Geo.aA (aC s)) x+(x_1+1) % (aB (Geo.aA (aC s)) x).length:Nat):Int)].length<=1000000/\ix ((bs (Geo.aA (aC s)) x+x_1:Nat):Int) (vOf s).length/\bs (Geo.aA (aC s)) x+x_1=bs (Geo.aA (aC s)) x+x_1/\bs (Geo.aA (aC s)) x+x_1<(rgO (bs (Geo.aA (aC s)) x) (aB (Geo.aA (aC s)) x).length x_1 (oX s x)).length/\bs (Geo.aA (aC s)) x+x_1<(rgO (bs (Geo.aA (aC s)) x) (aB (Geo.aA (aC s)) x).length x_1 (oX s x)).length/\(List.getD (rgO (bs (Geo.aA (aC s)) x) (aB (Geo.aA (aC s)) x).length x_1 (oX s x)) (bs (Geo.aA (aC s)) x+x_1) ([] :List Int)++[((bs (Geo.aA (aC s)) x+(x_1+1) % (aB (Geo.aA (aC s)) x).length:Nat):Int)]).length=(List.getD (rgO (bs (Geo.aA (aC s)) x) (aB (Geo.aA (aC s)) x).length x_1 (oX s x)) (bs (Geo.aA (aC s)) x+x_1) ([] :List Int)++[((bs (Geo.aA (aC s)) x+(x_1+1) % (aB (Geo.aA (aC s)) x).length:Nat):Int)]).length/\List.set (rgO (bs (Geo.aA (aC s)) x) (aB (Geo.aA (aC s)) x).length x_1 (oX s x)) (bs (Geo.aA (aC s)) x+x_1) (List.getD (rgO (bs (Geo.aA (aC s)) x) (aB (Geo.aA (aC s)) x).length x_1 (oX s x)) (bs (Geo.aA (aC s)) x+x_1) ([] :List Int)++[((bs (Geo.aA (aC s)) x+(x_1+1) % (aB (Geo.aA (aC s)) x).length:Nat):Int)])=fT (rgO (bs (Geo.aA (aC s)) x) (aB (Geo.aA (aC s)) x).length x_1 (oX s x)) (bs (Geo.aA (aC s)) x+x_1) (bs (Geo.aA (aC s)) x+(x_1+1) % (aB (Geo.aA (aC s)) x).length))/\
      (∀y_1:Unit,ix ((bs (Geo.aA (aC s)) x+(x_1+1) % (aB (Geo.aA (aC s)) x).length:Nat):Int) (vOf s).length/\bs (Geo.aA (aC s)) x+(x_1+1) % (aB (Geo.aA (aC s)) x).length<(fT (rgO (bs (Geo.aA (aC s)) x) (aB (Geo.aA (aC s)) x).length x_1 (oX s x)) (bs (Geo.aA (aC s)) x+x_1) (bs (Geo.aA (aC s)) x+(x_1+1) % (aB (Geo.aA (aC s)) x).length)).length/\bs (Geo.aA (aC s)) x+(x_1+1) % (aB (Geo.aA (aC s)) x).length<(fT (rgO (bs (Geo.aA (aC s)) x) (aB (Geo.aA (aC s)) x).length x_1 (oX s x)) (bs (Geo.aA (aC s)) x+x_1) (bs (Geo.aA (aC s)) x+(x_1+1) % (aB (Geo.aA (aC s)) x).length)).length/\(List.getD (fT (rgO (bs (Geo.aA (aC s)) x) (aB (Geo.aA (aC s)) x).length x_1 (oX s x)) (bs (Geo.aA (aC s)) x+x_1) (bs (Geo.aA (aC s)) x+(x_1+1) % (aB (Geo.aA (aC s)) x).length)) (bs (Geo.aA (aC s)) x+(x_1+1) % (aB (Geo.aA (aC s)) x).length) ([] :List Int)).length=(List.getD (fT (rgO (bs (Geo.aA (aC s)) x) (aB (Geo.aA (aC s)) x).length x_1 (oX s x)) (bs (Geo.aA (aC s)) x+x_1) (bs (Geo.aA (aC s)) x+(x_1+1) % (aB (Geo.aA (aC s)) x).length)) (bs (Geo.aA (aC s)) x+(x_1+1) % (aB (Geo.aA (aC s)) x).length) ([] :List Int)).length/\(List.getD (fT (rgO (bs (Geo.aA (aC s)) x) (aB (Geo.aA (aC s)) x).length x_1 (oX s x)) (bs (Geo.aA (aC s)) x+x_1) (bs (Geo.aA (aC s)) x+(x_1+1) % (aB (Geo.aA (aC s)) x).length)) (bs (Geo.aA (aC s)) x+(x_1+1) % (aB (Geo.aA (aC s)) x).length) ([] :List Int)).length+[((bs (Geo.aA (aC s)) x+x_1:Nat):Int)].length<=1000000/\ix ((bs (Geo.aA (aC s)) x+(x_1+1) % (aB (Geo.aA (aC s)) x).length:Nat):Int) (vOf s).length/\bs (Geo.aA (aC s)) x+(x_1+1) % (aB (Geo.aA (aC s)) x).length=bs (Geo.aA (aC s)) x+(x_1+1) % (aB (Geo.aA (aC s)) x).length/\bs (Geo.aA (aC s)) x+(x_1+1) % (aB (Geo.aA (aC s)) x).length<(fT (rgO (bs (Geo.aA (aC s)) x) (aB (Geo.aA (aC s)) x).length x_1 (oX s x)) (bs (Geo.aA (aC s)) x+x_1) (bs (Geo.aA (aC s)) x+(x_1+1) % (aB (Geo.aA (aC s)) x).length)).length/\((x:Int)=0->ix ((bs (Geo.aA (aC s)) x+x_1:Nat):Int) (vOf s).length/\bs (Geo.aA (aC s)) x+x_1<(rgN x (bs (Geo.aA (aC s)) x) (aB (Geo.aA (aC s)) x).length x_1 (nX s x)).length/\aK ((x_1:Int)+1)/\bs (Geo.aA (aC s)) x+(x_1+1) % (aB (Geo.aA (aC s)) x).length<(fT (rgO (bs (Geo.aA (aC s)) x) (aB (Geo.aA (aC s)) x).length x_1 (oX s x)) (bs (Geo.aA (aC s)) x+x_1) (bs (Geo.aA (aC s)) x+(x_1+1) % (aB (Geo.aA (aC s)) x).length)).length/\(List.getD (fT (rgO (bs (Geo.aA (aC s)) x) (aB (Geo.aA (aC s)) x).length x_1 (oX s x)) (bs (Geo.aA (aC s)) x+x_1) (bs (Geo.aA (aC s)) x+(x_1+1) % (aB (Geo.aA (aC s)) x).length)) (bs (Geo.aA (aC s)) x+(x_1+1) % (aB (Geo.aA (aC s)) x).length) ([] :List Int)++[((bs (Geo.aA (aC s)) x+x_1:Nat):Int)]).length=(List.getD (fT (rgO (bs (Geo.aA (aC s)) x) (aB (Geo.aA (aC s)) x).length x_1 (oX s x)) (bs (Geo.aA (aC s)) x+x_1) (bs (Geo.aA (aC s)) x+(x_1+1) % (aB (Geo.aA (aC s)) x).length)) (bs (Geo.aA (aC s)) x+(x_1+1) % (aB (Geo.aA (aC s)) x).length) ([] :List Int)++[((bs (Geo.aA (aC s)) x+x_1:Nat):Int)]).length/\(x_1:Int)+1=((x_1+1:Nat):Int)/\List.set (fT (rgO (bs (Geo.aA (aC s)) x) (aB (Geo.aA (aC s)) x).length x_1 (oX s x)) (bs (Geo.aA (aC s)) x+x_1) (bs (Geo.aA (aC s)) x+(x_1+1) % (aB (Geo.aA (aC s)) x).length)) (bs (Geo.aA (aC s)) x+(x_1+1) % (aB (Geo.aA (aC s)) x).length) (List.getD (fT (rgO (bs (Geo.aA (aC s)) x) (aB (Geo.aA (aC s)) x).length x_1 (oX s x)) (bs (Geo.aA (aC s)) x+x_1) (bs (Geo.aA (aC s)) x+(x_1+1) % (aB (Geo.aA (aC s)) x).length)) (bs (Geo.aA (aC s)) x+(x_1+1) % (aB (Geo.aA (aC s)) x).length) ([] :List Int)++[((bs (Geo.aA (aC s)) x+x_1:Nat):Int)])=rgO (bs (Geo.aA (aC s)) x) (aB (Geo.aA (aC s)) x).length (x_1+1) (oX s x)/\List.set (rgN x (bs (Geo.aA (aC s)) x) (aB (Geo.aA (aC s)) x).length x_1 (nX s x)) (bs (Geo.aA (aC s)) x+x_1) ((bs (Geo.aA (aC s)) x+(x_1+1) % (aB (Geo.aA (aC s)) x).length:Nat):Int)=rgN x (bs (Geo.aA (aC s)) x) (aB (Geo.aA (aC s)) x).length (x_1+1) (nX s x)/\x_1+1<=(aB (Geo.aA (aC s)) x).length/\(aB (Geo.aA (aC s)) x).length-(x_1+1)<(aB (Geo.aA (aC s)) x).length-x_1)/\
       (¬(x:Int)=0->ix ((bs (Geo.aA (aC s)) x+(x_1+1) % (aB (Geo.aA (aC s)) x).length:Nat):Int) (vOf s).length/\bs (Geo.aA (aC s)) x+(x_1+1) % (aB (Geo.aA (aC s)) x).length<(rgN x (bs (Geo.aA (aC s)) x) (aB (Geo.aA (aC s)) x).length x_1 (nX s x)).length/\aK ((x_1:Int)+1)/\bs (Geo.aA (aC s)) x+(x_1+1) % (aB (Geo.aA (aC s)) x).length<(fT (rgO (bs (Geo.aA (aC s)) x) (aB (Geo.aA (aC s)) x).length x_1 (oX s x)) (bs (Geo.aA (aC s)) x+x_1) (bs (Geo.aA (aC s)) x+(x_1+1) % (aB (Geo.aA (aC s)) x).length)).length/\(List.getD (fT (rgO (bs (Geo.aA (aC s)) x) (aB (Geo.aA (aC s)) x).length x_1 (oX s x)) (bs (Geo.aA (aC s)) x+x_1) (bs (Geo.aA (aC s)) x+(x_1+1) % (aB (Geo.aA (aC s)) x).length)) (bs (Geo.aA (aC s)) x+(x_1+1) % (aB (Geo.aA (aC s)) x).length) ([] :List Int)++[((bs (Geo.aA (aC s)) x+x_1:Nat):Int)]).length=(List.getD (fT (rgO (bs (Geo.aA (aC s)) x) (aB (Geo.aA (aC s)) x).length x_1 (oX s x)) (bs (Geo.aA (aC s)) x+x_1) (bs (Geo.aA (aC s)) x+(x_1+1) % (aB (Geo.aA (aC s)) x).length)) (bs (Geo.aA (aC s)) x+(x_1+1) % (aB (Geo.aA (aC s)) x).length) ([] :List Int)++[((bs (Geo.aA (aC s)) x+x_1:Nat):Int)]).length/\(x_1:Int)+1=((x_1+1:Nat):Int)/\List.set (fT (rgO (bs (Geo.aA (aC s)) x) (aB (Geo.aA (aC s)) x).length x_1 (oX s x)) (bs (Geo.aA (aC s)) x+x_1) (bs (Geo.aA (aC s)) x+(x_1+1) % (aB (Geo.aA (aC s)) x).length)) (bs (Geo.aA (aC s)) x+(x_1+1) % (aB (Geo.aA (aC s)) x).length) (List.getD (fT (rgO (bs (Geo.aA (aC s)) x) (aB (Geo.aA (aC s)) x).length x_1 (oX s x)) (bs (Geo.aA (aC s)) x+x_1) (bs (Geo.aA (aC s)) x+(x_1+1) % (aB (Geo.aA (aC s)) x).length)) (bs (Geo.aA (aC s)) x+(x_1+1) % (aB (Geo.aA (aC s)) x).length) ([] :List Int)++[((bs (Geo.aA (aC s)) x+x_1:Nat):Int)])=rgO (bs (Geo.aA (aC s)) x) (aB (Geo.aA (aC s)) x).length (x_1+1) (oX s x)/\List.set (rgN x (bs (Geo.aA (aC s)) x) (aB (Geo.aA (aC s)) x).length x_1 (nX s x)) (bs (Geo.aA (aC s)) x+(x_1+1) % (aB (Geo.aA (aC s)) x).length) ((bs (Geo.aA (aC s)) x+x_1:Nat):Int)=rgN x (bs (Geo.aA (aC s)) x) (aB (Geo.aA (aC s)) x).length (x_1+1) (nX s x)/\x_1+1<=(aB (Geo.aA (aC s)) x).length/\(aB (Geo.aA (aC s)) x).length-(x_1+1)<(aB (Geo.aA (aC s)) x).length-x_1))))/\
    (¬(x_1:Int)<(aB (Geo.aA (aC s)) x).length->aK ((bs (Geo.aA (aC s)) x:Int)+(aB (Geo.aA (aC s)) x).length)/\aK ((x:Int)+1)/\(x:Int)+1=((x+1:Nat):Int)/\(bs (Geo.aA (aC s)) x:Int)+(aB (Geo.aA (aC s)) x).length=bs (Geo.aA (aC s)) (x+1)/\rgO (bs (Geo.aA (aC s)) x) (aB (Geo.aA (aC s)) x).length x_1 (oX s x)=oX s (x+1)/\rgN x (bs (Geo.aA (aC s)) x) (aB (Geo.aA (aC s)) x).length x_1 (nX s x)=nX s (x+1)/\x+1<=(Geo.aA (aC s)).length/\(Geo.aA (aC s)).length-(x+1)<(Geo.aA (aC s)).length-x)))/\
  (¬(x:Int)<(Geo.aA (aC s)).length->Fit s/\(0=(0:Int)/\(0:Nat)=0/\oX s x=dgO (vOf s) (dOf s) 0 (oB s)/\List.take 0 (pG s)=([] :List (Prod Nat Nat))/\(0:Nat)<=(dOf s).length)/\
   (∀x_1:Nat,x_1<=(dOf s).length->((x_1:Int)<(dOf s).length->ix (x_1:Int) (dOf s).length/\(vOf s).length<=1000000/\(bK (dOf s) x_1).a∈vOf s/\(vOf s).length<=1000000/\(bK (dOf s) x_1).b∈vOf s/\(ix (cY (vOf s) (bK (dOf s) x_1).a:Int) (vOf s).length/\cY (vOf s) (bK (dOf s) x_1).a<(dgO (vOf s) (dOf s) x_1 (oB s)).length/\cY (vOf s) (bK (dOf s) x_1).a<(dgO (vOf s) (dOf s) x_1 (oB s)).length/\(List.getD (dgO (vOf s) (dOf s) x_1 (oB s)) (cY (vOf s) (bK (dOf s) x_1).a) ([] :List Int)).length=(List.getD (dgO (vOf s) (dOf s) x_1 (oB s)) (cY (vOf s) (bK (dOf s) x_1).a) ([] :List Int)).length/\(List.getD (dgO (vOf s) (dOf s) x_1 (oB s)) (cY (vOf s) (bK (dOf s) x_1).a) ([] :List Int)).length+[(cY (vOf s) (bK (dOf s) x_1).b:Int)].length<=1000000/\ix (cY (vOf s) (bK (dOf s) x_1).a:Int) (vOf s).length/\cY (vOf s) (bK (dOf s) x_1).a=cY (vOf s) (bK (dOf s) x_1).a/\cY (vOf s) (bK (dOf s) x_1).a<(dgO (vOf s) (dOf s) x_1 (oB s)).length/\cY (vOf s) (bK (dOf s) x_1).a<(dgO (vOf s) (dOf s) x_1 (oB s)).length/\(List.getD (dgO (vOf s) (dOf s) x_1 (oB s)) (cY (vOf s) (bK (dOf s) x_1).a) ([] :List Int)++[(cY (vOf s) (bK (dOf s) x_1).b:Int)]).length=(List.getD (dgO (vOf s) (dOf s) x_1 (oB s)) (cY (vOf s) (bK (dOf s) x_1).a) ([] :List Int)++[(cY (vOf s) (bK (dOf s) x_1).b:Int)]).length/\List.set (dgO (vOf s) (dOf s) x_1 (oB s)) (cY (vOf s) (bK (dOf s) x_1).a) (List.getD (dgO (vOf s) (dOf s) x_1 (oB s)) (cY (vOf s) (bK (dOf s) x_1).a) ([] :List Int)++[(cY (vOf s) (bK (dOf s) x_1).b:Int)])=fT (dgO (vOf s) (dOf s) x_1 (oB s)) (cY (vOf s) (bK (dOf s) x_1).a) (cY (vOf s) (bK (dOf s) x_1).b))/\
     (∀y:Unit,ix (cY (vOf s) (bK (dOf s) x_1).b:Int) (vOf s).length/\cY (vOf s) (bK (dOf s) x_1).b<(fT (dgO (vOf s) (dOf s) x_1 (oB s)) (cY (vOf s) (bK (dOf s) x_1).a) (cY (vOf s) (bK (dOf s) x_1).b)).length/\cY (vOf s) (bK (dOf s) x_1).b<(fT (dgO (vOf s) (dOf s) x_1 (oB s)) (cY (vOf s) (bK (dOf s) x_1).a) (cY (vOf s) (bK (dOf s) x_1).b)).length/\(List.getD (fT (dgO (vOf s) (dOf s) x_1 (oB s)) (cY (vOf s) (bK (dOf s) x_1).a) (cY (vOf s) (bK (dOf s) x_1).b)) (cY (vOf s) (bK (dOf s) x_1).b) ([] :List Int)).length=(List.getD (fT (dgO (vOf s) (dOf s) x_1 (oB s)) (cY (vOf s) (bK (dOf s) x_1).a) (cY (vOf s) (bK (dOf s) x_1).b)) (cY (vOf s) (bK (dOf s) x_1).b) ([] :List Int)).length/\(List.getD (fT (dgO (vOf s) (dOf s) x_1 (oB s)) (cY (vOf s) (bK (dOf s) x_1).a) (cY (vOf s) (bK (dOf s) x_1).b)) (cY (vOf s) (bK (dOf s) x_1).b) ([] :List Int)).length+[(cY (vOf s) (bK (dOf s) x_1).a:Int)].length<=1000000/\ix (cY (vOf s) (bK (dOf s) x_1).b:Int) (vOf s).length/\cY (vOf s) (bK (dOf s) x_1).b=cY (vOf s) (bK (dOf s) x_1).b/\cY (vOf s) (bK (dOf s) x_1).b<(fT (dgO (vOf s) (dOf s) x_1 (oB s)) (cY (vOf s) (bK (dOf s) x_1).a) (cY (vOf s) (bK (dOf s) x_1).b)).length/\x_1=(List.take x_1 (pG s)).length/\(List.take x_1 (pG s)).length+[(cY (vOf s) (bK (dOf s) x_1).a,cY (vOf s) (bK (dOf s) x_1).b)].length<=1000000/\aK ((x_1:Int)+1)/\cY (vOf s) (bK (dOf s) x_1).b<(fT (dgO (vOf s) (dOf s) x_1 (oB s)) (cY (vOf s) (bK (dOf s) x_1).a) (cY (vOf s) (bK (dOf s) x_1).b)).length/\(List.getD (fT (dgO (vOf s) (dOf s) x_1 (oB s)) (cY (vOf s) (bK (dOf s) x_1).a) (cY (vOf s) (bK (dOf s) x_1).b)) (cY (vOf s) (bK (dOf s) x_1).b) ([] :List Int)++[(cY (vOf s) (bK (dOf s) x_1).a:Int)]).length=(List.getD (fT (dgO (vOf s) (dOf s) x_1 (oB s)) (cY (vOf s) (bK (dOf s) x_1).a) (cY (vOf s) (bK (dOf s) x_1).b)) (cY (vOf s) (bK (dOf s) x_1).b) ([] :List Int)++[(cY (vOf s) (bK (dOf s) x_1).a:Int)]).length/\(x_1:Int)+1=((x_1+1:Nat):Int)/\(List.take x_1 (pG s)++[(cY (vOf s) (bK (dOf s) x_1).a,cY (vOf s) (bK (dOf s) x_1).b)]).length=x_1+1/\List.set (fT (dgO (vOf s) (dOf s) x_1 (oB s)) (cY (vOf s) (bK (dOf s) x_1).a) (cY (vOf s) (bK (dOf s) x_1).b)) (cY (vOf s) (bK (dOf s) x_1).b) (List.getD (fT (dgO (vOf s) (dOf s) x_1 (oB s)) (cY (vOf s) (bK (dOf s) x_1).a) (cY (vOf s) (bK (dOf s) x_1).b)) (cY (vOf s) (bK (dOf s) x_1).b) ([] :List Int)++[(cY (vOf s) (bK (dOf s) x_1).a:Int)])=dgO (vOf s) (dOf s) (x_1+1) (oB s)/\List.take x_1 (pG s)++[(cY (vOf s) (bK (dOf s) x_1).a,cY (vOf s) (bK (dOf s) x_1).b)] =List.take (x_1+1) (pG s)/\x_1+1<=(dOf s).length/\(dOf s).length-(x_1+1)<(dOf s).length-x_1))/\
    (¬(x_1:Int)<(dOf s).length->(0=(0:Int)/\dgO (vOf s) (dOf s) x_1 (oB s)=stO (vOf s) 0 (oD s)/\(0:Nat)<=(vOf s).length)/\
     (∀x_2:Nat,x_2<=(vOf s).length->((x_2:Int)<(vOf s).length->ix (x_2:Int) (vOf s).length/\x_2<(stO (vOf s) x_2 (oD s)).length/\x_2<(stO (vOf s) x_2 (oD s)).length/\(List.getD (stO (vOf s) x_2 (oD s)) x_2 ([] :List Int)).length=(List.getD (stO (vOf s) x_2 (oD s)) x_2 ([] :List Int)).length/\(0:Nat)<(List.getD (stO (vOf s) x_2 (oD s)) x_2 ([] :List Int)).length/\(List.getD (stO (vOf s) x_2 (oD s)) x_2 ([] :List Int)).length<=1000000/\(∀x:Int,x∈List.getD (stO (vOf s) x_2 (oD s)) x_2 ([] :List Int)->0<=x/\x.toNat<(vOf s).length)/\x_2<(vOf s).length/\(vOf s).length<=1000000/\(∀u:Geo.V,u∈vOf s->bd 500000000 u)/\OrdOn (ltA (vOf s) x_2) (List.getD (stO (vOf s) x_2 (oD s)) x_2 ([] :List Int))/\aK ((x_2:Int)+1)/\(x_2:Int)+1=((x_2+1:Nat):Int)/\List.set (stO (vOf s) x_2 (oD s)) x_2 (qV (ltA (vOf s) x_2) (List.getD (stO (vOf s) x_2 (oD s)) x_2 ([] :List Int)))=stO (vOf s) (x_2+1) (oD s)/\x_2+1<=(vOf s).length/\(vOf s).length-(x_2+1)<(vOf s).length-x_2)/\
      (¬(x_2:Int)<(vOf s).length->x_1=(pG s).length/\vOf s=vOf s/\(vOf s).length=(vOf s).length/\(vOf s).length=(vOf s).length/\stO (vOf s) x_2 (oD s)=oG s/\nX s x=nG s/\List.take x_1 (pG s)=pG s))))))) (by kernel_rfl) (by
  change Fit s/\Geo.aM s=true/\GOk s at hp;obtain⟨hf,hv,hg⟩:=hp;have V:Geo.VS s:=(Geo.gX s).1 hv;have hR:Geo.fK s=true:=by rw[<-Geo.jE];exact hv
  have c1:aC s=Geo.gJ s:=if_pos hv;have f1:Fit (aC s):=by rw[c1];exact Gs hf
  have f2:0<(aC s).outer.length:=by rw[c1];exact(tQ V).1
  have f3:∀r∈(aC s).holes,0<r.length:=by rw[c1];exact(tQ V).2
  have fl:(Geo.aA (aC s)).flatten=vOf s:=by rw[c1,If hR];rfl
  have n80:(vOf s).length<=80:=xF s;have rl:(Geo.aA (aC s)).length<=1000:=by have:=f1.2.1;unfold Geo.aA;rw[List.length_cons];omega
  obtain⟨dl,dm⟩:=Ib hv;have vb:∀u∈vOf s,bd 500000000 u:=fun u hu=>by
   obtain⟨i,hi,rfl⟩:=Geo.fA.1 hu;exact Hm hi (by decide)
  have hB:∀x:Nat,(x:Int)<(Geo.aA (aC s)).length->bs (Geo.aA (aC s)) x+(aB (Geo.aA (aC s)) x).length<=(vOf s).length:=fun x h=>by
   rw[Jb (by omega),<-fl];exact aEj _ _
  have oXB:∀x:Nat,(x:Int)<(Geo.aA (aC s)).length->∀c,(cV (oX s x) c).length<=200:=fun x h c=>by
   have h1:=aHv s x (by omega) c
   have h2:=hB x h;omega
  have oBB:∀c,(cV (oB s) c).length<=200:=fun c=>by
   have h1:=aHv s _ (Nat.le_refl _) c;have h2:=aEj (Geo.aA (aC s)) (Geo.aA (aC s)).length;rw[fl]at h2;have h3:(cV (oB s) c).length<=2*bs (Geo.aA (aC s)) (Geo.aA (aC s)).length:=h1;omega
  have dOB:∀k,k<=(dOf s).length->∀c,(cV (dgO (vOf s) (dOf s) k (oB s)) c).length<=13000:=fun k hk c=>by
   have:=aEc oBB (vOf s) (dOf s) k c;omega
  have rOB:∀x i:Nat,(x:Int)<(Geo.aA (aC s)).length->(i:Int)<(aB (Geo.aA (aC s)) x).length->∀c,(cV (rgO (bs (Geo.aA (aC s)) x) (aB (Geo.aA (aC s)) x).length i (oX s x)) c).length<=400:=fun x i h h2 c=>by
   have:=Yr (oXB x h) (bs (Geo.aA (aC s)) x) (aB (Geo.aA (aC s)) x).length i c;have:=hB x h;omega
  have r1:∀x i:Nat,(x:Int)<(Geo.aA (aC s)).length->(i:Int)<(aB (Geo.aA (aC s)) x).length->bs (Geo.aA (aC s)) x+i<(vOf s).length:=fun x i h h2=>by have:=hB x h;omega
  have r2:∀x i:Nat,(x:Int)<(Geo.aA (aC s)).length->(i:Int)<(aB (Geo.aA (aC s)) x).length->bs (Geo.aA (aC s)) x+(i+1) % (aB (Geo.aA (aC s)) x).length<(vOf s).length:=fun x i h h2=>by
   have:=hB x h;have:=Nat.mod_lt (i+1) (show 0<(aB (Geo.aA (aC s)) x).length by omega)
   omega
  have t1:∀x i:Nat,(x:Int)<(Geo.aA (aC s)).length->(i:Int)<(aB (Geo.aA (aC s)) x).length->aK ((bs (Geo.aA (aC s)) x:Int)+i):=fun x i h h2=>cW (by have:=r1 x i h h2;omega)
  have t2:∀x i:Nat,(x:Int)<(Geo.aA (aC s)).length->(i:Int)<(aB (Geo.aA (aC s)) x).length->aK ((i:Int)+1):=fun x i h h2=>cW (by have:=r1 x i h h2;omega)
  have t3:∀x i:Nat,(x:Int)<(Geo.aA (aC s)).length->(i:Int)<(aB (Geo.aA (aC s)) x).length->aK ((bs (Geo.aA (aC s)) x:Int)+(((i+1) % (aB (Geo.aA (aC s)) x).length:Nat):Int)):=fun x i h h2=>cW (by have:=r2 x i h h2;omega)
  have t4:∀x i:Nat,(x:Int)<(Geo.aA (aC s)).length->(i:Int)<(aB (Geo.aA (aC s)) x).length->ix ((bs (Geo.aA (aC s)) x+i:Nat):Int) (vOf s).length:=fun x i h h2=>eC (r1 x i h h2)
  have t5:∀x i:Nat,(x:Int)<(Geo.aA (aC s)).length->(i:Int)<(aB (Geo.aA (aC s)) x).length->ix ((bs (Geo.aA (aC s)) x+(i+1) % (aB (Geo.aA (aC s)) x).length:Nat):Int) (vOf s).length:=fun x i h h2=>eC (r2 x i h h2)
  have rl2:∀x i:Nat,(rgO (bs (Geo.aA (aC s)) x) ((aB (Geo.aA (aC s)) x).length) i (oX s x)).length=(vOf s).length:=fun x i=>(Im _ _ _ i).trans (Zv s x)
  have nl2:∀x i:Nat,(rgN x (bs (Geo.aA (aC s)) x) (aB (Geo.aA (aC s)) x).length i (nX s x)).length=(vOf s).length:=fun x i=>(In _ _ _ _ i).trans (Pk s x)
  have t6:∀x i:Nat,(x:Int)<(Geo.aA (aC s)).length->(i:Int)<(aB (Geo.aA (aC s)) x).length->bs (Geo.aA (aC s)) x+i<(rgO (bs (Geo.aA (aC s)) x) ((aB (Geo.aA (aC s)) x).length) i (oX s x)).length:=fun x i h h2=>by rw[rl2];exact r1 x i h h2
  have t7:∀x i a b:Nat,(x:Int)<(Geo.aA (aC s)).length->(i:Int)<(aB (Geo.aA (aC s)) x).length->bs (Geo.aA (aC s)) x+(i+1) % (aB (Geo.aA (aC s)) x).length<(fT (rgO (bs (Geo.aA (aC s)) x) ((aB (Geo.aA (aC s)) x).length) i (oX s x)) a b).length:=fun x i a b h h2=>by rw[wP,rl2];exact r2 x i h h2
  have t8:∀x i c:Nat,∀z:Int,(x:Int)<(Geo.aA (aC s)).length->(i:Int)<(aB (Geo.aA (aC s)) x).length->((rgO (bs (Geo.aA (aC s)) x) ((aB (Geo.aA (aC s)) x).length) i (oX s x)).getD c []).length+[z].length<=1000000:=fun x i c z h h2=>by
   have:((rgO (bs (Geo.aA (aC s)) x) ((aB (Geo.aA (aC s)) x).length) i (oX s x)).getD c []).length<=400:=rOB x i h h2 c;simp only[List.length_singleton];omega
  have t9:∀x i a b c:Nat,∀z:Int,(x:Int)<(Geo.aA (aC s)).length->(i:Int)<(aB (Geo.aA (aC s)) x).length->((fT (rgO (bs (Geo.aA (aC s)) x) ((aB (Geo.aA (aC s)) x).length) i (oX s x)) a b).getD c []).length+[z].length<=1000000:=fun x i a b c z h h2=>by
   have:((fT (rgO (bs (Geo.aA (aC s)) x) ((aB (Geo.aA (aC s)) x).length) i (oX s x)) a b).getD c []).length<=401:=Id (rOB x i h h2) a b c;simp only[List.length_singleton];omega
  have t10:∀x i:Nat,(x:Int)<(Geo.aA (aC s)).length->(i:Int)<(aB (Geo.aA (aC s)) x).length->bs (Geo.aA (aC s)) x+i<(rgN x (bs (Geo.aA (aC s)) x) (aB (Geo.aA (aC s)) x).length i (nX s x)).length:=fun x i h h2=>by rw[nl2];exact r1 x i h h2
  have t11:∀x i:Nat,(x:Int)<(Geo.aA (aC s)).length->(i:Int)<(aB (Geo.aA (aC s)) x).length->bs (Geo.aA (aC s)) x+(i+1) % (aB (Geo.aA (aC s)) x).length<(rgN x (bs (Geo.aA (aC s)) x) (aB (Geo.aA (aC s)) x).length i (nX s x)).length:=fun x i h h2=>by rw[nl2];exact r2 x i h h2
  have t12:∀x i:Nat,(x:Int)=0->(rgN x (bs (Geo.aA (aC s)) x) (aB (Geo.aA (aC s)) x).length i (nX s x)).set (bs (Geo.aA (aC s)) x+i) ((bs (Geo.aA (aC s)) x+(i+1) % (aB (Geo.aA (aC s)) x).length:Nat):Int)=rgN x (bs (Geo.aA (aC s)) x) ((aB (Geo.aA (aC s)) x).length) (i+1) (nX s x):=fun x i h=>(if_pos (show x=0 by omega)).symm
  have t13:∀x i:Nat,¬(x:Int)=0->(rgN x (bs (Geo.aA (aC s)) x) (aB (Geo.aA (aC s)) x).length i (nX s x)).set (bs (Geo.aA (aC s)) x+(i+1) % (aB (Geo.aA (aC s)) x).length) ((bs (Geo.aA (aC s)) x+i:Nat):Int)=rgN x (bs (Geo.aA (aC s)) x) ((aB (Geo.aA (aC s)) x).length) (i+1) (nX s x):=fun x i h=>(if_neg (show¬x=0 by omega)).symm
  have t14:∀x:Nat,(x:Int)<(Geo.aA (aC s)).length->aK ((bs (Geo.aA (aC s)) x:Int)+(aB (Geo.aA (aC s)) x).length):=fun x h=>cW (by have:=hB x h;omega)
  have t15:∀x:Nat,(x:Int)<(Geo.aA (aC s)).length->(bs (Geo.aA (aC s)) x:Int)+(aB (Geo.aA (aC s)) x).length=(bs (Geo.aA (aC s)) (x+1):Int):=fun x h=>by rw[<-Jb (show x<(Geo.aA (aC s)).length by omega)];omega
  have t16:∀x i:Nat,¬(i:Int)<(aB (Geo.aA (aC s)) x).length->i<=(aB (Geo.aA (aC s)) x).length->rgO (bs (Geo.aA (aC s)) x) ((aB (Geo.aA (aC s)) x).length) i (oX s x)=oX s (x+1):=fun x i h h2=>by rw[show i=(aB (Geo.aA (aC s)) x).length by omega];rfl
  have t17:∀x i:Nat,¬(i:Int)<(aB (Geo.aA (aC s)) x).length->i<=(aB (Geo.aA (aC s)) x).length->rgN x (bs (Geo.aA (aC s)) x) (aB (Geo.aA (aC s)) x).length i (nX s x)=nX s (x+1):=fun x i h h2=>by rw[show i=(aB (Geo.aA (aC s)) x).length by omega];rfl
  have t18:∀x:Nat,¬(x:Int)<(Geo.aA (aC s)).length->x<=(Geo.aA (aC s)).length->oX s x=oB s:=fun x h h2=>by rw[show x=(Geo.aA (aC s)).length by omega];rfl
  have t19:∀x:Nat,¬(x:Int)<(Geo.aA (aC s)).length->x<=(Geo.aA (aC s)).length->nX s x=nG s:=fun x h h2=>by rw[show x=(Geo.aA (aC s)).length by omega];rfl
  have d0:∀x:Nat,(x:Int)<(dOf s).length->bK (dOf s) x∈dOf s:=fun x h=>by rw[lW (show x<(dOf s).length by omega)];exact List.getElem_mem _
  have d1:∀x:Nat,(x:Int)<(dOf s).length->(bK (dOf s) x).a∈vOf s:=fun x h=>(dm _ (d0 x h)).1
  have d2:∀x:Nat,(x:Int)<(dOf s).length->(bK (dOf s) x).b∈vOf s:=fun x h=>(dm _ (d0 x h)).2
  have d3:∀x:Nat,(x:Int)<(dOf s).length->ix (cY (vOf s) (bK (dOf s) x).a:Int) (vOf s).length:=fun x h=>eC (sK (d1 x h))
  have d4:∀x:Nat,(x:Int)<(dOf s).length->ix (cY (vOf s) (bK (dOf s) x).b:Int) (vOf s).length:=fun x h=>eC (sK (d2 x h))
  have dl2:∀x:Nat,(dgO (vOf s) (dOf s) x (oB s)).length=(vOf s).length:=fun x=>(Iy _ _ _ x).trans (Zw s)
  have d5:∀x:Nat,(x:Int)<(dOf s).length->cY (vOf s) (bK (dOf s) x).a<(dgO (vOf s) (dOf s) x (oB s)).length:=fun x h=>by rw[dl2];exact sK (d1 x h)
  have d6:∀x a b:Nat,(x:Int)<(dOf s).length->cY (vOf s) (bK (dOf s) x).b<(fT (dgO (vOf s) (dOf s) x (oB s)) a b).length:=fun x a b h=>by rw[wP,dl2];exact sK (d2 x h)
  have d7:∀x c:Nat,∀z:Int,(x:Int)<(dOf s).length->((dgO (vOf s) (dOf s) x (oB s)).getD c []).length+[z].length<=1000000:=fun x c z h=>by
   have:((dgO (vOf s) (dOf s) x (oB s)).getD c []).length<=13000:=dOB x (by omega) c
   simp only[List.length_singleton];omega
  have d8:∀x a b c:Nat,∀z:Int,(x:Int)<(dOf s).length->((fT (dgO (vOf s) (dOf s) x (oB s)) a b).getD c []).length+[z].length<=1000000:=fun x a b c z h=>by
   have:((fT (dgO (vOf s) (dOf s) x (oB s)) a b).getD c []).length<=13001:=Id (dOB x (by omega)) a b c
   simp only[List.length_singleton];omega
  have pl:(pG s).length=(dOf s).length:=List.length_map ..;have d9:∀x:Nat,x<=(dOf s).length->(List.take x (pG s)).length=x:=fun x h=>by rw[List.length_take];omega
  have d10:∀x:Nat,(x:Int)<(dOf s).length->List.take x (pG s)++[(cY (vOf s) (bK (dOf s) x).a,cY (vOf s) (bK (dOf s) x).b)] =List.take (x+1) (pG s):=fun x h=>by
   rw[List.take_succ_eq_append_getElem (show x<(pG s).length by omega)]
   unfold pG dgP;rw[List.getElem_map,lW (show x<(dOf s).length by omega)]
  have d11:∀x:Nat,¬(x:Int)<(dOf s).length->x<=(dOf s).length->dgO (vOf s) (dOf s) x (oB s)=oD s:=fun x h h2=>by rw[show x=(dOf s).length by omega];rfl
  have d12:∀x:Nat,¬(x:Int)<(dOf s).length->x<=(dOf s).length->x=(pG s).length:=fun x h h2=>by omega
  have d13:∀x:Nat,¬(x:Int)<(dOf s).length->List.take x (pG s)=pG s:=fun x h=>List.take_of_length_le (by omega)
  have s0:∀x:Nat,(x:Int)<(vOf s).length->(stO (vOf s) x (oD s)).getD x [] =cV (oD s) x:=fun x h=>by
   have:=Pa (vOf s) (oD s) x x (by rw[Pj];omega)
   rw[if_neg (Nat.lt_irrefl x)]at this;exact this
  have s1:∀x:Nat,(x:Int)<(vOf s).length->x<(stO (vOf s) x (oD s)).length:=fun x h=>by rw[Af,Pj];omega
  have s2:∀x:Nat,(x:Int)<(vOf s).length->0<((stO (vOf s) x (oD s)).getD x []).length:=fun x h=>by rw[s0 x h];exact(hg x (by omega)).1
  have s3:∀x:Nat,(x:Int)<(vOf s).length->((stO (vOf s) x (oD s)).getD x []).length<=1000000:=fun x h=>by
   rw[s0 x h];have:=dOB _ (Nat.le_refl _) x;have h2:(cV (oD s) x).length<=13000:=this;omega
  have s4:∀x:Nat,(x:Int)<(vOf s).length->∀y∈(stO (vOf s) x (oD s)).getD x [],0<=y/\y.toNat<(vOf s).length:=fun x h=>by rw[s0 x h];exact(hg x (by omega)).2.1
  have s5:∀x:Nat,(x:Int)<(vOf s).length->OrdOn (ltA (vOf s) x) ((stO (vOf s) x (oD s)).getD x []):=fun x h=>by rw[s0 x h];exact(hg x (by omega)).2.2
  have s6:∀x:Nat,¬(x:Int)<(vOf s).length->x<=(vOf s).length->stO (vOf s) x (oD s)=oG s:=fun x h h2=>by rw[show x=(vOf s).length by omega];rfl
  have w1:∀x:Nat,x<=(vOf s).length->aK ((x:Int)+1):=fun x h=>cW (by omega)
  clear hB oXB oBB dOB rOB fl c1 V hR hg
  repeat' first|with_reducible apply And.intro|with_reducible intro
  all_goals repeat with_reducible cases‹_/\_›
  all_goals first|assumption|rfl|omega|(unfold ix;omega)|(unfold aK;omega)|exact f3 _ ‹_› |exact t1 _ _ ‹_› ‹_› |exact t2 _ _ ‹_› ‹_› |exact t3 _ _ ‹_› ‹_› |exact t4 _ _ ‹_› ‹_› |exact t5 _ _ ‹_› ‹_› |exact t6 _ _ ‹_› ‹_› |exact t7 _ _ _ _ ‹_› ‹_› |exact t8 _ _ _ _ ‹_› ‹_› |exact t9 _ _ _ _ _ _ ‹_› ‹_› |exact t10 _ _ ‹_› ‹_› |exact t11 _ _ ‹_› ‹_› |exact t12 _ _ ‹_› |exact t13 _ _ ‹_› |exact t14 _ ‹_› |exact t15 _ ‹_› |exact t16 _ _ ‹_› ‹_› |exact t17 _ _ ‹_› ‹_› |exact t18 _ ‹_› ‹_› |exact t19 _ ‹_› ‹_› |exact d1 _ ‹_› |exact d2 _ ‹_› |exact d3 _ ‹_› |exact d4 _ ‹_› |exact d5 _ ‹_› |exact d6 _ _ _ ‹_› |exact d7 _ _ _ ‹_› |exact d8 _ _ _ _ _ ‹_› |exact(d9 _ ‹_›).symm|(rw[d9 _ ‹_›];simp;omega)|(rw[List.length_append,d9 _ ‹_›];rfl)|exact d10 _ ‹_› |exact d11 _ ‹_› ‹_› |exact d12 _ ‹_› ‹_› |exact d13 _ ‹_› |exact s1 _ ‹_› |exact s2 _ ‹_› |exact s3 _ ‹_› |exact(s4 _ ‹_› _ ‹_›).1|exact(s4 _ ‹_› _ ‹_›).2|exact vb _ ‹_› |exact s5 _ ‹_› |exact s6 _ ‹_› ‹_›)
def aGw:Tab:=cJ [(171,aH7)] aHc
theorem aDh:aGw.Ok Tryz.prog:=aR aDO ⟨aKD,trivial⟩
end
end Go.Proofs.YtdaeofhdgabhjaaGreat
namespace Go.Proofs.YtdaeofhdgabhjaaGreat
open Go.RowKit
set_option maxRecDepth 100000
noncomputable section
def jB(v:List Geo.V)(L:List (List Int))(i j:Nat):Bool:=decide (0<=Geo.cP (Geo.nth v i) (Geo.nth v (fC L i j (-1))) (Geo.nth v (fC L i j 1)))
structure ArOk(v:List Geo.V)(L:List (List Int))(i j:Nat):Prop where
 iL:i<L.length
 mem:(j:Int)∈cV L i
 rng:∀x∈cV L i,0<=x/\x.toNat<v.length
 len:(cV L i).length<=1000000
theorem ArOk.around{v:List Geo.V}{L:List (List Int)}{i j:Nat}(h:ArOk v L i j)(st:Int):((fC L i j st:Nat):Int)∈cV L i/\fC L i j st<v.length:=by
 unfold fC;dsimp only;have h0:0<(cV L i).length:=List.length_pos_of_mem h.mem;generalize ((qK (cV L i) (j:Int):Int)+st+(cV L i).length).toNat=k;have hm:gH (cV L i) (k % (cV L i).length)∈cV L i:=by
  rw[show gH (cV L i) (k % (cV L i).length)=_ from nP (Nat.mod_lt _ h0)];exact List.getElem_mem _
 obtain⟨h1,h2⟩:=h.rng _ hm;exact⟨by rw[Int.toNat_of_nonneg h1];exact hm,h2⟩
def aH6:Con:=con (ac aGr (ac aN (a1 aN))) (fun(g,i,j)=>[g.1.length<=1000000,g.2.1.length<=g.1.length,(∀u∈g.1,bd 1000000000 u),ArOk g.1 g.2.1 i j]) (fun(g,i,j)=> .bool (jB g.1 g.2.1 i j)
 )
theorem aKC:aH6.Ok Tryz.prog 172:=bF (bP aDh) (raw:=bR) (fun(_,_,_)=>[]) (fun(_,_,_)=>⟨_,rfl⟩) fun(g,i,j) hp=>bQ (q:=g.fst.length<=1000000/\g.2.fst.length<=1000000/\i<g.2.fst.length/\(j:Int)∈cV g.2.fst i/\(cV g.2.fst i).length<=1000000/\(∀x:Int,x∈cV g.2.fst i->0<=x)/\((-1:Int)=1\/(-1:Int)= -1)/\g.fst.length<=1000000/\g.2.fst.length<=1000000/\i<g.2.fst.length/\(j:Int)∈cV g.2.fst i/\(cV g.2.fst i).length<=1000000/\(∀x:Int,x∈cV g.2.fst i->0<=x)/\((1:Int)=1\/(1:Int)= -1)/\ix (i:Int) g.1.length/\ix (fC g.2.fst i j (-1):Int) g.1.length/\ix (fC g.2.fst i j 1:Int) g.1.length/\bd 1000000000 (Geo.nth g.1 i)/\bd 1000000000 (Geo.nth g.1 (fC g.2.fst i j (-1)))/\bd 1000000000 (Geo.nth g.1 (fC g.2.fst i j 1))/\decide (0<=Geo.cP (Geo.nth g.1 i) (Geo.nth g.1 (fC g.2.fst i j (-1))) (Geo.nth g.1 (fC g.2.fst i j 1)))=jB g.1 g.2.1 i j) (by kernel_rfl) (by
 change g.1.length<=1000000/\g.2.1.length<=g.1.length/\((∀u∈g.1,bd 1000000000 u))/\ArOk g.1 g.2.1 i j at hp;obtain⟨h1,h2,h3,h4⟩:=hp;have a1:=(h4.around (-1)).2;have a2:=(h4.around 1).2;have bN:∀i:Nat,i<g.1.length->bd 1000000000 (Geo.nth g.1 i):=fun i h=>h3 _ (Geo.dW h)
 have r:∀x∈cV g.2.1 i,0<=x:=fun x hx=>(h4.rng x hx).1
 have iL:=h4.iL;have iv:i<g.1.length:=by omega
 have l2:g.2.1.length<=1000000:=by omega
 exact⟨h1,l2,iL,h4.mem,h4.len,r,.inr rfl,h1,l2,iL,h4.mem,h4.len,r,.inl rfl,eC iv,eC a1,eC a2,bN _ iv,bN _ a1,bN _ a2,rfl⟩)
def aGv:Tab:=cJ [(172,aH6)] aGw
theorem aDg:aGv.Ok Tryz.prog:=aR aDh ⟨aKC,trivial⟩
def Su(l:List Int)(q:Int):List Int:=l.filter fun y=> !(y==q)
def Yz(L:List (List Int))(i j:Nat):List (List Int):=(L.set j (Su (cV L j) i)).set i (Su (cV L i) j)
def stS(v:List Geo.V)(P:List (Nat×Nat)):Nat->List (List Int)->List (List Int)×List (Nat×Nat)
 |0,L=>(L,[])
 |k+1,L=>
  let r:=stS v P k L
  let p:=aY P k
  if jB v r.1 p.1 p.2=true/\jB v r.1 p.2 p.1=true then(Yz r.1 p.1 p.2,r.2)else(r.1,r.2++[p])
def sG(s:Geo.Shape)(k:Nat):List (List Int)×List (Nat×Nat):=stS (vOf s) (pG s) k (oG s)
def soG(s:Geo.Shape):List (List Int):=(sG s (pG s).length).1
def spG(s:Geo.Shape):List (Nat×Nat):=(sG s (pG s).length).2
theorem Ta(v:List Geo.V)(P:List (Nat×Nat))(L:List (List Int)):∀k,(stS v P k L).1.length=L.length
 |0=>rfl
 |k+1=>by
  have:=Ta v P L k;unfold stS;dsimp only;split
  ·unfold Yz;rw[List.length_set,List.length_set];exact this
  ·exact this
theorem Zr(s:Geo.Shape)(k:Nat):(sG s k).1.length=(vOf s).length:=(Ta _ _ _ k).trans (aFl s)
theorem Oz(v:List Geo.V)(P:List (Nat×Nat))(L:List (List Int)):∀k,(stS v P k L).2.length<=k
 |0=>Nat.le_refl _
 |k+1=>by
  have:=Oz v P L k;unfold stS;dsimp only;split
  ·dsimp only;omega
  ·rw[List.length_append];simp;omega
theorem Zq{s:Geo.Shape}{k:Nat}(h1:jB (vOf s) (sG s k).1 (aY (pG s) k).1 (aY (pG s) k).2=true)(h2:jB (vOf s) (sG s k).1 (aY (pG s) k).2 (aY (pG s) k).1=true):
 sG s (k+1)=(Yz (sG s k).1 (aY (pG s) k).1 (aY (pG s) k).2,(sG s k).2):=if_pos ⟨h1,h2⟩
theorem Sj{s:Geo.Shape}{k:Nat}(h:jB (vOf s) (sG s k).1 (aY (pG s) k).1 (aY (pG s) k).2=false\/jB (vOf s) (sG s k).1 (aY (pG s) k).2 (aY (pG s) k).1=false):
  sG s (k+1)=((sG s k).1,(sG s k).2++[((aY (pG s) k).1,(aY (pG s) k).2)]):=if_neg fun h2=>by
 rcases h with h|h
 ·exact absurd (h.symm.trans h2.1) (by decide)
 ·exact absurd (h.symm.trans h2.2) (by decide)
theorem aJe{s:Geo.Shape}(hv:Geo.aM s=true){p:Nat×Nat}(h:p∈pG s):p.1<(vOf s).length/\p.2<(vOf s).length:=by
 obtain⟨d,hd,rfl⟩:=List.mem_map.1 h;obtain⟨h1,h2⟩:=(Ib hv).2 d hd;exact⟨sK h1,sK h2⟩
theorem Zs(s:Geo.Shape):(pG s).length=(dOf s).length:=List.length_map ..
def SOk(s:Geo.Shape):Prop:=∀k,k<(pG s).length->ArOk (vOf s) (sG s k).1 (aY (pG s) k).1 (aY (pG s) k).2/\ArOk (vOf s) (sG s k).1 (aY (pG s) k).2 (aY (pG s) k).1/\(aY (pG s) k).2≠(aY (pG s) k).1
def aIA:Con:=aEQ (a1 aSh) (fun s=>[Fit s,Geo.aM s=true,GOk s,SOk s]) (fun s=> .tup [.ptr 60 0,.own 20000005 .P (spG s).length]) (fun s=>[(60,some (.box 114 [.lst .V (vOf s),.owF 15000005 (vOf s).length,.own 18000005 .I (vOf s).length])),(15000005,some (.fam 112 3 .I (soG s) [])),(18000005,some (.row 3 .I (nG s))),(20000005,some (.row 67 .P (spG s)))])
set_option maxHeartbeats 4000000 in
theorem aK6:aIA.Ok Tryz.prog 114:=Ui (bP aDg) (st:=true) (raw:=bR) (fun s=>[(10003,.mk Unit (fun _ _=>some ()) [60,20000005] (fun _=>[]) (fun _=>[(4,.ptr 60 0),(6,.own 20000005 .P 0)]) (fun _=>[(60,.box 114 [.lst .V (vOf s),.owF 15000005 (vOf s).length,.own 18000005 .I (vOf s).length]),(20000005,.row 67 .P [])]) (fun _=>0) (fun _=>[])),
  lp 4 16 (pG s).length (fun _=>[]) [20000005] (fun k=>[(6,.own 20000005 .P (sG s k).2.length)]) (fun k=>[(15000005,.fam 112 3 .I (sG s k).1 []),(20000005,.row 67 .P (sG s k).2),(0,.box 0 [.undef])])]
  ) fun s hp=>bQ (q:=Fit s/\Geo.aM s=true/\GOk s/\((0:Nat)=0/\vOf s=vOf s/\(vOf s).length=(vOf s).length/\(vOf s).length=(vOf s).length/\([] :List (Prod Nat Nat))=([] :List (Prod Nat Nat)))/\
 (∀y:Unit,(0=(0:Int)/\(0:Nat)=([] :List (Prod Nat Nat)).length/\oG s=oG s/\([] :List (Prod Nat Nat))=([] :List (Prod Nat Nat))/\(0:Nat)<=(pG s).length)/\
  (∀x:Nat,x<=(pG s).length->((x:Int)<(pG s).length->ix (x:Int) (pG s).length/\x<(pG s).length/\ix 0 2/\ix 1 2/\(vOf s).length=(sG s x).1.length/\(vOf s).length=(nG s).length/\(vOf s).length<=1000000/\(sG s x).fst.length<=(vOf s).length/\(∀u:Geo.V,u∈vOf s->bd 1000000000 u)/\ArOk (vOf s) (sG s x).fst (aY (pG s) x).1 (aY (pG s) x).2/\(jB (vOf s) (sG s x).fst (aY (pG s) x).1 (aY (pG s) x).2=true->ix 1 2/\ix 0 2/\(vOf s).length=(sG s x).1.length/\(vOf s).length=(nG s).length/\(vOf s).length<=1000000/\(sG s x).fst.length<=(vOf s).length/\(∀u:Geo.V,u∈vOf s->bd 1000000000 u)/\ArOk (vOf s) (sG s x).fst (aY (pG s) x).2 (aY (pG s) x).1/\(jB (vOf s) (sG s x).fst (aY (pG s) x).2 (aY (pG s) x).1=true->ix 0 2/\ix 1 2/\ix ((aY (pG s) x).1:Int) (vOf s).length/\(aY (pG s) x).1<(sG s x).1.length/\(aY (pG s) x).1<(sG s x).1.length/\(List.getD (sG s x).1 (aY (pG s) x).1 ([] :List Int)).length=(List.getD (sG s x).1 (aY (pG s) x).1 ([] :List Int)).length/\(0:Nat)<(List.getD (sG s x).1 (aY (pG s) x).1 ([] :List Int)).length/\(List.getD (sG s x).1 (aY (pG s) x).1 ([] :List Int)).length<=1000000/\ix ((aY (pG s) x).1:Int) (vOf s).length/\(aY (pG s) x).1=(aY (pG s) x).1/\(aY (pG s) x).1<(sG s x).1.length/\ix ((aY (pG s) x).2:Int) (vOf s).length/\(aY (pG s) x).2<(sG s x).1.length/\(aY (pG s) x).2≠((aY (pG s) x).1,SV.ownf 15000005 LT.I (aY (pG s) x).1 (List.getD (sG s x).1 (aY (pG s) x).1 ([] :List Int)).length).fst/\(aY (pG s) x).2<(sG s x).1.length/\(List.getD (sG s x).1 (aY (pG s) x).2 ([] :List Int)).length=(List.getD (sG s x).1 (aY (pG s) x).2 ([] :List Int)).length/\(0:Nat)<(List.getD (sG s x).1 (aY (pG s) x).2 ([] :List Int)).length/\(aY (pG s) x).2≠((aY (pG s) x).1,SV.ownf 15000005 LT.I (aY (pG s) x).1 (List.getD (sG s x).1 (aY (pG s) x).1 ([] :List Int)).length).fst/\(List.getD (sG s x).1 (aY (pG s) x).2 ([] :List Int)).length<=1000000/\ix ((aY (pG s) x).2:Int) (vOf s).length/\(aY (pG s) x).2=(aY (pG s) x).2/\(aY (pG s) x).2<(sG s x).1.length/\aK ((x:Int)+1)/\(aY (pG s) x).2<(sG s x).1.length/\(List.filter (fun y=>(!y==((aY (pG s) x).1:Int))) (List.getD (sG s x).1 (aY (pG s) x).2 ([] :List Int))).length=(List.filter (fun y=>(!y==((aY (pG s) x).1:Int))) (List.getD (sG s x).1 (aY (pG s) x).2 ([] :List Int))).length/\(aY (pG s) x).2≠((aY (pG s) x).1,SV.ownf 15000005 LT.I (aY (pG s) x).1 (List.getD (sG s x).1 (aY (pG s) x).1 ([] :List Int)).length).fst/\(aY (pG s) x).1<(List.set (sG s x).1 (aY (pG s) x).2 (List.filter (fun y=>(!y==((aY (pG s) x).1:Int))) (List.getD (sG s x).1 (aY (pG s) x).2 ([] :List Int)))).length/\(List.filter (fun y=>(!y==((aY (pG s) x).2:Int))) (List.getD (sG s x).1 (aY (pG s) x).1 ([] :List Int))).length=(List.filter (fun y=>(!y==((aY (pG s) x).2:Int))) (List.getD (sG s x).1 (aY (pG s) x).1 ([] :List Int))).length/\(x:Int)+1=((x+1:Nat):Int)/\(sG s x).2.length=(sG s (x+1)).2.length/\List.set (List.set (sG s x).1 (aY (pG s) x).2 (List.filter (fun y=>(!y==((aY (pG s) x).1:Int))) (List.getD (sG s x).1 (aY (pG s) x).2 ([] :List Int)))) (aY (pG s) x).1 (List.filter (fun y=>(!y==((aY (pG s) x).2:Int))) (List.getD (sG s x).1 (aY (pG s) x).1 ([] :List Int)))=(sG s (x+1)).1/\(sG s x).2=(sG s (x+1)).2/\x+1<=(pG s).length/\(pG s).length-(x+1)<(pG s).length-x)/\
     (jB (vOf s) (sG s x).fst (aY (pG s) x).2 (aY (pG s) x).1=false->(sG s x).2.length=(sG s x).2.length/\(sG s x).2.length+[((aY (pG s) x).1,(aY (pG s) x).2)].length<=1000000/\aK ((x:Int)+1)/\(x:Int)+1=((x+1:Nat):Int)/\((sG s x).2++[((aY (pG s) x).1,(aY (pG s) x).2)]).length=(sG s (x+1)).2.length/\(sG s x).1=(sG s (x+1)).1/\(sG s x).2++[((aY (pG s) x).1,(aY (pG s) x).2)] =(sG s (x+1)).2/\x+1<=(pG s).length/\(pG s).length-(x+1)<(pG s).length-x))/\
    (jB (vOf s) (sG s x).fst (aY (pG s) x).1 (aY (pG s) x).2=false->(sG s x).2.length=(sG s x).2.length/\(sG s x).2.length+[((aY (pG s) x).1,(aY (pG s) x).2)].length<=1000000/\aK ((x:Int)+1)/\(x:Int)+1=((x+1:Nat):Int)/\((sG s x).2++[((aY (pG s) x).1,(aY (pG s) x).2)]).length=(sG s (x+1)).2.length/\(sG s x).1=(sG s (x+1)).1/\(sG s x).2++[((aY (pG s) x).1,(aY (pG s) x).2)] =(sG s (x+1)).2/\x+1<=(pG s).length/\(pG s).length-(x+1)<(pG s).length-x))/\
   (¬(x:Int)<(pG s).length->(sG s x).2.length=(spG s).length/\vOf s=vOf s/\(vOf s).length=(vOf s).length/\(vOf s).length=(vOf s).length/\(sG s x).1=soG s/\nG s=nG s/\(sG s x).2=spG s)))) (by kernel_rfl) (by
  change Fit s/\Geo.aM s=true/\GOk s/\SOk s at hp;obtain⟨hf,hv,hg,hs⟩:=hp;have n80:(vOf s).length<=80:=xF s;have pl:(pG s).length<=6400:=by rw[Zs];exact(Ib hv).1
  have vb:∀u∈vOf s,bd 1000000000 u:=fun u hu=>by
   obtain⟨i,hi,rfl⟩:=Geo.fA.1 hu;exact Hm hi (by decide)
  have nl:(nG s).length=(vOf s).length:=Pk s _;have gl:=Zr s;have p1:∀x:Nat,(x:Int)<(pG s).length->(aY (pG s) x).1<(vOf s).length/\(aY (pG s) x).2<(vOf s).length:=fun x h=>aJe hv (by rw[sI (by omega)];exact List.getElem_mem _)
  have hS:∀x:Nat,(x:Int)<(pG s).length->_:=fun x h=>hs x (by omega)
  have q1:∀x:Nat,(x:Int)<(pG s).length->0<(List.getD (sG s x).1 (aY (pG s) x).1 ([] :List Int)).length:=fun x h=>List.length_pos_of_mem (hS x h).1.mem
  have q2:∀x:Nat,(x:Int)<(pG s).length->0<(List.getD (sG s x).1 (aY (pG s) x).2 ([] :List Int)).length:=fun x h=>List.length_pos_of_mem (hS x h).2.1.mem
  have q3:∀x:Nat,(x:Int)<(pG s).length->(List.getD (sG s x).1 (aY (pG s) x).1 ([] :List Int)).length<=1000000:=fun x h=>(hS x h).1.len
  have q4:∀x:Nat,(x:Int)<(pG s).length->(List.getD (sG s x).1 (aY (pG s) x).2 ([] :List Int)).length<=1000000:=fun x h=>(hS x h).2.1.len
  have q5:∀x:Nat,x<=(pG s).length->(sG s x).2.length<=6400:=fun x h=>by have:(sG s x).2.length<=x:=Oz _ _ _ x;omega
  have a1:∀x:Nat,(vOf s).length=(sG s x).1.length:=fun x=>(gl x).symm
  have a2:∀x:Nat,(sG s x).1.length<=(vOf s).length:=fun x=>Nat.le_of_eq (gl x)
  have a3:∀x:Nat,(x:Int)<(pG s).length->ArOk (vOf s) (sG s x).1 (aY (pG s) x).1 (aY (pG s) x).2:=fun x h=>(hS x h).1
  have a4:∀x:Nat,(x:Int)<(pG s).length->ArOk (vOf s) (sG s x).1 (aY (pG s) x).2 (aY (pG s) x).1:=fun x h=>(hS x h).2.1
  have a5:∀x:Nat,(x:Int)<(pG s).length->ix ((aY (pG s) x).1:Int) (vOf s).length:=fun x h=>eC (p1 x h).1
  have a6:∀x:Nat,(x:Int)<(pG s).length->ix ((aY (pG s) x).2:Int) (vOf s).length:=fun x h=>eC (p1 x h).2
  have a7:∀x:Nat,(x:Int)<(pG s).length->(aY (pG s) x).1<(sG s x).1.length:=fun x h=>by rw[gl];exact(p1 x h).1
  have a8:∀x:Nat,(x:Int)<(pG s).length->(aY (pG s) x).2<(sG s x).1.length:=fun x h=>by rw[gl];exact(p1 x h).2
  have a9:∀x:Nat,(x:Int)<(pG s).length->(aY (pG s) x).2≠(aY (pG s) x).1:=fun x h=>(hS x h).2.2
  have b1:∀x j:Nat,∀l:List Int,(x:Int)<(pG s).length->(aY (pG s) x).1<((sG s x).1.set j l).length:=fun x j l h=>by rw[List.length_set];exact a7 x h
  have b2:∀x:Nat,jB (vOf s) (sG s x).1 (aY (pG s) x).1 (aY (pG s) x).2=true->jB (vOf s) (sG s x).1 (aY (pG s) x).2 (aY (pG s) x).1=true->List.set (List.set (sG s x).1 (aY (pG s) x).2 (List.filter (fun y=>(!y==((aY (pG s) x).1:Int))) (List.getD (sG s x).1 (aY (pG s) x).2 ([] :List Int)))) (aY (pG s) x).1 (List.filter (fun y=>(!y==((aY (pG s) x).2:Int))) (List.getD (sG s x).1 (aY (pG s) x).1 ([] :List Int)))=(sG s (x+1)).1:=fun x h h2=>by rw[Zq h h2];rfl
  have b3:∀x:Nat,jB (vOf s) (sG s x).1 (aY (pG s) x).1 (aY (pG s) x).2=true->jB (vOf s) (sG s x).1 (aY (pG s) x).2 (aY (pG s) x).1=true->(sG s x).2=(sG s (x+1)).2:=fun x h h2=>by rw[Zq h h2]
  have b4:∀x:Nat,jB (vOf s) (sG s x).1 (aY (pG s) x).1 (aY (pG s) x).2=false->(sG s x).1=(sG s (x+1)).1:=fun x h=>by rw[Sj (.inl h)]
  have b5:∀x:Nat,jB (vOf s) (sG s x).1 (aY (pG s) x).2 (aY (pG s) x).1=false->(sG s x).1=(sG s (x+1)).1:=fun x h=>by rw[Sj (.inr h)]
  have b6:∀x:Nat,jB (vOf s) (sG s x).1 (aY (pG s) x).1 (aY (pG s) x).2=false->(sG s x).2++[((aY (pG s) x).1,(aY (pG s) x).2)] =(sG s (x+1)).2:=fun x h=>by rw[Sj (.inl h)]
  have b7:∀x:Nat,jB (vOf s) (sG s x).1 (aY (pG s) x).2 (aY (pG s) x).1=false->(sG s x).2++[((aY (pG s) x).1,(aY (pG s) x).2)] =(sG s (x+1)).2:=fun x h=>by rw[Sj (.inr h)]
  have b8:∀x:Nat,∀z:Nat×Nat,x<=(pG s).length->(sG s x).2.length+[z].length<=1000000:=fun x z h=>by have:=q5 x h;simp only[List.length_singleton];omega
  have b9:∀x:Nat,¬(x:Int)<(pG s).length->x<=(pG s).length->sG s x=sG s (pG s).length:=fun x h h2=>by rw[show x=(pG s).length by omega]
  have c9:∀x:Nat,x<=(pG s).length->aK ((x:Int)+1):=fun x h=>cW (by omega)
  clear hS hs gl
  repeat' first|with_reducible apply And.intro|with_reducible intro
  all_goals repeat with_reducible cases‹_/\_›
  all_goals first|with_reducible assumption|with_reducible rfl|with_reducible exact a1 _|with_reducible exact a2 _|with_reducible exact vb _ ‹_› |with_reducible exact a3 _ ‹_› |with_reducible exact a4 _ ‹_› |with_reducible exact a5 _ ‹_› |with_reducible exact a6 _ ‹_› |with_reducible exact a7 _ ‹_› |with_reducible exact a8 _ ‹_› |with_reducible exact a9 _ ‹_› |with_reducible exact q1 _ ‹_› |with_reducible exact q2 _ ‹_› |with_reducible exact q3 _ ‹_› |with_reducible exact q4 _ ‹_› |with_reducible exact b1 _ _ _ ‹_› |with_reducible exact b2 _ ‹_› ‹_› |with_reducible exact b3 _ ‹_› ‹_› |with_reducible exact congrArg List.length (b3 _ ‹_› ‹_›)|with_reducible exact b4 _ ‹_› |with_reducible exact b5 _ ‹_› |with_reducible exact b6 _ ‹_› |with_reducible exact b7 _ ‹_› |with_reducible exact congrArg List.length (b6 _ ‹_›)|with_reducible exact congrArg List.length (b7 _ ‹_›)|with_reducible exact b8 _ _ ‹_› |omega|(unfold ix;omega)|(unfold aK;omega)|exact rfl|exact congrArg Prod.fst (b9 _ ‹_› ‹_›)|exact congrArg Prod.snd (b9 _ ‹_› ‹_›)|exact congrArg (fun y=>y.2.length) (b9 _ ‹_› ‹_›))
def aHe:Tab:=cJ [(114,aIA)] aGv
theorem aI4:aHe.Ok Tryz.prog:=aR aDg ⟨aK6,trivial⟩
def eV(s:Geo.Shape):Int:=if Geo.aM s=true then 0 else 11
def t51:Tab:=aHe
theorem aFT:t51.Ok Tryz.prog:=aI4
end
end Go.Proofs.YtdaeofhdgabhjaaGreat
namespace Go.Proofs.YtdaeofhdgabhjaaGreat
open Go.RowKit
set_option maxRecDepth 100000
noncomputable section
open Geo (nth)
def aIx:Con:=aER (a1 (aL .V)) (fun l=>[0<l.length,l.length<=1000]) 44 .V (fun l=>l) (fun _=>[])
theorem aK3:aIx.Ok Tryz.prog 125:=Uj (bP aFT) (raw:=bR) (fun _=>[]) (fun _=>⟨[],rfl⟩) fun l hp=>bQ (q:=(0:Nat)<l.length/\([] :List Geo.V).length+l.length<=1000000/\([] :List Geo.V)++l=l/\(([] :List Geo.V)++l).length=(([] :List Geo.V)++l).length) (by kernel_rfl) (by
 change 0<l.length/\l.length<=1000 at hp;exact⟨hp.1,by simp;omega,rfl,rfl⟩)
def aHa:Tab:=cJ [(125,aIx)] t51
theorem aDM:aHa.Ok Tryz.prog:=aR aFT ⟨aK3,trivial⟩
def Kn(r:List Geo.V)(k:Nat):Bool:=decide (Geo.cP (nth r ((k+r.length-1) % r.length)) (nth r k) (nth r ((k+1) % r.length))≠0)
def bC(r:List Geo.V)(k:Nat):List Geo.V:=((List.range k).filter (Kn r)).map (nth r)
def dZ(r:List Geo.V):List Geo.V:=bC r r.length
theorem vI(r:List Geo.V)(k:Nat):bC r (k+1)=if Kn r k=true then bC r k++[nth r k]else bC r k:=by
 unfold bC;rw[List.range_succ,List.filter_append,List.map_append];by_cases h:Kn r k=true
 ·rw[if_pos h,List.filter_cons_of_pos h];rfl
 ·rw[if_neg h,List.filter_cons_of_neg h];simp
theorem wK(r:List Geo.V):∀k,(bC r k).length<=k
 |0=>Nat.le_refl _
 |k+1=>by
  have:=wK r k;rw[vI];split
  ·rw[List.length_append];simp;omega
  ·omega
def aIz:Con:=con (a1 (aL .V)) (fun r=>[r.length<=1000,(∀u∈r,bd 1000000000 u),0<(dZ r).length]) (fun r=> .lst .V (Geo.fR (dZ r)))
theorem aK5:aIz.Ok Tryz.prog 115:=bF (bP aDM) (raw:=bR) (fun r=>[lp 4 12 r.length (fun _=>[]) [40] (fun k=>[(3,.own 40 .V (bC r k).length)]) (fun k=>[(40,.row 44 .V (bC r k))])]
  ) (fun _=>⟨_,rfl⟩) fun r hp=>bQ (q:=(0=(0:Int)/\(bC r 0).length=0/\bC r 0=([] :List Geo.V)/\(0:Nat)<=r.length)/\
 (∀x:Nat,x<=r.length->((x:Int)<r.length->ix (x:Int) r.length/\aK ((x:Int)+r.length)/\aK ((x:Int)+r.length-1)/\(r.length:Int)≠0/\ix (Int.tmod ((x:Int)+r.length-1) (r.length:Int)) r.length/\aK ((x:Int)+1)/\(r.length:Int)≠0/\ix (((x+1) % r.length:Nat):Int) r.length/\bd 1000000000 (nth r (Int.tmod ((x:Int)+r.length-1) (r.length:Int)).toNat)/\bd 1000000000 (nth r x)/\bd 1000000000 (nth r ((x+1) % r.length))/\(¬Geo.cP (nth r (Int.tmod ((x:Int)+r.length-1) (r.length:Int)).toNat) (nth r x) (nth r ((x+1) % r.length))=0->(bC r x).length=(bC r x).length/\(bC r x).length+[(nth r x)].length<=1000000/\aK ((x:Int)+1)/\(x:Int)+1=((x+1:Nat):Int)/\(bC r x++[(nth r x)]).length=(bC r (x+1)).length/\bC r x++[(nth r x)] =bC r (x+1)/\x+1<=r.length/\r.length-(x+1)<r.length-x)/\
   (¬(¬Geo.cP (nth r (Int.tmod ((x:Int)+r.length-1) (r.length:Int)).toNat) (nth r x) (nth r ((x+1) % r.length))=0)->aK ((x:Int)+1)/\(x:Int)+1=((x+1:Nat):Int)/\(bC r x).length=(bC r (x+1)).length/\bC r x=bC r (x+1)/\x+1<=r.length/\r.length-(x+1)<r.length-x))/\
  (¬(x:Int)<r.length->(bC r x).length=(bC r x).length/\(0:Nat)<(bC r x).length/\(bC r x).length<=1000/\(bC r x).length=(bC r x).length/\(bC r x).length<=1000/\(0<=fI (fun x_1=>decide ((nth (bC r x) (Geo.bY (bC r x)))=x_1)) (bC r x)/\fI (fun x_1=>decide ((nth (bC r x) (Geo.bY (bC r x)))=x_1)) (bC r x)<=(bC r x).length)/\(fI (fun x_1=>decide ((nth (bC r x) (Geo.bY (bC r x)))=x_1)) (bC r x)).toNat+((bC r x).length-(fI (fun x_1=>decide ((nth (bC r x) (Geo.bY (bC r x)))=x_1)) (bC r x)).toNat)<=(bC r x).length/\(0:Nat)<(List.take ((bC r x).length-(fI (fun x_1=>decide ((nth (bC r x) (Geo.bY (bC r x)))=x_1)) (bC r x)).toNat) (List.drop (fI (fun x_1=>decide ((nth (bC r x) (Geo.bY (bC r x)))=x_1)) (bC r x)).toNat (bC r x))).length/\(List.take ((bC r x).length-(fI (fun x_1=>decide ((nth (bC r x) (Geo.bY (bC r x)))=x_1)) (bC r x)).toNat) (List.drop (fI (fun x_1=>decide ((nth (bC r x) (Geo.bY (bC r x)))=x_1)) (bC r x)).toNat (bC r x))).length<=1000/\(0<=fI (fun x_1=>decide ((nth (bC r x) (Geo.bY (bC r x)))=x_1)) (bC r x)/\fI (fun x_1=>decide ((nth (bC r x) (Geo.bY (bC r x)))=x_1)) (bC r x)<=(bC r x).length)/\(List.take ((bC r x).length-(fI (fun x_1=>decide ((nth (bC r x) (Geo.bY (bC r x)))=x_1)) (bC r x)).toNat) (List.drop (fI (fun x_1=>decide ((nth (bC r x) (Geo.bY (bC r x)))=x_1)) (bC r x)).toNat (bC r x))).length=(List.take ((bC r x).length-(fI (fun x_1=>decide ((nth (bC r x) (Geo.bY (bC r x)))=x_1)) (bC r x)).toNat) (List.drop (fI (fun x_1=>decide ((nth (bC r x) (Geo.bY (bC r x)))=x_1)) (bC r x)).toNat (bC r x))).length/\0+(fI (fun x_1=>decide ((nth (bC r x) (Geo.bY (bC r x)))=x_1)) (bC r x)).toNat<=(bC r x).length/\(List.take ((bC r x).length-(fI (fun x_1=>decide ((nth (bC r x) (Geo.bY (bC r x)))=x_1)) (bC r x)).toNat) (List.drop (fI (fun x_1=>decide ((nth (bC r x) (Geo.bY (bC r x)))=x_1)) (bC r x)).toNat (bC r x))).length+(List.take (fI (fun x_1=>decide ((nth (bC r x) (Geo.bY (bC r x)))=x_1)) (bC r x)).toNat (List.drop 0 (bC r x))).length<=1000000/\(List.take ((bC r x).length-(fI (fun x_1=>decide ((nth (bC r x) (Geo.bY (bC r x)))=x_1)) (bC r x)).toNat) (List.drop (fI (fun x_1=>decide ((nth (bC r x) (Geo.bY (bC r x)))=x_1)) (bC r x)).toNat (bC r x))++List.take (fI (fun x_1=>decide ((nth (bC r x) (Geo.bY (bC r x)))=x_1)) (bC r x)).toNat (List.drop 0 (bC r x))).length=(List.take ((bC r x).length-(fI (fun x_1=>decide ((nth (bC r x) (Geo.bY (bC r x)))=x_1)) (bC r x)).toNat) (List.drop (fI (fun x_1=>decide ((nth (bC r x) (Geo.bY (bC r x)))=x_1)) (bC r x)).toNat (bC r x))++List.take (fI (fun x_1=>decide ((nth (bC r x) (Geo.bY (bC r x)))=x_1)) (bC r x)).toNat (List.drop 0 (bC r x))).length/\List.take ((bC r x).length-(fI (fun x_1=>decide ((nth (bC r x) (Geo.bY (bC r x)))=x_1)) (bC r x)).toNat) (List.drop (fI (fun x_1=>decide ((nth (bC r x) (Geo.bY (bC r x)))=x_1)) (bC r x)).toNat (bC r x))++List.take (fI (fun x_1=>decide ((nth (bC r x) (Geo.bY (bC r x)))=x_1)) (bC r x)).toNat (List.drop 0 (bC r x))=Geo.fR (dZ r)))) (by kernel_rfl) (by
  change r.length<=1000/\((∀u∈r,bd 1000000000 u))/\0<(dZ r).length at hp;obtain⟨hl,hb,hc⟩:=hp;have bN:∀i:Nat,i<r.length->bd 1000000000 (nth r i):=fun i h=>hb _ (Geo.dW h)
  have tm:∀x:Nat,(x:Int)<r.length->Int.tmod ((x:Int)+r.length-1) (r.length:Int)=(((x+r.length-1) % r.length:Nat):Int):=fun x h=>by
   rw[show(x:Int)+r.length-1=((x+r.length-1:Nat):Int) by omega,Int.tmod_eq_emod_of_nonneg (by omega)];rfl
  have lt:∀x:Nat,(x:Int)<r.length->(x+r.length-1) % r.length<r.length:=fun x h=>Nat.mod_lt _ (by omega)
  have lt2:∀x:Nat,(x:Int)<r.length->(x+1) % r.length<r.length:=fun x h=>Nat.mod_lt _ (by omega)
  have f1:∀x:Nat,(x:Int)<r.length->aK ((x:Int)+r.length):=fun x h=>cW (by omega)
  have f2:∀x:Nat,(x:Int)<r.length->aK ((x:Int)+r.length-1):=fun x h=>cW (by omega)
  have f3:∀x:Nat,(x:Int)<r.length->(r.length:Int)≠0:=fun x h=>by omega
  have f4:∀x:Nat,(x:Int)<r.length->ix (Int.tmod ((x:Int)+r.length-1) (r.length:Int)) r.length:=fun x h=>by rw[tm x h];exact eC (lt x h)
  have f5:∀x:Nat,(x:Int)<r.length->aK ((x:Int)+1):=fun x h=>cW (by omega)
  have f6:∀x:Nat,(x:Int)<r.length->ix (((x+1) % r.length:Nat):Int) r.length:=fun x h=>eC (lt2 x h)
  have f7:∀x:Nat,(x:Int)<r.length->bd 1000000000 (nth r (Int.tmod ((x:Int)+r.length-1) (r.length:Int)).toNat):=fun x h=>by rw[tm x h];exact bN _ (lt x h)
  have f8:∀x:Nat,(x:Int)<r.length->bd 1000000000 (nth r x):=fun x h=>bN _ (by omega)
  have f9:∀x:Nat,(x:Int)<r.length->bd 1000000000 (nth r ((x+1) % r.length)):=fun x h=>bN _ (lt2 x h)
  have f10:∀x:Nat,(x:Int)<r.length->¬Geo.cP (nth r (Int.tmod ((x:Int)+r.length-1) (r.length:Int)).toNat) (nth r x) (nth r ((x+1) % r.length))=0->bC r x++[nth r x] =bC r (x+1):=fun x h h2=>by
   rw[tm x h,Int.toNat_natCast]at h2;rw[vI,if_pos (show Kn r x=true from decide_eq_true h2)]
  have f11:∀x:Nat,(x:Int)<r.length->¬¬Geo.cP (nth r (Int.tmod ((x:Int)+r.length-1) (r.length:Int)).toNat) (nth r x) (nth r ((x+1) % r.length))=0->bC r x=bC r (x+1):=fun x h h2=>by
   rw[tm x h,Int.toNat_natCast]at h2;rw[vI,if_neg (show¬Kn r x=true from fun h3=>h2 (of_decide_eq_true h3))]
  have f12:∀x:Nat,∀z:Geo.V,x<=r.length->(bC r x).length+[z].length<=1000000:=fun x z h=>by have:=wK r x;simp only[List.length_singleton];omega
  have g0:∀x:Nat,¬(x:Int)<r.length->x<=r.length->bC r x=dZ r:=fun x h h2=>by rw[show x=r.length by omega];rfl
  have g1:(dZ r).length<=1000:=by have:=wK r r.length;have h:(dZ r).length=(bC r r.length).length:=rfl;omega
  have hlt:=Geo.vB hc;have hf:fI (fun x=>decide (nth (dZ r) (Geo.bY (dZ r))=x)) (dZ r)=(Geo.bY (dZ r):Int):=by
   symm;exact vQ (t:= .V) hlt (decide_eq_true rfl) fun j hj=>decide_eq_false fun e=>by
    have:=Geo.uJ (dZ r) (dZ r).length j hj;rw[show Geo.cN (dZ r) (dZ r).length=Geo.bY (dZ r)from rfl,e]at this
    exact absurd ((xZ (nth (dZ r) j)).symm.trans this) (by decide)
  refine⟨⟨rfl,rfl,rfl,Nat.zero_le _⟩,fun x hx=>⟨?_,fun h=> ?_⟩⟩
  ·repeat' first|with_reducible apply And.intro|with_reducible intro
   all_goals repeat with_reducible cases‹_/\_›
   all_goals first|with_reducible assumption|with_reducible rfl|with_reducible exact f1 _ ‹_› |with_reducible exact f2 _ ‹_› |with_reducible exact f3 _ ‹_› |with_reducible exact f4 _ ‹_› |with_reducible exact f5 _ ‹_› |with_reducible exact f6 _ ‹_› |with_reducible exact f7 _ ‹_› |with_reducible exact f8 _ ‹_› |with_reducible exact f9 _ ‹_› |with_reducible exact f10 _ ‹_› ‹_› |with_reducible exact f11 _ ‹_› ‹_› |with_reducible exact congrArg List.length (f10 _ ‹_› ‹_›)|with_reducible exact congrArg List.length (f11 _ ‹_› ‹_›)|with_reducible exact f12 _ _ ‹_› |omega|(unfold ix;omega)|(unfold aK;omega)
  ·rw[g0 x h hx,hf,Int.toNat_natCast];unfold Geo.fR;generalize Geo.bY (dZ r)=k at hlt|-;have e1:List.take ((dZ r).length-k) (List.drop k (dZ r))=List.drop k (dZ r):=List.take_of_length_le (by rw[List.length_drop];omega)
   have e2:List.take k (List.drop 0 (dZ r))=List.take k (dZ r):=rfl;have e3:(List.drop k (dZ r)).length=(dZ r).length-k:=List.length_drop ..;have e4:(List.take k (dZ r)).length<=(dZ r).length:=by rw[List.length_take];omega
   rw[e1,e2];refine⟨rfl,hc,g1,rfl,g1,⟨by omega,by omega⟩,by omega,by rw[e3];omega,by rw[e3];omega,⟨by omega,by omega⟩,rfl,by omega,by rw[e3];omega,rfl,rfl⟩)
def aHd:Tab:=cJ [(115,aIz)] aHa
theorem aDP:aHd.Ok Tryz.prog:=aR aDM ⟨aK5,trivial⟩
def nxP(s:Geo.Shape):List (Nat×Nat):=(List.range (vOf s).length).map fun i=>(i,(gH (nG s) i).toNat)
def kP(p:Nat×Nat):List (Nat×Nat):=[p,(p.2,p.1)]
def hsG(s:Geo.Shape):List (Nat×Nat):=nxP s++(spG s).flatMap kP
def nxH(L:List (List Int))(h:Nat×Nat):Nat×Nat:=(h.2,fC L h.2 h.1 (-1))
def trc(v:List Geo.V)(L:List (List Int)):Nat->List (Nat×Nat)->Nat×Nat->List Geo.V->List (Nat×Nat)×List Geo.V
 |0,S,_,r=>(S,r)
 |f+1,S,h,r=>if h∈S then(S,r)else trc v L f (S++[h]) (nxH L h) (r++[nth v h.1])
def trU(v:List Geo.V):Nat:=v.length*v.length+1
def pcs(v:List Geo.V)(L:List (List Int))(H:List (Nat×Nat)):Nat->List (Nat×Nat)×List Geo.aH
 |0=>([],[])
 |k+1=>((trc v L (trU v) (pcs v L H k).1 (aY H k) []).1,if 0<(trc v L (trU v) (pcs v L H k).1 (aY H k) []).2.length then(pcs v L H k).2++[Geo.fR (dZ (trc v L (trU v) (pcs v L H k).1 (aY H k) []).2)]else(pcs v L H k).2)
def pcK(s:Geo.Shape)(k:Nat):List (Nat×Nat)×List Geo.aH:=pcs (vOf s) (soG s) (hsG s) k
def pcG(s:Geo.Shape):List Geo.aH:=if Geo.aM s=true then Geo.Au (pcK s (hsG s).length).2 else []
def Ow(s:Geo.Shape):Prop:=(∀i j:Nat,(j:Int)∈cV (soG s) i->ArOk (vOf s) (soG s) i j/\ArOk (vOf s) (soG s) j i)/\(∀h∈hsG s,ArOk (vOf s) (soG s) h.2 h.1)/\(∀i,i<(vOf s).length->0<=gH (nG s) i)/\
 ∀k,k<(hsG s).length->0<(trc (vOf s) (soG s) (trU (vOf s)) (pcK s k).1 (aY (hsG s) k) []).2.length->(trc (vOf s) (soG s) (trU (vOf s)) (pcK s k).1 (aY (hsG s) k) []).2.length<=1000/\0<(dZ (trc (vOf s) (soG s) (trU (vOf s)) (pcK s k).1 (aY (hsG s) k) []).2).length
abbrev TrY:=List (Nat×Nat)×(Nat×Nat)×List Geo.V
structure TrOk(v:List Geo.V)(L:List (List Int))(S0:List (Nat×Nat))(h0:Nat×Nat)(y:TrY):Prop where
 le:S0.length<=y.1.length
 run:trc v L (trU v-(y.1.length-S0.length)) y.1 y.2.1 y.2.2=trc v L (trU v) S0 h0 []
 nd:y.1.Nodup
 rng:∀p∈y.1,p.1<v.length/\p.2<v.length
 at_:ArOk v L y.2.1.2 y.2.1.1
 len:y.2.2.length<=y.1.length
 pts:∀u∈y.2.2,bd 1000000000 u
theorem Lv:∀(m:Nat) (l:List Nat),l.Nodup->(∀x∈l,x<m)->l.length<=m
 |0,l,_,h=>by
  cases l with
  |nil=>simp
  |cons x l=>exact absurd (h x List.mem_cons_self) (by omega)
 |m+1,l,hn,h=>by
  have h1:=Lv m (l.erase m) (hn.erase m) fun x hx=>by
   have h2:=hn.mem_erase_iff.1 hx;have:=h x h2.2;have:=h2.1;omega
  have h3:(l.erase m).length=if m∈l then l.length-1 else l.length:=List.length_erase ..
  split at h3<;>omega
theorem aCd{n:Nat}{S:List (Nat×Nat)}(hn:S.Nodup)(h:∀p∈S,p.1<n/\p.2<n):S.length<=n*n:=by
 have dv:∀p:Nat×Nat,p.2<n->(p.2+p.1*n)/n=p.1/\(p.2+p.1*n) % n=p.2:=fun p hp=>by
  rw[Nat.add_mul_div_right _ _ (by omega),Nat.add_mul_mod_self_right,Nat.div_eq_of_lt hp,Nat.mod_eq_of_lt hp];simp
 have h1:=Lv (n*n) (S.map fun p=>p.2+p.1*n) (by
  unfold List.Nodup;rw[List.pairwise_map];refine List.Pairwise.imp_of_mem (fun{p q} hp hq hne e=>hne ?_) hn
  have e1:=dv p (h p hp).2;have e2:=dv q (h q hq).2;rw[e]at e1;exact Prod.ext (e1.1.symm.trans e2.1) (e1.2.symm.trans e2.2)) fun x hx=>by
  obtain⟨p,hp,rfl⟩:=List.mem_map.1 hx;obtain⟨h2,h3⟩:=h p hp;have:(p.1+1)*n<=n*n:=Nat.mul_le_mul_right n h2;rw[Nat.add_mul]at this;omega
 rw[List.length_map]at h1;exact h1
theorem aE0{v:List Geo.V}{L:List (List Int)}{f:Nat}{S:List (Nat×Nat)}{h:Nat×Nat}{r:List Geo.V}(hS:h∈S):trc v L f S h r=(S,r):=by
 cases f with
 |zero=>rfl
 |succ f=>exact if_pos hS
theorem aBS{v:List Geo.V}{L:List (List Int)}{f:Nat}{S:List (Nat×Nat)}{h:Nat×Nat}{r:List Geo.V}(hS:h∉S):trc v L (f+1) S h r=trc v L f (S++[h]) (nxH L h) (r++[nth v h.1]):=if_neg hS
theorem TrOk.start{v:List Geo.V}{L:List (List Int)}{S0:List (Nat×Nat)}{h0:Nat×Nat}(h1:S0.Nodup)(h2:∀p∈S0,p.1<v.length/\p.2<v.length)(h3:ArOk v L h0.2 h0.1):TrOk v L S0 h0 (S0,h0,[]) where
 le:=Nat.le_refl _
 run:=by show trc v L (trU v-(S0.length-S0.length)) S0 h0 [] =_;rw[Nat.sub_self,Nat.sub_zero]
 nd:=h1
 rng:=h2
 at_:=h3
 len:=Nat.zero_le _
 pts:=fun u hu=>(List.not_mem_nil hu).elim
theorem TrOk.lt{v:List Geo.V}{L:List (List Int)}{S0:List (Nat×Nat)}{h0:Nat×Nat}{y:TrY}(T:TrOk v L S0 h0 y):y.1.length<trU v:=by
 have:=aCd T.nd T.rng;unfold trU;omega
theorem TrOk.step{v:List Geo.V}{L:List (List Int)}{S0:List (Nat×Nat)}{h0:Nat×Nat}{y:TrY}(T:TrOk v L S0 h0 y)(hsym:∀i j:Nat,(j:Int)∈cV L i->ArOk v L i j/\ArOk v L j i)(hL:L.length=v.length)(hb:∀u∈v,bd 1000000000 u)(hn:y.2.1∉y.1):
  TrOk v L S0 h0 (uL y.1 y.2.1,nxH L y.2.1,y.2.2++[nth v y.2.1.1]):=by
 obtain⟨S,h,r⟩:=y;have hlt:=T.lt;have hle:=T.le;have e:uL S h=S++[h] :=if_neg hn;have hA:ArOk v L h.2 h.1:=T.at_;have h1:=(hsym _ _ (hA.around (-1)).1).2;have h2:h.1<v.length:=by have:=(hA.rng _ hA.mem).2;omega
 have h3:h.2<v.length:=by have:=hA.iL;omega
 dsimp only at hlt hle|-;rw[e];refine⟨by rw[List.length_append];simp;omega,?_,?_,?_,h1,?_,?_⟩
 ·rw[<-T.run];dsimp only;rw[show trU v-(S.length-S0.length)=(trU v-((S++[h]).length-S0.length))+1 by rw[List.length_append];simp;omega]
  exact(aBS hn).symm
 ·rw[List.nodup_append];exact⟨T.nd,by simp,fun a ha b hb e=>hn (by rw[List.mem_singleton.1 hb]at e;rw[<-e];exact ha)⟩
 ·intro p hp;rcases List.mem_append.1 hp with hp|hp
  ·exact T.rng p hp
  ·rw[List.mem_singleton.1 hp];exact⟨h2,h3⟩
 ·have:=T.len;rw[List.length_append,List.length_append];simp;exact this
 ·intro u hu;rcases List.mem_append.1 hu with hu|hu
  ·exact T.pts u hu
  ·rw[List.mem_singleton.1 hu];exact hb _ (Geo.dW h2)
theorem TrOk.stop{v:List Geo.V}{L:List (List Int)}{S0:List (Nat×Nat)}{h0:Nat×Nat}{y:TrY}(T:TrOk v L S0 h0 y)(hn:y.2.1∈y.1):trc v L (trU v) S0 h0 [] =(y.1,y.2.2):=by
 rw[<-T.run];exact aE0 hn
theorem rI(s:Geo.Shape)(k:Nat):pcK s (k+1)=((trc (vOf s) (soG s) (trU (vOf s)) (pcK s k).1 (aY (hsG s) k) []).1,if 0<(trc (vOf s) (soG s) (trU (vOf s)) (pcK s k).1 (aY (hsG s) k) []).2.length then(pcK s k).2++[Geo.fR (dZ (trc (vOf s) (soG s) (trU (vOf s)) (pcK s k).1 (aY (hsG s) k) []).2)]else(pcK s k).2):=rfl
theorem aCc{s:Geo.Shape}{k:Nat}{y:TrY}(T:TrOk (vOf s) (soG s) (pcK s k).1 (aY (hsG s) k) y)(hm:y.2.1∈y.1)(h:0<y.2.2.length):pcK s (k+1)=(y.1,(pcK s k).2++[Geo.fR (dZ y.2.2)]):=by
 rw[rI,T.stop hm];dsimp only;rw[if_pos h]
theorem aFg{s:Geo.Shape}{k:Nat}{y:TrY}(T:TrOk (vOf s) (soG s) (pcK s k).1 (aY (hsG s) k) y)(hm:y.2.1∈y.1)(h:¬0<y.2.2.length):pcK s (k+1)=(y.1,(pcK s k).2):=by
 rw[rI,T.stop hm];dsimp only;rw[if_neg h]
theorem Tn(s:Geo.Shape):∀k,(pcK s k).2.length<=k
 |0=>Nat.le_refl _
 |k+1=>by
  have:=Tn s k;rw[rI];dsimp only;split
  ·rw[List.length_append];simp;omega
  ·omega
theorem Tm{s:Geo.Shape}(hp:Ow s):∀k,k<=(hsG s).length->∀r∈(pcK s k).2,r.length<=1000
 |0,_,r,hr=>(List.not_mem_nil hr).elim
 |k+1,hk,r,hr=>by
  have ih:=Tm hp k (by omega)
  rw[rI]at hr;dsimp only at hr;split at hr
  ·rename_i h;rcases List.mem_append.1 hr with hr|hr
   ·exact ih r hr
   ·rw[List.mem_singleton.1 hr,Geo.gC];have h1:=(hp.2.2.2 k (by omega) h).1
    have h2:=wK (trc (vOf s) (soG s) (trU (vOf s)) (pcK s k).1 (aY (hsG s) k) []).2 (trc (vOf s) (soG s) (trU (vOf s)) (pcK s k).1 (aY (hsG s) k) []).2.length;unfold dZ;omega
  ·exact ih r hr
theorem Tt(s:Geo.Shape):(nxP s).length=(vOf s).length:=by unfold nxP;rw[List.length_map,List.length_range]
theorem Ih:∀l:List (Nat×Nat),(l.flatMap kP).length=2*l.length
 |[] =>rfl
 |p::l=>by rw[List.flatMap_cons,List.length_append,Ih l,List.length_cons];show 2+_=_;omega
theorem aCs(s:Geo.Shape):(hsG s).length=(vOf s).length+2*(spG s).length:=by unfold hsG;rw[List.length_append,Tt,Ih]
def pcS(s:Geo.Shape)(k:Nat):List (Nat×Nat):=(pcK s k).1
def pcR(s:Geo.Shape)(k:Nat):List Geo.aH:=(pcK s k).2
def c48:Con:=con (a1 aSh) (fun s=>[Fit s,(Geo.aM s=true->GOk s/\SOk s/\Ow s)]) (fun s=> .tup [.lst .R (pcG s),.int .i64 (eV s)])
set_option maxHeartbeats 4000000 in
theorem k48:c48.Ok Tryz.prog 48:=bF (bP aDP) (raw:=bR) (fun s=>[lp 6 30 (vOf s).length (fun _=>[]) [40] (fun k=>[(6,.own 40 .P k)]) (fun k=>[(40,.row 67 .P ((nxP s).take k))]) fun k=>[jU 8 [(7,.int .i64 (k:Int)),(8,.int .i64 ((gH (nG s) k).toNat:Nat))]],
  lp 11 44 (spG s).length (fun _=>[]) [40] (fun k=>[(6,.own 40 .P ((vOf s).length+2*k))]) (fun k=>[(40,.row 67 .P (nxP s++((spG s).take k).flatMap kP))]),
  lp 18 61 (hsG s).length (fun k=>[(pcS s k).Nodup,∀p∈(pcS s k),p.1<(vOf s).length/\p.2<(vOf s).length]) [60] (fun k=>[(12,.own 60 .R (pcR s k).length)]) (fun k=>[(60,.row 23 .R (pcR s k)),(46,.mp (pcS s k))]) fun k=>
  [(22,.mk TrY (fun F L=>match F.at 16,L.at 46 with
  | .ptr b 0,some (.mp ks)=>(match L.at b with
  |some (.box _ [.int _ i,.int _ j])=>some (ks,(i.toNat,j.toNat),match F.at 15 with| .own t _ _=>(match L.at t with|some (.row _ .V r)=>r|_=>[])|_=>[])
  |_=>none)
  |_,_=>none) [68,70] (fun y=>[TrOk (vOf s) (soG s) (pcS s k) (aY (hsG s) k) y]) (fun y=>[(15,.own 70 .V y.2.2.length),(16,.ptr 68 0),(12,.own 60 .R (pcR s k).length)])
  (fun y=>[(68,.box 67 [.int .i64 (y.2.1.1:Nat),.int .i64 (y.2.1.2:Nat)]),(70,.row 44 .V y.2.2),(46,.mp y.1)]) (fun y=>trU (vOf s)-y.1.length) fun _=>[])]]
  ) (fun _=>⟨_,rfl⟩) fun s hp=>bQ (q:=Fit s/\((!Geo.aM s)=true->pcG s=([] :List (List Geo.V))/\11=eV s)/\
 ((!Geo.aM s)=false->Fit s/\Geo.aM s=true/\GOk s/\SOk s/\(0=(0:Int)/\(0:Nat)=0/\List.take 0 (nxP s)=([] :List (Prod Nat Nat))/\(0:Nat)<=(vOf s).length)/\
  (∀x:Nat,x<=(vOf s).length->((x:Int)<(vOf s).length->(ix (x:Int) (vOf s).length/\x<(nG s).length/\(x:Int)=x/\gH (nG s) x=(gH (nG s) x).toNat)/\
    (∀y:Unit,x=(List.take x (nxP s)).length/\(List.take x (nxP s)).length+[(x,(gH (nG s) x).toNat)].length<=1000000/\aK ((x:Int)+1)/\(x:Int)+1=((x+1:Nat):Int)/\(List.take x (nxP s)++[(x,(gH (nG s) x).toNat)]).length=x+1/\List.take x (nxP s)++[(x,(gH (nG s) x).toNat)] =List.take (x+1) (nxP s)/\x+1<=(vOf s).length/\(vOf s).length-(x+1)<(vOf s).length-x))/\
   (¬(x:Int)<(vOf s).length->(0=(0:Int)/\x=(vOf s).length+2*0/\List.take x (nxP s)=nxP s++List.flatMap kP (List.take 0 (spG s))/\(0:Nat)<=(spG s).length)/\
    (∀x_1:Nat,x_1<=(spG s).length->((x_1:Int)<(spG s).length->ix (x_1:Int) (spG s).length/\x_1<(spG s).length/\ix 1 2/\ix 0 2/\(vOf s).length+2*x_1=(nxP s++List.flatMap kP (List.take x_1 (spG s))).length/\(nxP s++List.flatMap kP (List.take x_1 (spG s))).length+[((aY (spG s) x_1).1,(aY (spG s) x_1).2),((aY (spG s) x_1).2,(aY (spG s) x_1).1)].length<=1000000/\aK ((x_1:Int)+1)/\(x_1:Int)+1=((x_1+1:Nat):Int)/\(nxP s++List.flatMap kP (List.take x_1 (spG s))++[((aY (spG s) x_1).1,(aY (spG s) x_1).2),((aY (spG s) x_1).2,(aY (spG s) x_1).1)]).length=(vOf s).length+2*(x_1+1)/\nxP s++List.flatMap kP (List.take x_1 (spG s))++[((aY (spG s) x_1).1,(aY (spG s) x_1).2),((aY (spG s) x_1).2,(aY (spG s) x_1).1)] =nxP s++List.flatMap kP (List.take (x_1+1) (spG s))/\x_1+1<=(spG s).length/\(spG s).length-(x_1+1)<(spG s).length-x_1)/\
     (¬(x_1:Int)<(spG s).length->(0=(0:Int)/\(pcR s 0).length=0/\pcR s 0=([] :List (List Geo.V))/\([] :List (Prod Nat Nat))=pcS s 0/\(0:Nat)<=(hsG s).length/\List.Nodup (pcS s 0)/\(∀p:Prod Nat Nat,p∈pcS s 0->p.1<(vOf s).length/\p.2<(vOf s).length))/\
      (∀x_2:Nat,x_2<=(hsG s).length/\List.Nodup (pcS s x_2)/\(∀p:Prod Nat Nat,p∈pcS s x_2->p.1<(vOf s).length/\p.2<(vOf s).length)->((x_2:Int)<(((vOf s).length+2*x_1:Nat):Int)->ix (x_2:Int) ((vOf s).length+2*x_1)/\x_2<(nxP s++List.flatMap kP (List.take x_1 (spG s))).length/\(([] :List Geo.V).length=0/\(pcR s x_2).length=(pcR s x_2).length/\((aY (nxP s++List.flatMap kP (List.take x_1 (spG s))) x_2).1:Int)=(aY (nxP s++List.flatMap kP (List.take x_1 (spG s))) x_2).1/\((aY (nxP s++List.flatMap kP (List.take x_1 (spG s))) x_2).2:Int)=(aY (nxP s++List.flatMap kP (List.take x_1 (spG s))) x_2).2/\([] :List Geo.V)=([] :List Geo.V)/\pcS s x_2=pcS s x_2/\TrOk (vOf s) (soG s) (pcS s x_2) (aY (hsG s) x_2) (pcS s x_2,(((aY (nxP s++List.flatMap kP (List.take x_1 (spG s))) x_2).1,(aY (nxP s++List.flatMap kP (List.take x_1 (spG s))) x_2).2),([] :List Geo.V))))/\
        (∀x_3:TrY,TrOk (vOf s) (soG s) (pcS s x_2) (aY (hsG s) x_2) x_3->List.Nodup x_3.1/\((x_3.2.1.1,x_3.2.1.2)∈x_3.1->(0<(x_3.2.2.length:Int)->x_3.2.2.length=x_3.2.2.length/\x_3.2.2.length<=1000/\(∀u:Geo.V,u∈x_3.2.2->bd 1000000000 u)/\(0:Nat)<(dZ x_3.2.2).length/\(pcR s x_2).length=(pcR s x_2).length/\(pcR s x_2).length+[Geo.fR (dZ x_3.2.2)].length<=1000000/\aK ((x_2:Int)+1)/\(x_2:Int)+1=((x_2+1:Nat):Int)/\(pcR s x_2++[Geo.fR (dZ x_3.2.2)]).length=(pcR s (x_2+1)).length/\pcR s x_2++[Geo.fR (dZ x_3.2.2)] =pcR s (x_2+1)/\x_3.1=pcS s (x_2+1)/\x_2+1<=(hsG s).length/\List.Nodup (pcS s (x_2+1))/\(∀p:Prod Nat Nat,p∈pcS s (x_2+1)->p.1<(vOf s).length/\p.2<(vOf s).length)/\(hsG s).length-(x_2+1)<(hsG s).length-x_2)/\
          (¬0<(x_3.2.2.length:Int)->aK ((x_2:Int)+1)/\(x_2:Int)+1=((x_2+1:Nat):Int)/\(pcR s x_2).length=(pcR s (x_2+1)).length/\pcR s x_2=pcR s (x_2+1)/\x_3.1=pcS s (x_2+1)/\x_2+1<=(hsG s).length/\List.Nodup (pcS s (x_2+1))/\(∀p:Prod Nat Nat,p∈pcS s (x_2+1)->p.1<(vOf s).length/\p.2<(vOf s).length)/\(hsG s).length-(x_2+1)<(hsG s).length-x_2))/\
         (¬(x_3.2.1.1,x_3.2.1.2)∈x_3.1->List.Nodup x_3.1/\ix 0 2/\ix (x_3.2.1.1:Int) (vOf s).length/\x_3.2.2.length=x_3.2.2.length/\x_3.2.2.length+[(nth (vOf s) x_3.2.1.1)].length<=1000000/\ix 1 2/\ix 1 2/\ix 0 2/\(vOf s).length=(soG s).length/\(vOf s).length=(nG s).length/\(vOf s).length<=1000000/\(soG s).length<=1000000/\x_3.2.1.2<(soG s).length/\(x_3.2.1.1:Int)∈cV (soG s) x_3.2.1.2/\(cV (soG s) x_3.2.1.2).length<=1000000/\(∀x_4:Int,x_4∈cV (soG s) x_3.2.1.2->0<=x_4)/\((-1:Int)=1\/(-1:Int)= -1)/\(x_3.2.2++[(nth (vOf s) x_3.2.1.1)]).length=(x_3.2.2++[(nth (vOf s) x_3.2.1.1)]).length/\(pcR s x_2).length=(pcR s x_2).length/\(x_3.2.1.2:Int)=x_3.2.1.2/\(fC (soG s) x_3.2.1.2 x_3.2.1.1 (-1):Int)=fC (soG s) x_3.2.1.2 x_3.2.1.1 (-1)/\x_3.2.2++[(nth (vOf s) x_3.2.1.1)] =x_3.2.2++[(nth (vOf s) x_3.2.1.1)]/\uL x_3.1 (x_3.2.1.1,x_3.2.1.2)=uL x_3.1 (x_3.2.1.1,x_3.2.1.2)/\TrOk (vOf s) (soG s) (pcS s x_2) (aY (hsG s) x_2) (uL x_3.1 (x_3.2.1.1,x_3.2.1.2),((x_3.2.1.2,fC (soG s) x_3.2.1.2 x_3.2.1.1 (-1)),x_3.2.2++[(nth (vOf s) x_3.2.1.1)]))/\trU (vOf s)-(uL x_3.1 (x_3.2.1.1,x_3.2.1.2)).length<trU (vOf s)-x_3.1.length)))/\
       (¬(x_2:Int)<(((vOf s).length+2*x_1:Nat):Int)->(pcR s x_2).length=(pcR s x_2).length/\(pcR s x_2).length<=1000000/\(∀r:Geo.aH,r∈pcR s x_2->r.length<=1000)/\(pcR s x_2).length=(r68 (pcR s x_2,true)).length/\r68 (pcR s x_2,true)=pcG s/\0=eV s)))))))) (by kernel_rfl) (by
  change Fit s/\((Geo.aM s=true->GOk s/\SOk s/\Ow s))at hp;obtain⟨hf,hv⟩:=hp;have n80:(vOf s).length<=80:=xF s;have hT:(!Geo.aM s)=false->Geo.aM s=true:=fun h=>nb h
  have hg:(!Geo.aM s)=false->GOk s:=fun h=>(hv (nb h)).1
  have hs:(!Geo.aM s)=false->SOk s:=fun h=>(hv (nb h)).2.1
  have hP:(!Geo.aM s)=false->Ow s:=fun h=>(hv (nb h)).2.2
  have sd0:(!Geo.aM s)=true->pcG s=[] :=fun h=>by unfold pcG;rw[nb' h];rfl
  have ev0:(!Geo.aM s)=true->11=eV s:=fun h=>by unfold eV;rw[nb' h];rfl
  have ev1:(!Geo.aM s)=false->0=eV s:=fun h=>by unfold eV;rw[nb h];rfl
  have sl:(!Geo.aM s)=false->(spG s).length<=6400:=fun h=>by
   have h1:(spG s).length<=(pG s).length:=Oz _ _ _ _;have h2:=(Ib (nb h)).1;rw[Zs]at h1;omega
  have hl:=aCs s;have nl:(nG s).length=(vOf s).length:=Pk s _;have gl:(soG s).length=(vOf s).length:=Zr s _;have xl:=Tt s;have vb:∀u∈vOf s,bd 1000000000 u:=fun u hu=>by
   obtain⟨i,hi,rfl⟩:=Geo.fA.1 hu;exact Hm hi (by decide)
  have a1:∀x:Nat,(x:Int)<(vOf s).length->x<(nG s).length:=fun x h=>by omega
  have a2:(!Geo.aM s)=false->∀x:Nat,(x:Int)<(vOf s).length->gH (nG s) x=(gH (nG s) x).toNat:=fun h x hx=>(Int.toNat_of_nonneg ((hP h).2.2.1 x (by omega))).symm
  have a3:∀x:Nat,x<=(vOf s).length->(List.take x (nxP s)).length=x:=fun x h=>by rw[List.length_take];omega
  have a4:∀x:Nat,(x:Int)<(vOf s).length->List.take x (nxP s)++[(x,(gH (nG s) x).toNat)] =List.take (x+1) (nxP s):=fun x h=>by
   rw[List.take_succ_eq_append_getElem (show x<(nxP s).length by omega)]
   unfold nxP;rw[List.getElem_map,List.getElem_range]
  have a5:∀x:Nat,∀z:Nat×Nat,(x:Int)<(vOf s).length->(List.take x (nxP s)).length+[z].length<=1000000:=fun x z h=>by rw[a3 x (by omega)];simp only[List.length_singleton];omega
  have a6:∀x:Nat,∀z:Nat×Nat,(x:Int)<(vOf s).length->(List.take x (nxP s)++[z]).length=x+1:=fun x z h=>by rw[List.length_append,a3 x (by omega)];rfl
  have a7:∀x:Nat,(x:Int)<(vOf s).length->aK ((x:Int)+1):=fun x h=>cW (by omega)
  have b0:∀x:Nat,¬(x:Int)<(vOf s).length->x<=(vOf s).length->x=(vOf s).length+2*0:=fun x h h2=>by omega
  have b1:∀x:Nat,¬(x:Int)<(vOf s).length->List.take x (nxP s)=nxP s++List.flatMap kP (List.take 0 (spG s)):=fun x h=>by rw[List.take_of_length_le (by omega)];simp
  have b2:∀x:Nat,x<=(spG s).length->(nxP s++List.flatMap kP (List.take x (spG s))).length=(vOf s).length+2*x:=fun x h=>by rw[List.length_append,xl,Ih,List.length_take];omega
  have b3:(!Geo.aM s)=false->∀x:Nat,∀z u:Nat×Nat,x<=(spG s).length->(nxP s++List.flatMap kP (List.take x (spG s))).length+[z,u].length<=1000000:=fun h x z u hx=>by have:=sl h;rw[b2 x hx];simp only[List.length_cons,List.length_nil];omega
  have b4:(!Geo.aM s)=false->∀x:Nat,(x:Int)<(spG s).length->aK ((x:Int)+1):=fun h x hx=>cW (by have:=sl h;omega)
  have b5:∀x:Nat,∀z u:Nat×Nat,x<=(spG s).length->(nxP s++List.flatMap kP (List.take x (spG s))++[z,u]).length=(vOf s).length+2*(x+1):=fun x z u hx=>by rw[List.length_append,b2 x hx];simp only[List.length_cons,List.length_nil];omega
  have b6:∀x:Nat,(x:Int)<(spG s).length->nxP s++List.flatMap kP (List.take x (spG s))++[((aY (spG s) x).1,(aY (spG s) x).2),((aY (spG s) x).2,(aY (spG s) x).1)] =nxP s++List.flatMap kP (List.take (x+1) (spG s)):=fun x h=>by
   rw[List.take_succ_eq_append_getElem (show x<(spG s).length by omega),List.flatMap_append,<-List.append_assoc,sI (by omega)];rfl
  have hH:∀x:Nat,¬(x:Int)<(spG s).length->nxP s++List.flatMap kP (List.take x (spG s))=hsG s:=fun x h=>by rw[List.take_of_length_le (by omega)];rfl
  have c1:∀x y:Nat,¬(x:Int)<(spG s).length->x<=(spG s).length->(y:Int)<(((vOf s).length+2*x:Nat):Int)->y<(hsG s).length:=fun x y h h2 h3=>by omega
  have c2:∀x y:Nat,x<=(spG s).length->(y:Int)<(((vOf s).length+2*x:Nat):Int)->y<(nxP s++List.flatMap kP (List.take x (spG s))).length:=fun x y h2 h3=>by rw[b2 x h2];omega
  have c3:(!Geo.aM s)=false->∀x y:Nat,¬(x:Int)<(spG s).length->x<=(spG s).length->(y:Int)<(((vOf s).length+2*x:Nat):Int)->List.Nodup (pcS s y)->(∀p:Nat×Nat,p∈(pcS s y)->p.1<(vOf s).length/\p.2<(vOf s).length)->TrOk (vOf s) (soG s) (pcS s y) (aY (hsG s) y) ((pcS s y),(((aY (nxP s++List.flatMap kP (List.take x (spG s))) y).1,(aY (nxP s++List.flatMap kP (List.take x (spG s))) y).2),([] :List Geo.V))):=fun h x y h1 h2 h3 h4 h5=>by
   rw[hH x h1];refine TrOk.start h4 h5 ((hP h).2.1 _ ?_);have:=c1 x y h1 h2 h3;rw[sI this];exact List.getElem_mem _
  have d1:(!Geo.aM s)=false->∀x y:Nat,¬(x:Int)<(spG s).length->x<=(spG s).length->(y:Int)<(((vOf s).length+2*x:Nat):Int)->∀z:TrY,TrOk (vOf s) (soG s) (pcS s y) (aY (hsG s) y) z->z.2.1∈z.1->0<(z.2.2.length:Int)->z.2.2.length<=1000/\0<(dZ z.2.2).length:=fun h x y h1 h2 h3 z T hm hz=>by
   have e:=T.stop hm;unfold pcS at e;have:=(hP h).2.2.2 y (c1 x y h1 h2 h3);rw[e]at this;exact this (by show 0<z.2.2.length;omega)
  have d2:(!Geo.aM s)=false->∀y:Nat,y<=(hsG s).length->(pcR s y).length<=20000:=fun h y hy=>by have h1:(pcR s y).length<=y:=Tn s y;have:=sl h;omega
  have d3:(!Geo.aM s)=false->∀y:Nat,y<=(hsG s).length->∀q:Geo.aH,(pcR s y).length+[q].length<=1000000:=fun h y hy q=>by have:=d2 h y hy;simp only[List.length_singleton];omega
  have d4:(!Geo.aM s)=false->∀y:Nat,y<=(hsG s).length->aK ((y:Int)+1):=fun h y hy=>cW (by have:=sl h;omega)
  have t1:∀(y:Nat) (z:TrY),TrOk (vOf s) (soG s) (pcS s y) (aY (hsG s) y) z->z.2.1∈z.1->0<(z.2.2.length:Int)->(pcR s y)++[Geo.fR (dZ z.2.2)] =pcR s (y+1):=fun y z T hm hz=>(congrArg Prod.snd (aCc T hm (by omega))).symm
  have t2:∀(y:Nat) (z:TrY),TrOk (vOf s) (soG s) (pcS s y) (aY (hsG s) y) z->z.2.1∈z.1->¬0<(z.2.2.length:Int)->pcR s y=pcR s (y+1):=fun y z T hm hz=>(congrArg Prod.snd (aFg T hm (by omega))).symm
  have t3:∀(y:Nat) (z:TrY),TrOk (vOf s) (soG s) (pcS s y) (aY (hsG s) y) z->z.2.1∈z.1->z.1=(pcS s (y+1)):=fun y z T hm=>by unfold pcS at*;rw[rI,T.stop hm]
  have t4:∀(y:Nat) (z:TrY),TrOk (vOf s) (soG s) (pcS s y) (aY (hsG s) y) z->z.2.1∈z.1->(pcS s (y+1)).Nodup:=fun y z T hm=>by rw[<-t3 y z T hm];exact T.nd
  have t5:∀(y:Nat) (z:TrY),TrOk (vOf s) (soG s) (pcS s y) (aY (hsG s) y) z->z.2.1∈z.1->∀p:Nat×Nat,p∈(pcS s (y+1))->p.1<(vOf s).length/\p.2<(vOf s).length:=fun y z T hm=>by rw[<-t3 y z T hm];exact T.rng
  have r0:∀(y:Nat) (z:TrY),TrOk (vOf s) (soG s) (pcS s y) (aY (hsG s) y) z->ArOk (vOf s) (soG s) z.2.1.2 z.2.1.1:=fun y z T=>T.at_
  have r1:∀(y:Nat) (z:TrY),TrOk (vOf s) (soG s) (pcS s y) (aY (hsG s) y) z->z.2.1.1<(vOf s).length:=fun y z T=>by
   have:=(T.at_.rng _ T.at_.mem).2;omega
  have r2:∀(y:Nat) (z:TrY),TrOk (vOf s) (soG s) (pcS s y) (aY (hsG s) y) z->ix (z.2.1.1:Int) (vOf s).length:=fun y z T=>eC (r1 y z T)
  have r3:∀(y:Nat) (z:TrY),TrOk (vOf s) (soG s) (pcS s y) (aY (hsG s) y) z->∀q:Geo.V,z.2.2.length+[q].length<=1000000:=fun y z T q=>by
   have h1:=T.lt;have h2:=T.len;unfold trU at h1;have:(vOf s).length*(vOf s).length<=80*80:=Nat.mul_le_mul n80 n80;simp only[List.length_singleton];omega
  have r4:∀(y:Nat) (z:TrY),TrOk (vOf s) (soG s) (pcS s y) (aY (hsG s) y) z->∀x∈cV (soG s) z.2.1.2,0<=x:=fun y z T x hx=>(T.at_.rng x hx).1
  have r5:(!Geo.aM s)=false->∀(y:Nat) (z:TrY),TrOk (vOf s) (soG s) (pcS s y) (aY (hsG s) y) z->z.2.1∉z.1->TrOk (vOf s) (soG s) (pcS s y) (aY (hsG s) y) (uL z.1 z.2.1,nxH (soG s) z.2.1,z.2.2++[nth (vOf s) z.2.1.1]):=fun h y z T hm=>T.step (hP h).1 gl vb hm
  have r6:∀(y:Nat) (z:TrY),TrOk (vOf s) (soG s) (pcS s y) (aY (hsG s) y) z->z.2.1∉z.1->trU (vOf s)-(uL z.1 z.2.1).length<trU (vOf s)-z.1.length:=fun y z T hm=>by
   have:=T.lt;rw[show uL z.1 z.2.1=z.1++[z.2.1]from if_neg hm,List.length_append]
   simp;omega
  have e1:(!Geo.aM s)=false->∀x y:Nat,¬(x:Int)<(spG s).length->x<=(spG s).length->¬(y:Int)<(((vOf s).length+2*x:Nat):Int)->y<=(hsG s).length->r68 ((pcR s y),true)=pcG s:=fun h x y h1 h2 h3 h4=>by
   rw[show y=(hsG s).length by omega]
   unfold pcG;rw[nb h,if_pos rfl];rfl
  have e2:∀l:List Geo.aH,l.length=(r68 (l,true)).length:=fun l=>(Geo.uU l).length_eq.symm
  have e3:(!Geo.aM s)=false->∀y:Nat,y<=(hsG s).length->∀r∈(pcR s y),r.length<=1000:=fun h y hy=>Tm (hP h) y hy
  have e4:(!Geo.aM s)=false->∀y:Nat,y<=(hsG s).length->(pcR s y).length<=1000000:=fun h y hy=>by have:=d2 h y hy;omega
  have e5:(pcS s 0).Nodup:=List.nodup_nil;have hT2:(!Geo.aM s)=false->Geo.aM s=true:=hT;clear hv hT hP
  repeat' first|with_reducible apply And.intro|with_reducible intro
  all_goals repeat with_reducible cases‹_/\_›
  all_goals first|with_reducible assumption|with_reducible rfl|with_reducible exact sd0 ‹_› |with_reducible exact ev0 ‹_› |with_reducible exact ev1 ‹_› |with_reducible exact hT2 ‹_› |with_reducible exact hg ‹_› |with_reducible exact hs ‹_› |with_reducible exact a1 _ ‹_› |with_reducible exact a2 ‹_› _ ‹_› |with_reducible exact(a3 _ ‹_›).symm|with_reducible exact a4 _ ‹_› |with_reducible exact a5 _ _ ‹_› |with_reducible exact a6 _ _ ‹_› |with_reducible exact a7 _ ‹_› |with_reducible exact b0 _ ‹_› ‹_› |with_reducible exact b1 _ ‹_› |with_reducible exact(b2 _ ‹_›).symm|with_reducible exact b3 ‹_› _ _ _ ‹_› |with_reducible exact b4 ‹_› _ ‹_› |with_reducible exact b5 _ _ _ ‹_› |with_reducible exact b6 _ ‹_› |with_reducible exact c2 _ _ ‹_› ‹_› |exact c3 ‹_› _ _ ‹_› ‹_› ‹_› ‹_› ‹_› |exact(d1 ‹_› _ _ ‹_› ‹_› ‹_› _ ‹_› ‹_› ‹_›).1|exact(d1 ‹_› _ _ ‹_› ‹_› ‹_› _ ‹_› ‹_› ‹_›).2|with_reducible exact d3 ‹_› _ ‹_› _|with_reducible exact d4 ‹_› _ ‹_› |with_reducible exact(TrOk.nd ‹_›)|with_reducible exact(TrOk.pts ‹_› _ ‹_›)|exact t1 _ _ ‹_› ‹_› ‹_› |exact congrArg List.length (t1 _ _ ‹_› ‹_› ‹_›)|exact t2 _ _ ‹_› ‹_› ‹_› |exact congrArg List.length (t2 _ _ ‹_› ‹_› ‹_›)|exact t3 _ _ ‹_› ‹_› |exact t4 _ _ ‹_› ‹_› |exact(t5 _ _ ‹_› ‹_› _ ‹_›).1|exact(t5 _ _ ‹_› ‹_› _ ‹_›).2|with_reducible exact r2 _ _ ‹_› |with_reducible exact r3 _ _ ‹_› _|with_reducible exact(r0 _ _ ‹_›).iL|with_reducible exact(r0 _ _ ‹_›).mem|with_reducible exact(r0 _ _ ‹_›).len|with_reducible exact r4 _ _ ‹_› _ ‹_› |exact r5 ‹_› _ _ ‹_› ‹_› |exact r6 _ _ ‹_› ‹_› |with_reducible exact e1 ‹_› _ _ ‹_› ‹_› ‹_› ‹_› |with_reducible exact e2 _|with_reducible exact e3 ‹_› _ ‹_› _ ‹_› |with_reducible exact e4 ‹_› _ ‹_› |omega|(unfold ix;omega)|(unfold aK;omega)|exact .inr rfl|exact e5|exact(List.not_mem_nil ‹_›).elim|exact rfl)
def t48:Tab:=cJ [(48,c48)] aHd
theorem aJR:t48.Ok Tryz.prog:=aR aDP ⟨k48,trivial⟩
end
end Go.Proofs.YtdaeofhdgabhjaaGreat
namespace Go.Proofs.YtdaeofhdgabhjaaGreat.Geo
structure P3 where
 x:Int
 y:Int
 d:Int
def ev(h p:P3):Int:=h.x*p.x+h.y*p.y+h.d*p.d
def cmb(m:Int)(p:P3)(n:Int)(q:P3):P3:=⟨m*p.x+n*q.x,m*p.y+n*q.y,m*p.d+n*q.d⟩
theorem jW(h p q:P3)(m n:Int):ev h (cmb m p n q)=m*ev h p+n*ev h q:=by unfold ev cmb;grind
def Sat(L:List P3):Prop:=∃p:P3,0<p.d/\∀h∈L,0<ev h p
theorem aEE(u v:Int):∃a b:Int,(a≠0\/b≠0)/\a*u+b*v=0:=by
 by_cases h:u=0
 ·exact⟨1,0,.inl (by omega),by subst h;omega⟩
 ·exact⟨v,-u,.inr (by omega),by grind⟩
theorem aJ7(x1 y1 x2 y2 x3 y3:Int):∃a b c:Int,(a≠0\/b≠0\/c≠0)/\a*x1+b*x2+c*x3=0/\a*y1+b*y2+c*y3=0:=by
 by_cases h3:x3=0
 ·by_cases h2:x2=0
  ·obtain⟨b,c,hne,hy⟩:=aEE y2 y3;exact⟨0,b,c,by omega,by subst h2 h3;omega,by omega⟩
  ·obtain⟨a,c,hne,hy⟩:=aEE (x2*y1-x1*y2) (x2*y3-x3*y2);refine⟨a*x2,-(a*x1+c*x3),c*x2,?_,by grind,by grind⟩
   rcases hne with h|h
   ·exact .inl (Int.mul_ne_zero h h2)
   ·exact .inr (.inr (Int.mul_ne_zero h h2))
 ·obtain⟨a,b,hne,hy⟩:=aEE (x3*y1-x1*y3) (x3*y2-x2*y3);refine⟨a*x3,b*x3,-(a*x1+b*x2),?_,by grind,by grind⟩
  rcases hne with h|h
  ·exact .inl (Int.mul_ne_zero h h3)
  ·exact .inr (.inl (Int.mul_ne_zero h h3))
theorem aJ6(p q r s:P3)(hs:0<s.d):∃a b c e:Int,(a≠0\/b≠0\/c≠0\/e≠0)/\a*p.x+b*q.x+c*r.x+e*s.x=0/\a*p.y+b*q.y+c*r.y+e*s.y=0/\a*p.d+b*q.d+c*r.d+e*s.d=0:=by
 obtain⟨a,b,c,hne,hx,hy⟩:=aJ7 (s.d*p.x-p.d*s.x) (s.d*p.y-p.d*s.y) (s.d*q.x-q.d*s.x) (s.d*q.y-q.d*s.y) (s.d*r.x-r.d*s.x) (s.d*r.y-r.d*s.y);have hd:s.d≠0:=by omega
 refine⟨a*s.d,b*s.d,c*s.d,-(a*p.d+b*q.d+c*r.d),?_,by grind,by grind,by grind⟩
 rcases hne with h|h|h
 ·exact .inl (Int.mul_ne_zero h hd)
 ·exact .inr (.inl (Int.mul_ne_zero h hd))
 ·exact .inr (.inr (.inl (Int.mul_ne_zero h hd)))
def pos(n:Int):Int:=if 0<n then n else 0
def mix(a b c e:Int)(p q r s:P3):P3:=⟨a*p.x+b*q.x+c*r.x+e*s.x,a*p.y+b*q.y+c*r.y+e*s.y,a*p.d+b*q.d+c*r.d+e*s.d⟩
theorem mV(h p q r s:P3)(a b c e:Int):ev h (mix a b c e p q r s)=a*ev h p+b*ev h q+c*ev h r+e*ev h s:=by unfold ev mix;grind
theorem Ba(p q r s:P3)(a b c e:Int):(mix a b c e p q r s).d=a*p.d+b*q.d+c*r.d+e*s.d:=rfl
theorem iO{a b c e u v x y:Int}(ha:0<=a)(hb:0<=b)(hc:0<=c)(he:0<=e)(hne:a≠0\/b≠0\/c≠0\/e≠0)(h1:a≠0->0<u)(h2:b≠0->0<v)(h3:c≠0->0<x)(h4:e≠0->0<y):0<a*u+b*v+c*x+e*y:=by
 have t:∀{m z:Int},0<=m->(m≠0->0<z)->0<=m*z/\(m≠0->0<m*z):=by
  intro m z hm hz;by_cases h:m=0
  ·subst h;exact⟨by omega,fun h=>absurd rfl h⟩
  ·have:=Int.mul_pos (show 0<m by omega) (hz h);exact⟨by omega,fun _=>this⟩
 have:=t ha h1;have:=t hb h2;have:=t hc h3;have:=t he h4;generalize a*u=A at*;generalize b*v=B at*;generalize c*x=C at*;generalize e*y=E at*;rcases hne with h|h|h|h<;>grind
theorem aJc{h1 h2 h3 h4:P3}{R:List P3}(s1:Sat (h2::h3::h4::R))(s2:Sat (h1::h3::h4::R))(s3:Sat (h1::h2::h4::R))(s4:Sat (h1::h2::h3::R)):Sat (h1::h2::h3::h4::R):=by
 obtain⟨p,hp,fp⟩:=s1;obtain⟨q,hq,fq⟩:=s2;obtain⟨r,hr,fr⟩:=s3;obtain⟨s,hs,fs⟩:=s4;obtain⟨a,b,c,e,hne,hx,hy,hd⟩:=aJ6 p q r s hs;simp only[List.mem_cons,forall_eq_or_imp]at fp fq fr fs;obtain⟨p2,p3,p4,pR⟩:=fp;obtain⟨q1,q3,q4,qR⟩:=fq;obtain⟨r1,r2,r4,rR⟩:=fr;obtain⟨s1,s2,s3,sR⟩:=fs;have pn:∀n:Int,pos n-pos (-n)=n:=by intro n;unfold pos;split<;>split<;>omega
 have p0:∀n:Int,0<=pos n:=by intro n;unfold pos;split<;>omega
 have pz:∀n:Int,pos n≠0->pos (-n)=0:=by intro n;unfold pos;split<;>split<;>omega
 have pz':∀n:Int,pos (-n)≠0->pos n=0:=by intro n;unfold pos;split<;>split<;>omega
 have key:∀h:P3,ev h (mix (pos a) (pos b) (pos c) (pos e) p q r s)=ev h (mix (pos (-a)) (pos (-b)) (pos (-c)) (pos (-e)) p q r s):=by
  intro h;have hz:a*ev h p+b*ev h q+c*ev h r+e*ev h s=0:=by unfold ev;grind
  rw[mV,mV];have ea:=pn a;have eb:=pn b;have ec:=pn c;have ee:=pn e;grind
 have kd:(mix (pos a) (pos b) (pos c) (pos e) p q r s).d=(mix (pos (-a)) (pos (-b)) (pos (-c)) (pos (-e)) p q r s).d:=by
  rw[Ba,Ba];have ea:=pn a;have eb:=pn b;have ec:=pn c;have ee:=pn e;grind
 have dne:pos a≠0\/pos b≠0\/pos c≠0\/pos e≠0:=by
  apply Classical.byContradiction;intro hno;simp only[not_or,Decidable.not_not]at hno;obtain⟨z1,z2,z3,z4⟩:=hno;have:0<pos (-a)*p.d+pos (-b)*q.d+pos (-c)*r.d+pos (-e)*s.d:=by
   refine iO (p0 _) (p0 _) (p0 _) (p0 _) ?_ (fun _=>hp) (fun _=>hq) (fun _=>hr) (fun _=>hs)
   have ea:=pn a;have eb:=pn b;have ec:=pn c;have ee:=pn e;omega
  rw[Ba,Ba,z1,z2,z3,z4]at kd;omega
 have dne':pos (-a)≠0\/pos (-b)≠0\/pos (-c)≠0\/pos (-e)≠0:=by
  apply Classical.byContradiction;intro hno;simp only[not_or,Decidable.not_not]at hno;obtain⟨z1,z2,z3,z4⟩:=hno;have:0<pos a*p.d+pos b*q.d+pos c*r.d+pos e*s.d:=iO (p0 _) (p0 _) (p0 _) (p0 _) dne (fun _=>hp) (fun _=>hq) (fun _=>hr) (fun _=>hs)
  rw[Ba,Ba,z1,z2,z3,z4]at kd;omega
 refine⟨mix (pos a) (pos b) (pos c) (pos e) p q r s,?_,?_⟩
 ·rw[Ba];exact iO (p0 _) (p0 _) (p0 _) (p0 _) dne (fun _=>hp) (fun _=>hq) (fun _=>hr) (fun _=>hs)
 ·intro h hm;simp only[List.mem_cons]at hm;rcases hm with rfl|rfl|rfl|rfl|hm
  ·by_cases z:pos a=0
   ·rw[mV];exact iO (p0 _) (p0 _) (p0 _) (p0 _) dne (fun h=>absurd z h) (fun _=>q1) (fun _=>r1) (fun _=>s1)
   ·rw[key,mV];exact iO (p0 _) (p0 _) (p0 _) (p0 _) dne' (fun h=>absurd (pz _ z) h) (fun _=>q1) (fun _=>r1) (fun _=>s1)
  ·by_cases z:pos b=0
   ·rw[mV];exact iO (p0 _) (p0 _) (p0 _) (p0 _) dne (fun _=>p2) (fun h=>absurd z h) (fun _=>r2) (fun _=>s2)
   ·rw[key,mV];exact iO (p0 _) (p0 _) (p0 _) (p0 _) dne' (fun _=>p2) (fun h=>absurd (pz _ z) h) (fun _=>r2) (fun _=>s2)
  ·by_cases z:pos c=0
   ·rw[mV];exact iO (p0 _) (p0 _) (p0 _) (p0 _) dne (fun _=>p3) (fun _=>q3) (fun h=>absurd z h) (fun _=>s3)
   ·rw[key,mV];exact iO (p0 _) (p0 _) (p0 _) (p0 _) dne' (fun _=>p3) (fun _=>q3) (fun h=>absurd (pz _ z) h) (fun _=>s3)
  ·by_cases z:pos e=0
   ·rw[mV];exact iO (p0 _) (p0 _) (p0 _) (p0 _) dne (fun _=>p4) (fun _=>q4) (fun _=>r4) (fun h=>absurd z h)
   ·rw[key,mV];exact iO (p0 _) (p0 _) (p0 _) (p0 _) dne' (fun _=>p4) (fun _=>q4) (fun _=>r4) (fun h=>absurd (pz _ z) h)
  ·rw[mV];exact iO (p0 _) (p0 _) (p0 _) (p0 _) dne (fun _=>pR _ hm) (fun _=>qR _ hm) (fun _=>rR _ hm) (fun _=>sR _ hm)
theorem Sat.sub{L M:List P3}(h:Sat L)(hs:∀x∈M,x∈L):Sat M:=by
 obtain⟨p,hp,f⟩:=h;exact⟨p,hp,fun x hx=>f x (hs x hx)⟩
theorem aJo:∀(n:Nat) (L:List P3),L.length=n->(∀a∈L,∀b∈L,∀c∈L,Sat [a,b,c])->Sat L:=by
 intro n;induction n using Nat.strongRecOn with
 |ind n ih=>
  intro L hn h;match L,hn with
  |[],_=>exact⟨⟨0,0,1⟩,by decide,fun x hx=>by cases hx⟩
  |[a],_=>exact(h a (by simp) a (by simp) a (by simp)).sub (by simp)
  |[a,b],_=>exact(h a (by simp) b (by simp) a (by simp)).sub (by simp)
  |[a,b,c],_=>exact h a (by simp) b (by simp) c (by simp)
  |a::b::c::e::R,hn=>
   have g:∀M:List P3,(∀x∈M,x∈a::b::c::e::R)->M.length<n->Sat M:=fun M hM hl=>ih M.length hl M rfl (fun x hx y hy z hz=>h x (hM x hx) y (hM y hy) z (hM z hz))
   simp only[List.length_cons]at hn;refine aJc (g _ ?_ ?_) (g _ ?_ ?_) (g _ ?_ ?_) (g _ ?_ ?_);all_goals first
    |(simp only[List.length_cons];omega)
    |(intro x hx;simp only[List.mem_cons]at hx|-;grind)
end Go.Proofs.YtdaeofhdgabhjaaGreat.Geo
namespace Go.Proofs.YtdaeofhdgabhjaaGreat.Geo
def lin(u v:V):P3:=⟨-(v.y-u.y),v.x-u.x,(v.y-u.y)*u.x-(v.x-u.x)*u.y⟩
def pt(v:V):P3:=⟨v.x,v.y,1⟩
theorem uQ(u v w:V):ev (lin u v) (pt w)=cross (sub v u) (sub w u):=by unfold ev lin pt cross sub;grind
theorem aBf(u v:V):ev (lin u v) (pt u)=0:=by unfold ev lin pt;grind
theorem Mo(u v:V):ev (lin u v) (pt v)=0:=by unfold ev lin pt;grind
theorem vH{n1 d1 n2 d2 n3 d3:Int}(h1:0<d1)(h2:0<d2)(h3:0<d3)(a:n1*d2<=n2*d1)(b:n2*d3<n3*d2):n1*d3<n3*d1:=by
 have e1:=Int.mul_le_mul_of_nonneg_right a (show 0<=d3 by omega)
 have e2:=Int.mul_lt_mul_of_pos_right b h1;have:(n1*d3)*d2<(n3*d1)*d2:=by grind
 exact Int.lt_of_mul_lt_mul_right this (by omega)
theorem Dl{n1 d1 n2 d2 n3 d3:Int}(h1:0<d1)(h2:0<d2)(h3:0<d3)(a:n1*d2<n2*d1)(b:n2*d3<=n3*d2):n1*d3<n3*d1:=by
 have e1:=Int.mul_lt_mul_of_pos_right a h3;have e2:=Int.mul_le_mul_of_nonneg_right b (show 0<=d1 by omega)
 have:(n1*d3)*d2<(n3*d1)*d2:=by grind
 exact Int.lt_of_mul_lt_mul_right this (by omega)
def iE:List (Int×Int)->Int->Int->Int->Int->Bool
 |[],ln,ld,hn,hd=>decide (ln*hd<hn*ld)
 |(a,b)::l,ln,ld,hn,hd=>
  if a<=0/\b<=0 then false
  else if a<0 then(if ln*(b-a)< -a*ld then iE l (-a) (b-a) hn hd else iE l ln ld hn hd)
  else if b<0 then(if a*hd<hn*(a-b)then iE l ln ld a (a-b)else iE l ln ld hn hd)
  else iE l ln ld hn hd
theorem iY:∀(l:List (Int×Int)) (ln ld hn hd:Int),0<=ln->0<ld->0<hd->hn<=hd->
  (iE l ln ld hn hd=true↔∃x y:Int,0<x/\0<y/\(∀p∈l,0<p.1*x+p.2*y)/\ln*(x+y)<y*ld/\y*hd<hn*(x+y))
 |[],ln,ld,hn,hd,h1,h2,h3,h4=>by
  simp only[iE,decide_eq_true_eq,List.not_mem_nil,false_imp_iff,implies_true,true_and];constructor
  ·intro h;have hn0:0<hn:=by
    rcases Int.lt_or_le 0 hn with h5|h5
    ·exact h5
    ·have:=Int.mul_nonneg h1 (show 0<=hd by omega)
     have:=Int.mul_nonneg (show 0<= -hn by omega) (show 0<=ld by omega)
     rw[Int.neg_mul]at this;omega
   have hl:ln<ld:=by
    rcases Int.lt_or_le ln ld with h5|h5
    ·exact h5
    ·have e1:=Int.mul_le_mul_of_nonneg_right h5 (show 0<=hd by omega)
     have e2:=Int.mul_le_mul_of_nonneg_right h4 (show 0<=ld by omega)
     rw[Int.mul_comm hd ld]at e2;omega
   refine⟨(ld-ln)+(hd-hn),ln+hn,by omega,by omega,?_,?_⟩
   ·have:ln*((ld-ln)+(hd-hn)+(ln+hn))=ln*ld+ln*hd:=by grind
    rw[this,Int.add_mul];omega
   ·have:hn*((ld-ln)+(hd-hn)+(ln+hn))=hn*ld+hn*hd:=by grind
    rw[this,Int.add_mul];omega
  ·rintro⟨x,y,hx,hy,a,b⟩;have a':ln*(x+y)<=y*ld:=by omega
   exact vH (n2:=y) (d2:=x+y) h2 (by omega) h3 a' b
 |(a,b)::l,ln,ld,hn,hd,h1,h2,h3,h4=>by
  have e1:∀x y:Int,(∀p∈(a,b)::l,0<p.1*x+p.2*y)↔(0<a*x+b*y/\∀p∈l,0<p.1*x+p.2*y):=by intro x y;simp
  simp only[e1];unfold iE;by_cases c1:a<=0/\b<=0
  ·rw[if_pos c1];constructor
   ·intro h;cases h
   ·rintro⟨x,y,hx,hy,⟨h5,_⟩,_⟩;have:=Int.mul_nonneg (show 0<= -a by omega) (show 0<=x by omega)
    have:=Int.mul_nonneg (show 0<= -b by omega) (show 0<=y by omega)
    rw[Int.neg_mul]at*;omega
  ·rw[if_neg c1];by_cases c2:a<0
   ·have hb:0<b:=by omega
    have hba:0<b-a:=by omega
    have e2:∀x y:Int,0<a*x+b*y↔ -a*(x+y)<y*(b-a):=by intro x y;constructor<;>intro h<;>grind
    rw[if_pos c2];by_cases c3:ln*(b-a)< -a*ld
    ·rw[if_pos c3,iY l (-a) (b-a) hn hd (by omega) hba h3 h4]
     constructor
     ·rintro⟨x,y,hx,hy,h5,h6,h7⟩;exact⟨x,y,hx,hy,⟨(e2 x y).2 h6,h5⟩,vH (n2:= -a) (d2:=b-a) h2 hba (by omega) (by omega) h6,h7⟩
     ·rintro⟨x,y,hx,hy,⟨h5,h6⟩,h7,h8⟩;exact⟨x,y,hx,hy,h6,(e2 x y).1 h5,h8⟩
    ·rw[if_neg c3,iY l ln ld hn hd h1 h2 h3 h4];constructor
     ·rintro⟨x,y,hx,hy,h5,h6,h7⟩;exact⟨x,y,hx,hy,⟨(e2 x y).2 (vH (n2:=ln) (d2:=ld) hba h2 (by omega) (by omega) h6),h5⟩,h6,h7⟩
     ·rintro⟨x,y,hx,hy,⟨h5,h6⟩,h7,h8⟩;exact⟨x,y,hx,hy,h6,h7,h8⟩
   ·rw[if_neg c2];by_cases c4:b<0
    ·have ha:0<a:=by omega
     have hab:0<a-b:=by omega
     have e2:∀x y:Int,0<a*x+b*y↔y*(a-b)<a*(x+y):=by intro x y;constructor<;>intro h<;>grind
     rw[if_pos c4];by_cases c3:a*hd<hn*(a-b)
     ·rw[if_pos c3,iY l ln ld a (a-b) h1 h2 hab (by omega)]
      constructor
      ·rintro⟨x,y,hx,hy,h5,h6,h7⟩;exact⟨x,y,hx,hy,⟨(e2 x y).2 h7,h5⟩,h6,Dl (n2:=a) (d2:=a-b) (by omega) hab h3 h7 (by omega)⟩
      ·rintro⟨x,y,hx,hy,⟨h5,h6⟩,h7,h8⟩;exact⟨x,y,hx,hy,h6,h7,(e2 x y).1 h5⟩
     ·rw[if_neg c3,iY l ln ld hn hd h1 h2 h3 h4];constructor
      ·rintro⟨x,y,hx,hy,h5,h6,h7⟩;exact⟨x,y,hx,hy,⟨(e2 x y).2 (Dl (n2:=hn) (d2:=hd) (by omega) h3 hab h7 (by omega)),h5⟩,h6,h7⟩
      ·rintro⟨x,y,hx,hy,⟨h5,h6⟩,h7,h8⟩;exact⟨x,y,hx,hy,h6,h7,h8⟩
    ·rw[if_neg c4,iY l ln ld hn hd h1 h2 h3 h4];constructor
     ·rintro⟨x,y,hx,hy,h5,h6,h7⟩;refine⟨x,y,hx,hy,⟨?_,h5⟩,h6,h7⟩;have g1:=Int.mul_nonneg (show 0<=a by omega) (show 0<=x by omega)
      have g2:=Int.mul_nonneg (show 0<=b by omega) (show 0<=y by omega)
      rcases Int.lt_or_le 0 a with h|h
      ·have:=Int.mul_pos h hx;omega
      ·have:=Int.mul_pos (show 0<b by omega) hy;omega
     ·rintro⟨x,y,hx,hy,⟨h5,h6⟩,h7,h8⟩;exact⟨x,y,hx,hy,h6,h7,h8⟩
structure Poly(F:List P3)(Vs:List V)(Es:List S)(c:P3):Prop where
 nonneg:∀f∈F,∀v∈Vs,0<=ev f (pt v)
 cd:0<c.d
 cin:∀f∈F,0<ev f c
 ends:∀s∈Es,s.a∈Vs/\s.b∈Vs
 side:∀q:P3,0<q.d->(∃f∈F,ev f q=0)->(∀f∈F,0<=ev f q)->∃s∈Es,∃x y k:Int,0<=x/\0<=y/\0<k/\∀h:P3,k*ev h q=x*ev h (pt s.a)+y*ev h (pt s.b)
 hull:∀q:P3,(∀f∈F,0<ev f q)->∀h:P3,(∀v∈Vs,ev h (pt v)<=0)->ev h q<=0
theorem big(q c:P3):∀(G:List P3),(∀g∈G,0<ev g q)->∃N:Int,1<=N/\∀g∈G,0<N*ev g q+ev g c
 |[],_=>⟨1,by decide,fun g hg=>by cases hg⟩
 |g::G,h=>by
  obtain⟨N,h1,h2⟩:=big q c G (fun g hg=>h g (List.mem_cons_of_mem _ hg))
  have hg:=h g List.mem_cons_self;refine⟨N+(ev g c).natAbs,by omega,?_⟩
  intro f hf;rcases List.mem_cons.1 hf with rfl|hf
  ·have:(N+(ev f c).natAbs)*1<=(N+(ev f c).natAbs)*ev f q:=Int.mul_le_mul_of_nonneg_left (by omega) (by omega)
   omega
  ·have:=h2 f hf;have h3:=h f (List.mem_cons_of_mem _ hf);have:=Int.mul_nonneg (show 0<=((ev g c).natAbs:Int) by omega) (show 0<=ev f q by omega)
   rw[Int.add_mul];omega
theorem oT{F:List P3}{Vs:List V}{Es:List S}{c:P3}(A:Poly F Vs Es c){g:P3}(h:∃v∈Vs,0<ev g (pt v)):Sat (g::F):=by
 obtain⟨v,hv,hg⟩:=h;obtain⟨N,h1,h2⟩:=big (pt v) c [g] (by simpa using hg)
 refine⟨cmb N (pt v) 1 c,?_,?_⟩
 ·have:=A.cd;simp only[cmb,pt];omega
 ·intro f hf;rw[jW];rcases List.mem_cons.1 hf with rfl|hf
  ·have:=h2 f (by simp);omega
  ·have e1:=A.nonneg f hf v hv;have e2:=A.cin f hf;have:=Int.mul_nonneg (show 0<=N by omega) e1
   omega
theorem Jr{F G:List P3}{Vs Us:List V}{Es Ds:List S}{c e:P3}(A:Poly F Vs Es c)(B:Poly G Us Ds e)
  (h1:∀g∈G,∃v∈Vs,0<ev g (pt v)) (h2:∀f∈F,∃u∈Us,0<ev f (pt u)):Sat (F++G):=by
 have hF:Sat F:=⟨c,A.cd,A.cin⟩;have hG:Sat G:=⟨e,B.cd,B.cin⟩;refine aJo _ _ rfl ?_;intro x hx y hy z hz;simp only[List.mem_append]at hx hy hz;rcases hx with hx|hx<;>rcases hy with hy|hy<;>rcases hz with hz|hz
 ·exact hF.sub (by intro w hw;simp at hw;grind)
 ·exact(oT A (h1 z hz)).sub (by intro w hw;simp at hw|-;grind)
 ·exact(oT A (h1 y hy)).sub (by intro w hw;simp at hw|-;grind)
 ·exact(oT B (h2 x hx)).sub (by intro w hw;simp at hw|-;grind)
 ·exact(oT A (h1 x hx)).sub (by intro w hw;simp at hw|-;grind)
 ·exact(oT B (h2 y hy)).sub (by intro w hw;simp at hw|-;grind)
 ·exact(oT B (h2 z hz)).sub (by intro w hw;simp at hw|-;grind)
 ·exact hG.sub (by intro w hw;simp at hw;grind)
def uS(G:List P3)(s:S):Prop:=∃x y:Int,0<x/\0<y/\∀g∈G,0<ev g (pt s.a)*x+ev g (pt s.b)*y
theorem uI{F G:List P3}{Vs:List V}{Es:List S}{c:P3}(A:Poly F Vs Es c){s:S}(hs:s∈Es)(h:uS G s):Sat (F++G):=by
 obtain⟨x,y,hx,hy,hg⟩:=h;have hq:∀g∈G,0<ev g (cmb x (pt s.a) y (pt s.b)):=by intro g h;rw[jW];have:=hg g h;grind
 obtain⟨N,h1,h2⟩:=big _ c G hq;refine⟨cmb N (cmb x (pt s.a) y (pt s.b)) 1 c,?_,?_⟩
 ·have e1:=A.cd;have e2:=Int.mul_pos (show 0<N by omega) (show 0<x*1+y*1 by omega)
  simp only[cmb,pt];omega
 ·intro f hf;rw[jW];rcases List.mem_append.1 hf with hf|hf
  ·have e1:=A.nonneg f hf _ (A.ends s hs).1;have e2:=A.nonneg f hf _ (A.ends s hs).2;have e3:=A.cin f hf;have e4:0<=ev f (cmb x (pt s.a) y (pt s.b)):=by
    rw[jW];have:=Int.mul_nonneg (show 0<=x by omega) e1
    have:=Int.mul_nonneg (show 0<=y by omega) e2
    omega
   have:=Int.mul_nonneg (show 0<=N by omega) e4
   omega
  ·have:=h2 f hf;omega
theorem aD7(p c:P3)(hp:0<p.d)(hc:0<c.d):∀(G:List P3),(∀g∈G,0<ev g p)->
  ∃m n:Int,0<=m/\0<=n/\0<m+n/\(∀g∈G,0<=ev g (cmb m p n c))/\((∃g∈G,ev g (cmb m p n c)=0)\/(m=0/\∀g∈G,0<ev g c))
 |[],_=>⟨0,1,by omega,by omega,by omega,(fun g hg=>by cases hg),.inr ⟨rfl,(fun g hg=>by cases hg)⟩⟩
 |g::G,h=>by
  obtain⟨m,n,hm,hn,hmn,h1,h2⟩:=aD7 p c hp hc G (fun g hg=>h g (List.mem_cons_of_mem _ hg))
  have hg:=h g List.mem_cons_self;rcases Int.lt_trichotomy (ev g (cmb m p n c)) 0 with h3|h3|h3
  ·
   have hq:=jW g p c m n;refine⟨-(ev g (cmb m p n c))+ev g p*m,ev g p*n,?_,?_,?_,?_,.inl ⟨g,List.mem_cons_self,?_⟩⟩
   ·have:=Int.mul_nonneg (show 0<=ev g p by omega) hm;omega
   ·exact Int.mul_nonneg (by omega) hn
   ·have e1:=Int.mul_nonneg (show 0<=ev g p by omega) hm
    have e2:=Int.mul_nonneg (show 0<=ev g p by omega) hn
    omega
   ·intro f hf;rcases List.mem_cons.1 hf with rfl|hf
    ·rw[jW];have:(-(ev f (cmb m p n c))+ev f p*m)*ev f p+ev f p*n*ev f c=0:=by rw[hq];grind
     omega
    ·have e1:=h1 f hf;have e2:=h f (List.mem_cons_of_mem _ hf);have e3:=Int.mul_nonneg (show 0<=ev g p by omega) e1
     have e4:=Int.mul_nonneg (show 0<= -(ev g (cmb m p n c)) by omega) (show 0<=ev f p by omega)
     have e5:=jW f p c m n;rw[jW];have:(-(ev g (cmb m p n c))+ev g p*m)*ev f p+ev g p*n*ev f c= -(ev g (cmb m p n c))*ev f p+ev g p*ev f (cmb m p n c):=by rw[e5];grind
     omega
   ·rw[jW,hq];grind
  ·refine⟨m,n,hm,hn,hmn,?_,.inl ⟨g,List.mem_cons_self,h3⟩⟩;intro f hf;rcases List.mem_cons.1 hf with rfl|hf
   ·omega
   ·exact h1 f hf
  ·refine⟨m,n,hm,hn,hmn,?_,?_⟩
   ·intro f hf;rcases List.mem_cons.1 hf with rfl|hf
    ·omega
    ·exact h1 f hf
   ·rcases h2 with⟨f,hf,h4⟩|⟨rfl,h4⟩
    ·exact .inl ⟨f,List.mem_cons_of_mem _ hf,h4⟩
    ·refine .inr ⟨rfl,?_⟩;intro f hf;rcases List.mem_cons.1 hf with rfl|hf
     ·rw[jW]at h3;have hn0:0<n:=by omega
      have:0<n*ev f c:=by omega
      exact Int.pos_of_mul_pos_right this hn0|>fun h=>h
     ·exact h4 f hf
theorem yS{F:List P3}{s:S}{x y:Int}(hx:0<=x)(hy:0<=y)(h:∀f∈F,0<x*ev f (pt s.a)+y*ev f (pt s.b)):uS F s:=by
 have hq:∀f∈F,0<ev f (cmb x (pt s.a) y (pt s.b)):=by intro f hf;rw[jW];exact h f hf
 obtain⟨N,h1,h2⟩:=big _ (cmb 1 (pt s.a) 1 (pt s.b)) F hq;have e1:=Int.mul_nonneg (show 0<=N by omega) hx
 have e2:=Int.mul_nonneg (show 0<=N by omega) hy
 refine⟨N*x+1,N*y+1,by omega,by omega,?_⟩
 intro f hf;have:=h2 f hf;rw[jW,jW]at this;grind
theorem zX{F G:List P3}{Vs Us:List V}{Es Ds:List S}{c e:P3}(A:Poly F Vs Es c)(B:Poly G Us Ds e):
  Sat (F++G)↔((∃s∈Es,uS G s)\/(∃s∈Ds,uS F s)\/∀g∈G,0<ev g c):=by
 constructor
 ·rintro⟨p,hp,h⟩;obtain⟨m,n,hm,hn,hmn,h1,h2⟩:=aD7 p c hp A.cd G (fun g hg=>h g (List.mem_append_right _ hg))
  rcases h2 with h2|⟨_,h2⟩
  ·refine .inr (.inl ?_);have hd:0<(cmb m p n c).d:=by
    have:=A.cd;have e1:=Int.mul_nonneg hm (show 0<=p.d by omega)
    have e2:=Int.mul_nonneg hn (show 0<=c.d by omega)
    show 0<m*p.d+n*c.d;rcases Int.lt_or_le 0 m with h3|h3
    ·have:=Int.mul_pos h3 hp;omega
    ·have:=Int.mul_pos (show 0<n by omega) this;omega
   obtain⟨s,hs,x,y,k,hx,hy,hk,hq⟩:=B.side _ hd h2 h1;refine⟨s,hs,yS hx hy ?_⟩;intro f hf;rw[<-hq f];refine Int.mul_pos hk ?_;rw[jW];have e1:=h f (List.mem_append_left _ hf);have e2:=A.cin f hf;have e3:=Int.mul_nonneg hm (show 0<=ev f p by omega)
   have e4:=Int.mul_nonneg hn (show 0<=ev f c by omega)
   rcases Int.lt_or_le 0 m with h3|h3
   ·have:=Int.mul_pos h3 e1;omega
   ·have:=Int.mul_pos (show 0<n by omega) e2;omega
  ·exact .inr (.inr h2)
 ·rintro(⟨s,hs,h⟩|⟨s,hs,h⟩|h)
  ·exact uI A hs h
  ·exact(uI B hs h).sub (by intro x hx;simp at hx|-;grind)
  ·refine⟨c,A.cd,?_⟩;intro f hf;rcases List.mem_append.1 hf with hf|hf
   ·exact A.cin f hf
   ·exact h f hf
theorem Eo{F G:List P3}{Vs Us:List V}{Es Ds:List S}{c e:P3}(A:Poly F Vs Es c)(B:Poly G Us Ds e):
  Sat (F++G)↔((∀g∈G,∃v∈Vs,0<ev g (pt v))/\(∀f∈F,∃u∈Us,0<ev f (pt u))):=by
 constructor
 ·rintro⟨p,hp,h⟩;constructor
  ·intro g hg;apply Classical.byContradiction;intro hno;have:=A.hull p (fun f hf=>h f (List.mem_append_left _ hf)) g (fun v hv=>by
    rcases Int.lt_or_le 0 (ev g (pt v))with h1|h1
    ·exact absurd ⟨v,hv,h1⟩ hno
    ·exact h1)
   have:=h g (List.mem_append_right _ hg);omega
  ·intro f hf;apply Classical.byContradiction;intro hno;have:=B.hull p (fun g hg=>h g (List.mem_append_right _ hg)) f (fun v hv=>by
    rcases Int.lt_or_le 0 (ev f (pt v))with h1|h1
    ·exact absurd ⟨v,hv,h1⟩ hno
    ·exact h1)
   have:=h f (List.mem_append_left _ hf);omega
 ·rintro⟨h1,h2⟩;exact Jr A B h1 h2
end Go.Proofs.YtdaeofhdgabhjaaGreat.Geo
set_option linter.unusedSimpArgs false
namespace Go.Proofs.YtdaeofhdgabhjaaGreat.Geo
def cF(s:S)(r:aH):Bool:=iE ((aD r).map fun e=>(cross (sub e.b e.a) (sub s.a e.a),cross (sub e.b e.a) (sub s.b e.a))) 0 1 1 1
def kM(r:aH):List P3:=(aD r).map fun e=>lin e.a e.b
theorem Oc(s:S)(r:aH):cF s r=true↔uS (kM r) s:=by
 unfold cF uS kM;rw[iY _ _ _ _ _ (by omega) (by omega) (by omega) (by omega)]
 constructor
 ·rintro⟨x,y,hx,hy,h,_⟩;refine⟨x,y,hx,hy,?_⟩;intro g hg;obtain⟨e,he,rfl⟩:=List.mem_map.1 hg;rw[uQ,uQ];exact h _ (List.mem_map.2 ⟨e,he,rfl⟩)
 ·rintro⟨x,y,hx,hy,h⟩;refine⟨x,y,hx,hy,?_,by omega,by omega⟩
  intro p hp;obtain⟨e,he,rfl⟩:=List.mem_map.1 hp;have:=h _ (List.mem_map.2 ⟨e,he,rfl⟩);rw[uQ,uQ]at this;exact this
def fV(a b:aH):Bool:=(List.range a.length).any fun i=>b.all fun v=>decide (cP (nth a i) (nxt a i) v<=0)
def fD(a b:aH):Bool:=fV a b||fV b a
theorem Ct(a b:aH)(ha:2<=a.length):fV a b=true↔∃f∈kM a,∀v∈b,ev f (pt v)<=0:=by
 unfold fV kM aD;rw[if_neg (by omega),List.map_map]
 simp only[List.any_eq_true,List.mem_range,List.all_eq_true,decide_eq_true_eq,List.mem_map,Function.comp,dB];have sg:∀n:Int,sgn n<=0↔n<=0:=by intro n;have:=Ik n;omega
 constructor
 ·rintro⟨i,hi,h⟩;refine⟨_,⟨i,hi,rfl⟩,?_⟩;intro v hv;rw[uQ];exact(sg _).1 (h v hv)
 ·rintro⟨f,⟨i,hi,rfl⟩,h⟩;refine⟨i,hi,?_⟩;intro v hv;have:=h v hv;rw[uQ]at this;exact(sg _).2 this
end Go.Proofs.YtdaeofhdgabhjaaGreat.Geo
namespace Go.Proofs.YtdaeofhdgabhjaaGreat.Geo
theorem jI:∀(L:List (Int×Int)) (ln ld hn hd:Int),ln*hd<hn*ld->(∀p∈L,¬(p.1<=0/\p.2<=0))->(∀p∈L,p.1<0-> -p.1*hd<hn*(p.2-p.1))->
  (∀q∈L,q.2<0->ln*(q.1-q.2)<q.1*ld)->(∀p∈L,∀q∈L,p.1<0->q.2<0-> -p.1*(q.1-q.2)<q.1*(p.2-p.1))->iE L ln ld hn hd=true
 |[],ln,ld,hn,hd,h0,_,_,_,_=>by simpa[iE]using h0
 |(a,b)::L,ln,ld,hn,hd,h0,h1,h2,h3,h4=>by
  have i1:∀p∈L,¬(p.1<=0/\p.2<=0):=fun p hp=>h1 p (List.mem_cons_of_mem _ hp)
  have i2:∀p∈L,p.1<0-> -p.1*hd<hn*(p.2-p.1):=fun p hp=>h2 p (List.mem_cons_of_mem _ hp)
  have i3:∀q∈L,q.2<0->ln*(q.1-q.2)<q.1*ld:=fun p hp=>h3 p (List.mem_cons_of_mem _ hp)
  have i4:∀p∈L,∀q∈L,p.1<0->q.2<0-> -p.1*(q.1-q.2)<q.1*(p.2-p.1):=fun p hp q hq=>h4 p (List.mem_cons_of_mem _ hp) q (List.mem_cons_of_mem _ hq)
  unfold iE;rw[if_neg (h1 (a,b) List.mem_cons_self)];split
  ·rename_i ha;split
   ·exact jI L _ _ _ _ (h2 (a,b) List.mem_cons_self ha) i1 i2 (fun q hq hq2=>h4 (a,b) List.mem_cons_self q (List.mem_cons_of_mem _ hq) ha hq2) i4
   ·exact jI L _ _ _ _ h0 i1 i2 i3 i4
  ·split
   ·rename_i hb;split
    ·exact jI L _ _ _ _ (h3 (a,b) List.mem_cons_self hb) i1 (fun p hp hp1=>h4 p (List.mem_cons_of_mem _ hp) (a,b) List.mem_cons_self hp1 hb) i3 i4
    ·exact jI L _ _ _ _ h0 i1 i2 i3 i4
   ·exact jI L _ _ _ _ h0 i1 i2 i3 i4
theorem enters_of{F:List P3}{s:S}(h1:∀f∈F,¬(ev f (pt s.a)<=0/\ev f (pt s.b)<=0))
  (h2:∀f∈F,∀g∈F,ev f (pt s.a)<0->ev g (pt s.b)<0->ev f (pt s.a)*ev g (pt s.b)<ev g (pt s.a)*ev f (pt s.b)):uS F s:=by
 have:iE (F.map fun f=>(ev f (pt s.a),ev f (pt s.b))) 0 1 1 1=true:=by
  refine jI _ _ _ _ _ (by decide) ?_ ?_ ?_ ?_
  ·intro p hp;obtain⟨f,hf,rfl⟩:=List.mem_map.1 hp;exact h1 f hf
  ·intro p hp hp1;obtain⟨f,hf,rfl⟩:=List.mem_map.1 hp;have:=h1 f hf;simp only at hp1|-;omega
  ·intro p hp hp1;obtain⟨f,hf,rfl⟩:=List.mem_map.1 hp;have:=h1 f hf;simp only at hp1|-;omega
  ·intro p hp q hq hp1 hq2;obtain⟨f,hf,rfl⟩:=List.mem_map.1 hp;obtain⟨g,hg,rfl⟩:=List.mem_map.1 hq;have:=h2 f hf g hg hp1 hq2;simp only;grind
 rw[iY _ _ _ _ _ (by decide) (by decide) (by decide) (by decide)]at this
 obtain⟨x,y,hx,hy,h,_⟩:=this;exact⟨x,y,hx,hy,fun g hg=>h _ (List.mem_map.2 ⟨g,hg,rfl⟩)⟩
theorem aCP{x:Int}(h:x.tmod 3=0):x.tdiv 3*3=x:=by
 obtain⟨q,rfl⟩:=Int.dvd_of_tmod_eq_zero h;rw[Int.mul_tdiv_cancel_left q (by decide)];omega
theorem Xf(f:P3)(u v w:V):0<ev f ⟨(nQ u v w).x,(nQ u v w).y,(nQ u v w).den⟩↔0<ev f ⟨u.x+v.x+w.x,u.y+v.y+w.y,3⟩:=by
 unfold nQ;generalize u.x+v.x+w.x=x at*;generalize u.y+v.y+w.y=y at*;split
 ·rename_i h;have e1:=aCP h.1;have e2:=aCP h.2;have:ev f ⟨x,y,3⟩=3*ev f ⟨x.tdiv 3,y.tdiv 3,1⟩:=by unfold ev;grind
  rw[this];simp only;omega
 ·exact Iff.rfl
def iI(s:Shape)(r:aH):Bool:=(bX s).all (fun e=> !(cF e r))&&dL s (nQ (nth r 0) (nth r 1) (nth r 2))==2
end Go.Proofs.YtdaeofhdgabhjaaGreat.Geo
namespace Go.Proofs.YtdaeofhdgabhjaaGreat
open Go.RowKit
set_option maxRecDepth 100000
noncomputable section
open Geo (aH fD bV dJ nth fV)
def swR(a b:aH)(n:Nat):aH:=if n % 2=0 then a else b
theorem aAr(a b:aH)(n:Nat):swR b a n=swR a b (n+1):=by unfold swR;split<;>split<;>first|rfl|omega
def rU(a b:aH)(i k:Nat):Bool:=(List.range k).all fun j=>decide (Geo.cP (nth a i) (nth a ((i+1) % a.length)) (nth b j)<=0)
theorem Tj(a b:aH)(i k:Nat):rU a b i (k+1)=(rU a b i k&&decide (Geo.cP (nth a i) (nth a ((i+1) % a.length)) (nth b k)<=0)):=by
 unfold rU;rw[List.range_succ,List.all_append];simp
theorem aFf(a b:aH)(i:Nat):rU a b i b.length=b.all fun v=>decide (Geo.cP (nth a i) (Geo.nxt a i) v<=0):=by
 unfold rU;rw[Bool.eq_iff_iff,List.all_eq_true,List.all_eq_true];constructor
 ·intro h v hv;obtain⟨j,hj,rfl⟩:=Geo.fA.1 hv;exact h j (List.mem_range.2 hj)
 ·intro h j hj;exact h _ (Geo.dW (List.mem_range.1 hj))
theorem Cu(a b:aH):fV a b=(List.range a.length).any fun i=>rU a b i b.length:=by
 unfold fV;congr 1;funext i;rw[aFf]
theorem Ql{a b:aH}{i:Nat}(hi:i<a.length)(h:rU a b i b.length=true):fV a b=true:=by
 rw[Cu];exact List.any_eq_true.2 ⟨i,List.mem_range.2 hi,h⟩
theorem Vw{a b:aH}(h:bE (fun i=>rU a b i b.length=false) a.length):fV a b=false:=by
 rw[Cu];exact List.any_eq_false.2 fun i hi=>by rw[h i (List.mem_range.1 hi)];simp
theorem aBv{a b:aH}{n:Nat}(h:fV (swR a b n) (swR b a n)=true):true=fD a b:=by
 unfold swR at h;unfold fD;split at h
 ·rw[h];rfl
 ·rw[h];simp
theorem aBw{a b:aH}(h:bE (fun n=>fV (swR a b n) (swR b a n)=false) 2):false=fD a b:=by
 have h0:=h 0 (by omega)
 have h1:=h 1 (by omega)
 unfold swR at h0 h1;unfold fD;rw[show fV a b=false from h0,show fV b a=false from h1];rfl
def c77:Con:=con (ac (aL .V) (ac (aL .V) (a1 (aF 78)))) (fun(a,b,_)=>[a.length<=1000000,b.length<=1000000]) (fun(a,b,_)=> .int .i64 (bV a b))
theorem k77:c77.Ok Tryz.prog 77:=bF (bP Yb) (raw:=bR) (fun(a,b,_)=>[lp 2 13 a.length (fun k=>[k<=b.length,bE (fun j=>dJ (nth a j) (nth b j)=0) k]) [] (fun _=>[]) (fun _=>[])]
  ) (fun(_,_,_)=>⟨_,rfl⟩) fun(a,b,u) hp=>bQ (q:=(0=(0:Int)/\(0:Nat)<=a.length/\(0:Nat)<=b.length/\bE (fun j=>dJ (nth a j) (nth b j)=0) 0)/\
 (∀x:Nat,x<=a.length/\x<=b.length/\bE (fun j=>dJ (nth a j) (nth b j)=0) x->((x:Int)<a.length->ix (x:Int) a.length/\((b.length:Int)<=x->1=bV a b)/\
   (¬(b.length:Int)<=x->ix (x:Int) b.length/\(¬dJ (nth a x) (nth b x)=0->dJ (nth a x) (nth b x)=bV a b)/\
    (¬(¬dJ (nth a x) (nth b x)=0)->aK ((x:Int)+1)/\(x:Int)+1=((x+1:Nat):Int)/\x+1<=a.length/\x+1<=b.length/\bE (fun j=>dJ (nth a j) (nth b j)=0) (x+1)/\a.length-(x+1)<a.length-x)))/\
  (¬(x:Int)<a.length->((a.length:Int)<b.length-> -1=bV a b)/\
   (¬(a.length:Int)<b.length->0=bV a b)))) (by kernel_rfl) (by
  change a.length<=1000000/\b.length<=1000000 at hp;have g1:∀x:Nat,(x:Int)<a.length->x<=b.length->bE (fun j=>dJ (nth a j) (nth b j)=0) x->(b.length:Int)<=x->1=bV a b:=fun x h1 h2 h3 h4=>by
   rw[rW (k:=x) (by omega) h2 (.inr (by omega)) h3];unfold Geo.sgn;rw[if_pos (by omega)]
  have g2:∀x:Nat,¬(x:Int)<a.length->x<=a.length->x<=b.length->bE (fun j=>dJ (nth a j) (nth b j)=0) x->bV a b=Geo.sgn ((a.length:Int)-b.length):=fun x h1 h2 h3 h4=>rW h2 h3 (.inl (by omega)) h4
  have s1:(a.length:Int)<b.length-> -1=Geo.sgn ((a.length:Int)-b.length):=fun h=>by unfold Geo.sgn;rw[if_neg (by omega),if_pos (by omega)]
  have s2:(a.length:Int)=b.length->0=Geo.sgn ((a.length:Int)-b.length):=fun h=>by unfold Geo.sgn;rw[if_neg (by omega),if_neg (by omega)]
  repeat' first|with_reducible apply And.intro|with_reducible intro
  all_goals repeat with_reducible cases‹_/\_›
  all_goals first|assumption|rfl|exact trivial|exact nb ‹_› |exact nb' ‹_› |omega|exact dU (by omega)|(unfold ix;omega)|(unfold aK;omega)|exact bW _|exact aO ‹_› ‹_› |(refine aO ‹_› ?_;simp_all;done)|exact(Do ‹_› ‹_› (by omega) (by omega)).symm|exact g1 _ ‹_› ‹_› ‹_› ‹_› |(rw[g2 _ ‹_› ‹_› ‹_› ‹_›];first|exact s1 ‹_› |exact s2 (by omega))|exact aO ‹_› (Decidable.of_not_not ‹¬¬_›)|grind)
def t77:Tab:=cJ [(77,c77)] aEt
theorem aFK:t77.Ok Tryz.prog:=aR Yb ⟨k77,trivial⟩
def c26:Con:=con (ac (aL .V) (a1 (aL .V))) (fun(a,b)=>[a.length<=1000000,b.length<=1000000]) (fun(a,b)=> .int .i64 (bV a b))
theorem k26:c26.Ok Tryz.prog 26:=bF (bP aFK) (raw:=bR) (fun(_,_)=>[]
 ) (fun(_,_)=>⟨_,rfl⟩) fun(a,b) hp=>bQ (q:=a.length<=1000000/\b.length<=1000000/\bV a b=bV a b) (by kernel_rfl) (by
 change a.length<=1000000/\b.length<=1000000 at hp;exact⟨hp.1,hp.2,rfl⟩)
def t26:Tab:=cJ [(26,c26)] t77
theorem aJZ:t26.Ok Tryz.prog:=aR aFK ⟨k26,trivial⟩
def c93:Con:=con (ac (aL .V) (a1 (aL .V))) (fun(a,b)=>[a.length<=1000,b.length<=1000,(∀v∈a,bd 1000000000 v),(∀v∈b,bd 1000000000 v)]) (fun(a,b)=> .bool (fD a b))
theorem k93:c93.Ok Tryz.prog 93:=bF (bP aJZ) (raw:=bR) (fun(a,b)=>[lp 2 5 2 (fun n=>[bE (fun j=>fV (swR a b j) (swR b a j)=false) n]) [] (fun n=>[(0,.lst .V (swR a b n)),(1,.lst .V (swR b a n))]) (fun _=>[]) fun n=>[cnt 5 6 (swR a b n).length (bE fun i=>rU (swR a b n) (swR b a n) i (swR b a n).length=false) fun i=>[lp 9 8 (swR b a n).length (fun _=>[]) [] (fun k=>[(7,.bool (rU (swR a b n) (swR b a n) i k))]) (fun _=>[])]]]
  ) (fun(_,_)=>⟨_,rfl⟩) fun(a,b) hp=>bQ (q:=(0=(0:Int)/\a=swR a b 0/\b=swR b a 0/\(0:Nat)<=2/\bE (fun j=>fV (swR a b j) (swR b a j)=false) 0)/\
 (∀x:Nat,x<=2/\bE (fun j=>fV (swR a b j) (swR b a j)=false) x->((x:Int)<2->(0=(0:Int)/\(0:Nat)<=(swR a b x).length/\bE (fun i=>rU (swR a b x) (swR b a x) i (swR b a x).length=false) 0)/\
   (∀x_1:Nat,x_1<=(swR a b x).length/\bE (fun i=>rU (swR a b x) (swR b a x) i (swR b a x).length=false) x_1->((x_1:Int)<(swR a b x).length->(0=(0:Int)/\true=rU (swR a b x) (swR b a x) x_1 0/\(0:Nat)<=(swR b a x).length)/\
     (∀x_2:Nat,x_2<=(swR b a x).length->((x_2:Int)<(swR b a x).length->(rU (swR a b x) (swR b a x) x_1 x_2=true->ix (x_1:Int) (swR a b x).length/\aK ((x_1:Int)+1)/\((swR a b x).length:Int)≠0/\ix (((x_1+1) % (swR a b x).length:Nat):Int) (swR a b x).length/\ix (x_2:Int) (swR b a x).length/\bd 1000000000 (nth (swR a b x) x_1)/\bd 1000000000 (nth (swR a b x) ((x_1+1) % (swR a b x).length))/\bd 1000000000 (nth (swR b a x) x_2)/\aK ((x_2:Int)+1)/\(x_2:Int)+1=((x_2+1:Nat):Int)/\decide (Geo.cP (nth (swR a b x) x_1) (nth (swR a b x) ((x_1+1) % (swR a b x).length)) (nth (swR b a x) x_2)<=0)=rU (swR a b x) (swR b a x) x_1 (x_2+1)/\x_2+1<=(swR b a x).length/\(swR b a x).length-(x_2+1)<(swR b a x).length-x_2)/\
       (rU (swR a b x) (swR b a x) x_1 x_2=false->aK ((x_2:Int)+1)/\(x_2:Int)+1=((x_2+1:Nat):Int)/\false=rU (swR a b x) (swR b a x) x_1 (x_2+1)/\x_2+1<=(swR b a x).length/\(swR b a x).length-(x_2+1)<(swR b a x).length-x_2))/\
      (¬(x_2:Int)<(swR b a x).length->(rU (swR a b x) (swR b a x) x_1 x_2=true->true=fD a b)/\
       (rU (swR a b x) (swR b a x) x_1 x_2=false->aK ((x_1:Int)+1)/\(x_1:Int)+1=((x_1+1:Nat):Int)/\x_1+1<=(swR a b x).length/\bE (fun i=>rU (swR a b x) (swR b a x) i (swR b a x).length=false) (x_1+1)/\(swR a b x).length-(x_1+1)<(swR a b x).length-x_1))))/\
    (¬(x_1:Int)<(swR a b x).length->aK ((x:Int)+1)/\(x:Int)+1=((x+1:Nat):Int)/\swR b a x=swR a b (x+1)/\swR a b x=swR b a (x+1)/\x+1<=2/\bE (fun j=>fV (swR a b j) (swR b a j)=false) (x+1)/\2-(x+1)<2-x)))/\
  (¬(x:Int)<2->false=fD a b))) (by kernel_rfl) (by
  change a.length<=1000/\b.length<=1000/\((∀v∈a,bd 1000000000 v))/\((∀v∈b,bd 1000000000 v))at hp;obtain⟨la,lb,va,vb⟩:=hp;have l1:∀n,(swR a b n).length<=1000:=fun n=>by unfold swR;split<;>assumption
  have l2:∀n,(swR b a n).length<=1000:=fun n=>by unfold swR;split<;>assumption
  have v1:∀n i,i<(swR a b n).length->bd 1000000000 (nth (swR a b n) i):=fun n i h=>by
   have:=Geo.dW h;unfold swR at this|-;split at this<;>rename_i e
   ·rw[if_pos e];exact va _ this
   ·rw[if_neg e];exact vb _ this
  have v2:∀n i,i<(swR b a n).length->bd 1000000000 (nth (swR b a n) i):=fun n i h=>by
   have:=Geo.dW h;unfold swR at this|-;split at this<;>rename_i e
   ·rw[if_pos e];exact vb _ this
   ·rw[if_neg e];exact va _ this
  have z:∀A B:aH,∀i,true=rU A B i 0:=fun A B i=>rfl
  have us:∀(A B:aH) (i k:Nat),rU A B i k=true->decide (Geo.cP (nth A i) (nth A ((i+1) % A.length)) (nth B k)<=0)=rU A B i (k+1):=fun A B i k h=>by rw[Tj,h,Bool.true_and]
  have uf:∀(A B:aH) (i k:Nat),rU A B i k=false->false=rU A B i (k+1):=fun A B i k h=>by rw[Tj,h,Bool.false_and]
  have yes:∀n i k:Nat,(i:Int)<(swR a b n).length->¬(k:Int)<(swR b a n).length->k<=(swR b a n).length->rU (swR a b n) (swR b a n) i k=true->true=fD a b:=fun n i k h1 h2 h3 h4=>by
   obtain rfl:k=(swR b a n).length:=by omega
   exact aBv (n:=n) (Ql (by omega) h4)
  have no:∀n i k:Nat,¬(k:Int)<(swR b a n).length->k<=(swR b a n).length->rU (swR a b n) (swR b a n) i k=false->bE (fun i=>rU (swR a b n) (swR b a n) i (swR b a n).length=false) i->bE (fun i=>rU (swR a b n) (swR b a n) i (swR b a n).length=false) (i+1):=fun n i k h2 h3 h4 h5=>by
   obtain rfl:k=(swR b a n).length:=by omega
   exact aO h5 h4
  have nx:∀n i:Nat,¬(i:Int)<(swR a b n).length->i<=(swR a b n).length->bE (fun i=>rU (swR a b n) (swR b a n) i (swR b a n).length=false) i->bE (fun j=>fV (swR a b j) (swR b a j)=false) n->bE (fun j=>fV (swR a b j) (swR b a j)=false) (n+1):=fun n i h1 h2 h3 h4=>by
   obtain rfl:i=(swR a b n).length:=by omega
   exact aO h4 (Vw h3)
  have fin:∀n:Nat,¬(n:Int)<2->n<=2->bE (fun j=>fV (swR a b j) (swR b a j)=false) n->false=fD a b:=fun n h1 h2 h3=>by
   obtain rfl:n=2:=by omega
   exact aBw h3
  have e0:a=swR a b 0:=rfl;have e1:b=swR b a 0:=rfl
  repeat' first|with_reducible apply And.intro|with_reducible intro
  all_goals repeat with_reducible cases‹_/\bE _ _›
  all_goals first|assumption|exact z _ _ _|exact us _ _ _ _ ‹_› |exact uf _ _ _ _ ‹_› |exact yes _ _ _ ‹_› ‹_› ‹_› ‹_› |exact no _ _ _ ‹_› ‹_› ‹_› ‹_› |exact nx _ _ ‹_› ‹_› ‹_› ‹_› |exact fin _ ‹_› ‹_› ‹_› |exact aAr _ _ _|exact bW _|exact v1 _ _ (by omega)|exact v2 _ _ (by omega)|exact v1 _ _ (Nat.mod_lt _ (by omega))|exact dU (by omega)|omega|(have:=l1 ‹Nat›;unfold ix;omega)|(unfold aK;have h1:=l1;have h2:=l2;omega)|(unfold ix;omega)|(have h1:=l1;have h2:=l2;exact cW (by grind))|grind)
end
end Go.Proofs.YtdaeofhdgabhjaaGreat
namespace Go.Proofs.YtdaeofhdgabhjaaGreat.Geo
structure CR(r:aH):Prop where
 len:3<=r.length
 pos:∀i n,i<r.length->n<r.length->n≠i->n≠(i+1) % r.length->0<ev (lin (nth r i) (nxt r i)) (pt (nth r n))
 near:∀v∈r,bG v 2000=true
theorem jG{r:aH}(h:2<=r.length){f:P3}:f∈kM r↔∃i,i<r.length/\f=lin (nth r i) (nxt r i):=by
 unfold kM aD;rw[if_neg (by omega),List.map_map]
 simp only[List.mem_map,List.mem_range,Function.comp,dB];constructor
 ·rintro⟨i,hi,rfl⟩;exact⟨i,hi,rfl⟩
 ·rintro⟨i,hi,rfl⟩;exact⟨i,hi,rfl⟩
theorem CR.nonneg{r:aH}(h:CR r){i n:Nat}(hi:i<r.length)(hn:n<r.length):0<=ev (lin (nth r i) (nxt r i)) (pt (nth r n)):=by
 by_cases e1:n=i
 ·rw[e1,aBf];exact Int.le_refl _
 by_cases e2:n=(i+1) % r.length
 ·rw[e2];unfold nxt;rw[Mo];exact Int.le_refl _
 exact Int.le_of_lt (h.pos i n hi hn e1 e2)
theorem id3(u v w:V)(h q:P3):ev (lin u v) (pt w)*ev h q=ev (lin v w) q*ev h (pt u)+ev (lin w u) q*ev h (pt v)+ev (lin u v) q*ev h (pt w):=by
 unfold ev lin pt;grind
theorem aA1(u v w:V):ev (lin u v) (pt w)=ev (lin v w) (pt u):=by unfold ev lin pt;grind
theorem Gi(u v:V)(q:P3):ev (lin v u) q= -ev (lin u v) q:=by unfold ev lin;grind
theorem Gt{D:Nat->Int}:∀{n:Nat},0<=D 1->D (n+2)<0->∃i,1<=i/\i<=n+1/\0<=D i/\D (i+1)<0
 |0,h1,h2=>⟨1,by omega,by omega,h1,h2⟩
 |n+1,h1,h2=>by
  by_cases h:0<=D (n+2)
  ·exact⟨n+2,by omega,by omega,h,h2⟩
  ·obtain⟨i,a,b,c,d⟩:=Gt (n:=n) h1 (by omega)
   exact⟨i,a,by omega,c,d⟩
def aBH(r:aH):P3:=⟨(nth r 0).x+(nth r 1).x+(nth r 2).x,(nth r 0).y+(nth r 1).y+(nth r 2).y,3⟩
theorem CR.poly{r:aH}(h:CR r):Poly (kM r) r (aD r) (aBH r):=by
 have hl:=h.len;have c0:∀f:P3,ev f (aBH r)=ev f (pt (nth r 0))+ev f (pt (nth r 1))+ev f (pt (nth r 2)):=by intro f;unfold aBH ev pt;grind
 have md:∀i,i<r.length->(i+1) % r.length<r.length:=fun i _=>Nat.mod_lt _ (by omega)
 have mdc:∀i,i<r.length->((i+1) % r.length=i+1/\i+1<r.length)\/((i+1) % r.length=0/\i+1=r.length):=fun i hi=>by
  by_cases h4:i+1<r.length
  ·exact .inl ⟨Nat.mod_eq_of_lt h4,h4⟩
  ·have h5:i+1=r.length:=by omega
   exact .inr ⟨by rw[h5,Nat.mod_self],h5⟩
 refine⟨?_,(show(0:Int)<3 by decide),?_,?_,?_,?_⟩
 ·intro f hf v hv;obtain⟨i,hi,rfl⟩:=(jG (by omega)).1 hf
  obtain⟨n,hn,rfl⟩:=fA.1 hv;exact h.nonneg hi hn
 ·intro f hf;obtain⟨i,hi,rfl⟩:=(jG (by omega)).1 hf
  rw[c0];have e0:=h.nonneg hi (show 0<r.length by omega)
  have e1:=h.nonneg hi (show 1<r.length by omega)
  have e2:=h.nonneg hi (show 2<r.length by omega)
  have:(0≠i/\0≠(i+1) % r.length)\/(1≠i/\1≠(i+1) % r.length)\/(2≠i/\2≠(i+1) % r.length):=by
   rcases mdc i hi with⟨a,b⟩|⟨a,b⟩<;>rw[a] <;>omega
  rcases this with⟨a,b⟩|⟨a,b⟩|⟨a,b⟩
  ·have:=h.pos i 0 hi (by omega) a b;omega
  ·have:=h.pos i 1 hi (by omega) a b;omega
  ·have:=h.pos i 2 hi (by omega) a b;omega
 ·intro s hs;unfold aD at hs;rw[if_neg (by omega)]at hs
  obtain⟨i,hi,rfl⟩:=List.mem_map.1 hs;have hi:=List.mem_range.1 hi;exact⟨fA.2 ⟨i,hi,rfl⟩,fA.2 ⟨_,md i hi,rfl⟩⟩
 ·rintro q hq ⟨f,hf,hz⟩ hn;obtain⟨i,hi,rfl⟩:=(jG (by omega)).1 hf
  have hj:=md i hi;obtain⟨p,hp,ep⟩:∃p,p<r.length/\(p+1) % r.length=i:=by
   by_cases h0:i=0
   ·exact⟨r.length-1,by omega,by rw[h0,Nat.sub_add_cancel (by omega),Nat.mod_self]⟩
   ·exact⟨i-1,by omega,by rw[Nat.sub_add_cancel (by omega),Nat.mod_eq_of_lt hi]⟩
  have hk:=md _ hj;have n1:=hn (lin (nth r ((i+1) % r.length)) (nxt r ((i+1) % r.length))) ((jG (by omega)).2 ⟨_,hj,rfl⟩)
  have n2:=hn (lin (nth r p) (nxt r p)) ((jG (by omega)).2 ⟨_,hp,rfl⟩)
  have ea:nxt r p=nth r i:=by unfold nxt;rw[ep]
  have eb:nxt r i=nth r ((i+1) % r.length):=rfl;rw[ea]at n2;have K1:0<ev (lin (nth r i) (nxt r i)) (pt (nxt r ((i+1) % r.length))):=by
   refine h.pos i _ hi hk ?_ ?_
   ·rcases mdc i hi with⟨a,b⟩|⟨a,b⟩<;>rw[a]
    ·rcases mdc (i+1) b with⟨c,d⟩|⟨c,d⟩<;>rw[c] <;>omega
    ·rw[Nat.mod_eq_of_lt (by omega)];omega
   ·rcases mdc i hi with⟨a,b⟩|⟨a,b⟩<;>rw[a]
    ·rcases mdc (i+1) b with⟨c,d⟩|⟨c,d⟩<;>rw[c] <;>omega
    ·rw[Nat.mod_eq_of_lt (by omega)];omega
  have K2:0<ev (lin (nth r p) (nth r i)) (pt (nxt r i)):=by
   have:=h.pos p ((i+1) % r.length) hp hj ?_ ?_
   ·rw[ea]at this;exact this
   ·rcases mdc p hp with⟨a,b⟩|⟨a,b⟩
    ·rcases mdc i hi with⟨c,d⟩|⟨c,d⟩<;>rw[c] <;>omega
    ·have:i=0:=by omega
     subst this;rw[Nat.mod_eq_of_lt (by omega)];omega
   ·rw[ep];rcases mdc i hi with⟨c,d⟩|⟨c,d⟩<;>rw[c] <;>omega
  have id:=fun g=>id3 (nth r i) (nxt r i) (nxt r ((i+1) % r.length)) g q
  rw[hz]at id;refine⟨dB r i,?_,ev (lin (nxt r i) (nxt r ((i+1) % r.length))) q,ev (lin (nxt r ((i+1) % r.length)) (nth r i)) q,_,n1,?_,K1,fun g=>by rw[id g];show _+_+0*_=_;rw[Int.zero_mul,Int.add_zero];rfl⟩
  ·unfold aD;rw[if_neg (by omega)];exact List.mem_map_of_mem (List.mem_range.2 hi)
  ·have e:=id (lin (nth r p) (nth r i));rw[Mo,Int.mul_zero,Int.zero_add,Int.zero_mul,Int.add_zero]at e;rcases Int.lt_or_le (ev (lin (nxt r ((i+1) % r.length)) (nth r i)) q) 0 with h5|h5
   ·have:=Int.mul_neg_of_neg_of_pos h5 K2;have:=Int.mul_nonneg (Int.le_of_lt K1) n2;omega
   ·exact h5
 ·intro q hq g hg;have d1:=hq _ ((jG (by omega)).2 ⟨0,show 0<r.length by omega,rfl⟩)
  have d2:=hq _ ((jG (by omega)).2 ⟨r.length-1,show r.length-1<r.length by omega,rfl⟩)
  have e1:nxt r 0=nth r 1:=by unfold nxt;rw[Nat.mod_eq_of_lt (by omega)]
  have e2:nxt r (r.length-1)=nth r 0:=by unfold nxt;rw[Nat.sub_add_cancel (by omega),Nat.mod_self]
  rw[e1]at d1;rw[e2]at d2;have d3:=Gi (nth r 0) (nth r (r.length-1)) q;obtain⟨i,a,b,c,d⟩:=Gt (D:=fun i=>ev (lin (nth r 0) (nth r i)) q) (n:=r.length-3) (Int.le_of_lt d1) (by show ev (lin (nth r 0) (nth r (r.length-3+2))) q<0;rw[show r.length-3+2=r.length-1 by omega];omega)
  have hi:i+1<r.length:=by omega
  have K:=h.pos i 0 (by omega) (by omega) (by omega) (by rw[Nat.mod_eq_of_lt hi];omega)
  have f1:=hq _ ((jG (by omega)).2 ⟨i,show i<r.length by omega,rfl⟩)
  have en:nxt r i=nth r (i+1):=by unfold nxt;rw[Nat.mod_eq_of_lt hi]
  rw[en]at K f1;rw[<-aA1]at K;have id:=id3 (nth r 0) (nth r i) (nth r (i+1)) g q;have g1:=hg _ (fA.2 ⟨0,show 0<r.length by omega,rfl⟩)
  have g2:=hg _ (fA.2 ⟨i,show i<r.length by omega,rfl⟩)
  have g3:=hg _ (fA.2 ⟨i+1,hi,rfl⟩);have d4:=Gi (nth r 0) (nth r (i+1)) q;have c:0<=ev (lin (nth r 0) (nth r i)) q:=c;have d:ev (lin (nth r 0) (nth r (i+1))) q<0:=d;have p1:=Int.mul_nonneg (Int.le_of_lt f1) (show 0<= -ev g (pt (nth r 0)) by omega)
  have p2:=Int.mul_nonneg (show 0<=ev (lin (nth r (i+1)) (nth r 0)) q by omega) (show 0<= -ev g (pt (nth r i)) by omega)
  have p3:=Int.mul_nonneg c (show 0<= -ev g (pt (nth r (i+1))) by omega)
  rw[Int.mul_neg]at p1 p2 p3;rcases Int.lt_or_le 0 (ev g q)with h1|h1
  ·have:=Int.mul_pos K h1;omega
  ·exact h1
def cM(r:aH):Bool:=decide (3<=r.length)&&(r.all (fun v=>bG v 2000)&&(List.range r.length).all fun i=>(List.range r.length).all fun n=>decide (n=i)||decide (n=(i+1) % r.length)||decide (0<cP (nth r i) (nxt r i) (nth r n)))
theorem CR.of{r:aH}(h:cM r=true):CR r:=by
 unfold cM at h;simp only[Bool.and_eq_true,decide_eq_true_eq,List.all_eq_true,List.mem_range,Bool.or_eq_true]at h;obtain⟨h1,h2,h3⟩:=h;refine⟨h1,fun i n hi hn e1 e2=> ?_,h2⟩
 rcases h3 i hi n hn with(h4|h4)|h4
 ·exact absurd h4 e1
 ·exact absurd h4 e2
 ·rw[uQ];exact(Ik _).1 h4
def fJ(r:aH)(p:Pt):Bool:=(aD r).all fun e=>decide (0<(e.b.x-e.a.x)*(p.y-e.a.y*p.den)-(e.b.y-e.a.y)*(p.x-e.a.x*p.den))
theorem Ew(r:aH)(p:Pt):fJ r p=true↔∀g∈kM r,0<ev g ⟨p.x,p.y,p.den⟩:=by
 unfold fJ kM;simp only[List.all_eq_true,decide_eq_true_eq,List.mem_map];have e:∀s:S,(s.b.x-s.a.x)*(p.y-s.a.y*p.den)-(s.b.y-s.a.y)*(p.x-s.a.x*p.den)=ev (lin s.a s.b) ⟨p.x,p.y,p.den⟩:=by intro s;unfold ev lin;grind
 constructor
 ·rintro h g ⟨s,hs,rfl⟩;rw[<-e];exact h s hs
 ·intro h s hs;rw[e];exact h _ ⟨s,hs,rfl⟩
def cO(a b:aH):Bool:=(aD a).any (fun s=>cF s b)||((aD b).any (fun s=>cF s a)||fJ b (nQ (nth a 0) (nth a 1) (nth a 2)))
theorem Kf(a b:aH):fD a b=fD b a:=Bool.or_comm ..
theorem rQ{a b:aH}(ha:CR a)(hb:CR b):cO a b= !(fD a b):=by
 have A:=ha.poly;have B:=hb.poly;have la:=ha.len;have lb:=hb.len;have h1:=zX A B;have h2:=Eo A B;rw[Bool.eq_iff_iff];unfold cO fD;simp only[Bool.or_eq_true,List.any_eq_true,Oc,Ew,Bool.not_eq_true',Bool.or_eq_false_iff];simp only[Xf];show(_\/_\/∀g∈kM b,0<ev g (aBH a))↔_;rw[<-h1,h2];have r1:=Ct a b (by omega)
 have r2:=Ct b a (by omega)
 have nt:∀b:Bool,b=false↔¬b=true:=by decide
 rw[nt,nt,r1,r2];constructor
 ·rintro⟨h3,h4⟩;constructor
  ·rintro⟨f,hf,h5⟩;obtain⟨p,hp,h6⟩:=h4 f hf;have:=h5 p hp;omega
  ·rintro⟨f,hf,h5⟩;obtain⟨p,hp,h6⟩:=h3 f hf;have:=h5 p hp;omega
 ·rintro⟨h3,h4⟩;constructor
  ·intro g hg;apply Classical.byContradiction;intro hno;refine h4 ⟨g,hg,?_⟩;intro p hp;rcases Int.lt_or_le 0 (ev g (pt p))with h|h
   ·exact absurd ⟨p,hp,h⟩ hno
   ·exact h
  ·intro g hg;apply Classical.byContradiction;intro hno;refine h3 ⟨g,hg,?_⟩;intro p hp;rcases Int.lt_or_le 0 (ev g (pt p))with h|h
   ·exact absurd ⟨p,hp,h⟩ hno
   ·exact h
def bH(a b:List aH):Bool:=a.any fun r=>b.any fun o=>cM r&&(cM o&&cO r o)
def uO(a b:List aH):Bool:=a.any fun r=>b.any fun o=>cM r&&(cM o&& !(fD r o))
theorem yR{α:Type}{p q:α->Bool}:∀{l:List α},(∀x∈l,p x=q x)->l.any p=l.any q
 |[],_=>rfl
 |x::l,h=>by rw[List.any_cons,List.any_cons,h x List.mem_cons_self,yR fun y hy=>h y (List.mem_cons_of_mem _ hy)]
theorem Ma(a b:List aH):bH a b=uO a b:=by
 unfold bH uO;refine yR fun r _=>yR fun o _=> ?_
 cases h1:cM r
 ·rfl
 cases h2:cM o
 ·rfl
 rw[rQ (CR.of h1) (CR.of h2)]
theorem Ns(a b:List aH):uO a b=uO b a:=by
 have:∀a b:List aH,uO a b=true->uO b a=true:=by
  intro a b h;unfold uO at h|-;simp only[List.any_eq_true,Bool.and_eq_true]at h|-;obtain⟨r,hr,o,ho,h1,h2,h3⟩:=h;exact⟨o,ho,r,hr,h2,h1,by rw[Kf];exact h3⟩
 rw[Bool.eq_iff_iff];exact⟨this a b,this b a⟩
end Go.Proofs.YtdaeofhdgabhjaaGreat.Geo
namespace Go.Proofs.YtdaeofhdgabhjaaGreat
open Go.RowKit
abbrev Q4:=Int×Int×Int×Int
def nJ(q:Q4)(p:Int×Int):Q4:=
 if p.1<0 then(if q.1*(p.2-p.1)< -p.1*q.2.1 then(-p.1,p.2-p.1,q.2.2)else q)
 else if p.2<0 then(if p.1*q.2.2.2<q.2.2.1*(p.1-p.2)then(q.1,q.2.1,p.1,p.1-p.2)else q)else q
def zT(p:Int×Int):Bool:=decide (p.1<=0)&&decide (p.2<=0)
theorem gZ:∀(l:List (Int×Int)) (q:Q4),Geo.iE l q.1 q.2.1 q.2.2.1 q.2.2.2=(!(l.any zT)&&decide ((l.foldl nJ q).1*(l.foldl nJ q).2.2.2<(l.foldl nJ q).2.2.1*(l.foldl nJ q).2.1))
 |[],q=>by simp[Geo.iE] <;>congr
 |(a,b)::l,(ln,ld,hn,hd)=>by
  unfold Geo.iE;rw[List.any_cons,List.foldl_cons];by_cases h1:a<=0/\b<=0
  ·have:zT (a,b)=true:=by unfold zT;simp[h1.1,h1.2]
   rw[if_pos h1,this];simp
  ·have h2:zT (a,b)=false:=by unfold zT;rw[Bool.and_eq_false_iff,decide_eq_false_iff_not,decide_eq_false_iff_not];omega
   rw[if_neg h1,h2,Bool.false_or];unfold nJ;dsimp only;by_cases h3:a<0
   ·rw[if_pos h3,if_pos h3];by_cases h4:ln*(b-a)< -a*ld
    ·rw[if_pos h4,if_pos h4];exact gZ l (-a,b-a,hn,hd)
    ·rw[if_neg h4,if_neg h4];exact gZ l (ln,ld,hn,hd)
   ·rw[if_neg h3,if_neg h3];by_cases h5:b<0
    ·rw[if_pos h5,if_pos h5];by_cases h4:a*hd<hn*(a-b)
     ·rw[if_pos h4,if_pos h4];exact gZ l (ln,ld,a,a-b)
     ·rw[if_neg h4,if_neg h4];exact gZ l (ln,ld,hn,hd)
    ·rw[if_neg h5,if_neg h5];exact gZ l (ln,ld,hn,hd)
def qW(s e:Geo.S):Int×Int:=(Geo.cross (Geo.sub e.b e.a) (Geo.sub s.a e.a),Geo.cross (Geo.sub e.b e.a) (Geo.sub s.b e.a))
def pJ(s:Geo.S)(r:Geo.aH):List (Int×Int):=(Geo.aD r).map (qW s)
def stE(s:Geo.S)(r:Geo.aH)(k:Nat):Q4:=((pJ s r).take k).foldl nJ (0,1,1,1)
def lnE(s:Geo.S)(r:Geo.aH)(k:Nat):Int:=(stE s r k).1
def ldE(s:Geo.S)(r:Geo.aH)(k:Nat):Int:=(stE s r k).2.1
def hnE(s:Geo.S)(r:Geo.aH)(k:Nat):Int:=(stE s r k).2.2.1
def hdE(s:Geo.S)(r:Geo.aH)(k:Nat):Int:=(stE s r k).2.2.2
def ibd(m x:Int):Prop:= -m<=x/\x<=m
def tW(s:Geo.S)(r:Geo.aH)(k:Nat):Prop:=((pJ s r).take k).any zT=false/\ibd 1600000000 (lnE s r k)/\ibd 1600000000 (ldE s r k)/\ibd 1600000000 (hnE s r k)/\ibd 1600000000 (hdE s r k)
theorem Wn(s:Geo.S)(r:Geo.aH):tW s r 0:=by
 unfold tW lnE ldE hnE hdE stE ibd;simp
theorem Gc{s:Geo.S}{r:Geo.aH}{k:Nat}(hk:k<(Geo.aD r).length):(pJ s r)[k]? =some (qW s (Geo.aD r)[k]):=by
 unfold pJ;rw[List.getElem?_map,List.getElem?_eq_getElem hk];rfl
theorem Le{s:Geo.S}{r:Geo.aH}{k:Nat}(hk:k<(Geo.aD r).length):stE s r (k+1)=nJ (stE s r k) (qW s (Geo.aD r)[k]):=by
 unfold stE;rw[List.take_add_one,Gc hk,List.foldl_append];rfl
theorem Wo{s:Geo.S}{r:Geo.aH}{k:Nat}(hk:k<(Geo.aD r).length)(h:tW s r k)(ho:zT (qW s (Geo.aD r)[k])=false)
  (ha:ibd 800000000 (qW s (Geo.aD r)[k]).1) (hb:ibd 800000000 (qW s (Geo.aD r)[k]).2):tW s r (k+1):=by
 obtain⟨h1,h2,h3,h4,h5⟩:=h;unfold tW;refine⟨?_,?_⟩
 ·rw[List.take_add_one,Gc hk,List.any_append,h1];simp[ho]
 ·unfold lnE ldE hnE hdE at*;rw[Le hk];generalize qW s (Geo.aD r)[k] =p at ha hb|-;generalize stE s r k=q at h2 h3 h4 h5|-;obtain⟨a,b⟩:=p;obtain⟨ln,ld,hn,hd⟩:=q;unfold ibd at*;dsimp only at*;unfold nJ;dsimp only;split
  ·split
   ·dsimp only;omega
   ·dsimp only;omega
  ·split
   ·split
    ·dsimp only;omega
    ·dsimp only;omega
   ·dsimp only;omega
theorem Rj{s:Geo.S}{r:Geo.aH}{k:Nat}(hk:k<(Geo.aD r).length)(ho:zT (qW s (Geo.aD r)[k])=true):Geo.cF s r=false:=by
 have h:=gZ (pJ s r) (0,1,1,1);have hm:(pJ s r).any zT=true:=List.any_eq_true.2 ⟨_,List.mem_map.2 ⟨_,List.getElem_mem hk,rfl⟩,ho⟩;rw[hm]at h;exact h
theorem Rk{s:Geo.S}{r:Geo.aH}(h:tW s r (Geo.aD r).length):Geo.cF s r=decide (lnE s r (Geo.aD r).length*hdE s r (Geo.aD r).length<hnE s r (Geo.aD r).length*ldE s r (Geo.aD r).length):=by
 have hl:(pJ s r).length=(Geo.aD r).length:=by unfold pJ;rw[List.length_map]
 have h1:=h.1;have e:=gZ (pJ s r) (0,1,1,1);unfold lnE ldE hnE hdE stE;rw[<-hl,List.take_length]at h1|-;rw[h1]at e;exact e
structure TriOk(r:Geo.aH):Prop where
 three:3<=r.length
 len:r.length<=1000
 near:∀v∈r,Geo.bG v 10000=true
 aD:∀e∈Geo.aD r,Geo.bG e.a 10000=true/\Geo.bG e.b 10000=true
theorem aAn{r:Geo.aH}(h:Geo.VR r){e:Geo.S}(he:e∈Geo.aD r):Geo.bG e.a 10000=true/\Geo.bG e.b 10000=true:=by
 have h3:=h.three;unfold Geo.aD at he;rw[if_neg (by omega)]at he
 obtain⟨i,hi,rfl⟩:=List.mem_map.1 he;have hi:=List.mem_range.1 hi;exact⟨Geo.kZ (Geo.rJ h.near i hi) (by omega),Geo.kZ (Geo.rJ h.near _ (Nat.mod_lt _ (by omega))) (by omega)⟩
end Go.Proofs.YtdaeofhdgabhjaaGreat
namespace Go.Proofs.YtdaeofhdgabhjaaGreat
open Go.RowKit
set_option maxRecDepth 100000
noncomputable section
open Geo (bX nth)
def tC:Tab:=cJ [(93,c93)] t48
theorem tCo:tC.Ok Tryz.prog:=aR aJR ⟨k93,trivial⟩
structure ROk(r:Geo.aH):Prop where
 three:3<=r.length
 len:r.length<=1000
 near:∀v∈r,bd 10000 v
def eG(s:Geo.S)(r:Geo.aH)(k:Nat):Int×Int:=qW s (Geo.dB r k)
def gA(s:Geo.S)(r:Geo.aH)(k:Nat):Int:=(eG s r k).1
def gB(s:Geo.S)(r:Geo.aH)(k:Nat):Int:=(eG s r k).2
def gO(s:Geo.S)(r:Geo.aH)(k:Nat):Bool:=zT (eG s r k)
theorem Gw{r:Geo.aH}(h:3<=r.length):(Geo.aD r).length=r.length:=by
 unfold Geo.aD;rw[if_neg (by omega),List.length_map,List.length_range]
theorem wJ{r:Geo.aH}(h:3<=r.length){k:Nat}(hk:k<(Geo.aD r).length):(Geo.aD r)[k] =Geo.dB r k:=by
 have:∀(l:List Geo.S) (hl:l=(List.range r.length).map (Geo.dB r)) (hk:k<l.length),l[k] =Geo.dB r k:=fun l hl hk=>by
  subst hl;simp
 exact this _ (by unfold Geo.aD;rw[if_neg (by omega)]) hk
def aIb:Con:=con (ac aS (a1 (aL .V))) (fun(s,r)=>[bd 10000 s.a,bd 10000 s.b,ROk r]) (fun(s,r)=> .bool (Geo.cF s r))
set_option maxHeartbeats 2000000 in
theorem aKH:aIb.Ok Tryz.prog 167:=bF (bP tCo) (raw:=bR) (fun(s,r)=>[(3,.mk Nat (fun F _=>vO F 16) [] (fun k=>[k<=r.length,tW s r k]) (fun k=>[(16,.int .i64 (k:Int)),(5,.int .i64 (lnE s r k)),(6,.int .i64 (ldE s r k)),(7,.int .i64 (hnE s r k)),(8,.int .i64 (hdE s r k))]) (fun _=>[]) (fun k=>r.length-k) fun k=>
  [jU 7 [(12,.int .i64 (gA s r k)),(13,.int .i64 (gB s r k))],jb 8 43 (gO s r k),jPU 15 [gO s r k=false] [(5,.int .i64 (lnE s r (k+1))),(6,.int .i64 (ldE s r (k+1))),(7,.int .i64 (hnE s r (k+1))),(8,.int .i64 (hdE s r (k+1)))]])]
  ) (fun(_,_)=>⟨_,rfl⟩) fun(s,r) hp=>bQ (q:=(0=(0:Int)/\0=lnE s r 0/\1=ldE s r 0/\1=hnE s r 0/\1=hdE s r 0/\(0:Nat)<=r.length/\tW s r 0)/\
 (∀x:Nat,x<=r.length/\tW s r x->((x:Int)<r.length->(ix (x:Int) r.length/\aK ((x:Int)+1)/\(r.length:Int)≠0/\ix (((x+1) % r.length:Nat):Int) r.length/\bd 1000000000 (nth r ((x+1) % r.length))/\bd 1000000000 (nth r x)/\(bd 1000000000 s.a/\bd 1000000000 (nth r x)/\cOK (Geo.sub (nth r ((x+1) % r.length)) (nth r x)) (Geo.sub s.a (nth r x))/\bd 1000000000 s.b/\bd 1000000000 (nth r x)/\cOK (Geo.sub (nth r ((x+1) % r.length)) (nth r x)) (Geo.sub s.b (nth r x))/\Geo.cross (Geo.sub (nth r ((x+1) % r.length)) (nth r x)) (Geo.sub s.a (nth r x))=gA s r x/\Geo.cross (Geo.sub (nth r ((x+1) % r.length)) (nth r x)) (Geo.sub s.b (nth r x))=gB s r x)/\
    (∀y:Unit,((gA s r x<=0->decide (gB s r x<=0)=gO s r x)/\
      (¬gA s r x<=0->false=gO s r x))/\
     (∀y_1:Unit,(gO s r x=true->false=Geo.cF s r)/\
      (gO s r x=false->(gA s r x<0->aK (0-gA s r x)/\aK ((0-gA s r x)*ldE s r x)/\aK (gB s r x-gA s r x)/\aK (lnE s r x*(gB s r x-gA s r x))/\(lnE s r x*(gB s r x-gA s r x)<(0-gA s r x)*ldE s r x->aK (0-gA s r x)/\aK (gB s r x-gA s r x)/\0-gA s r x=lnE s r (x+1)/\gB s r x-gA s r x=ldE s r (x+1)/\hnE s r x=hnE s r (x+1)/\hdE s r x=hdE s r (x+1)/\gO s r x=false)/\
        (¬lnE s r x*(gB s r x-gA s r x)<(0-gA s r x)*ldE s r x->lnE s r x=lnE s r (x+1)/\ldE s r x=ldE s r (x+1)/\hnE s r x=hnE s r (x+1)/\hdE s r x=hdE s r (x+1)/\gO s r x=false))/\
       (¬gA s r x<0->(gB s r x<0->aK (gA s r x*hdE s r x)/\aK (gA s r x-gB s r x)/\aK (hnE s r x*(gA s r x-gB s r x))/\(gA s r x*hdE s r x<hnE s r x*(gA s r x-gB s r x)->aK (gA s r x-gB s r x)/\lnE s r x=lnE s r (x+1)/\ldE s r x=ldE s r (x+1)/\gA s r x=hnE s r (x+1)/\gA s r x-gB s r x=hdE s r (x+1)/\gO s r x=false)/\
         (¬gA s r x*hdE s r x<hnE s r x*(gA s r x-gB s r x)->lnE s r x=lnE s r (x+1)/\ldE s r x=ldE s r (x+1)/\hnE s r x=hnE s r (x+1)/\hdE s r x=hdE s r (x+1)/\gO s r x=false))/\
        (¬gB s r x<0->lnE s r x=lnE s r (x+1)/\ldE s r x=ldE s r (x+1)/\hnE s r x=hnE s r (x+1)/\hdE s r x=hdE s r (x+1)/\gO s r x=false))))))/\
   (∀y:Unit,gO s r x=false->aK ((x:Int)+1)/\(x:Int)+1=((x+1:Nat):Int)/\lnE s r (x+1)=lnE s r (x+1)/\ldE s r (x+1)=ldE s r (x+1)/\hnE s r (x+1)=hnE s r (x+1)/\hdE s r (x+1)=hdE s r (x+1)/\x+1<=r.length/\tW s r (x+1)/\r.length-(x+1)<r.length-x))/\
  (¬(x:Int)<r.length->aK (lnE s r x*hdE s r x)/\aK (hnE s r x*ldE s r x)/\decide (lnE s r x*hdE s r x<hnE s r x*ldE s r x)=Geo.cF s r))) (by kernel_rfl) (by
  change bd 10000 s.a/\bd 10000 s.b/\ROk r at hp;obtain⟨ha,hb,h3⟩:=hp;have l3:=h3.three;have hl:=h3.len;have hN:∀i:Nat,i<r.length->bd 10000 (nth r i):=fun i h=>h3.near _ (Geo.dW h)
  have el:(Geo.aD r).length=r.length:=Gw l3;have md:∀i:Nat,(i:Int)<r.length->(i+1) % r.length<r.length:=fun i h=>Nat.mod_lt _ (by omega)
  have ha9:bd 1000000000 s.a:=ha.mono;have hb9:bd 1000000000 s.b:=hb.mono;have e9a:∀i:Nat,(i:Int)<r.length->bd 1000000000 (nth r i):=fun i h=>(hN i (by omega)).mono
  have e9b:∀i:Nat,(i:Int)<r.length->bd 1000000000 (nth r ((i+1) % r.length)):=fun i h=>(hN _ (md i h)).mono
  have x1:∀i:Nat,(i:Int)<r.length->ix (((i+1) % r.length:Nat):Int) r.length:=fun i h=>eC (md i h)
  have cA:∀(v:Geo.V) (i:Nat),bd 10000 v->(i:Int)<r.length->cOK (Geo.sub (nth r ((i+1) % r.length)) (nth r i)) (Geo.sub v (nth r i)):=fun v i hv h=>by
   have:=gT (fX (hN _ (md i h)) (hN i (by omega))) (fX hv (hN i (by omega)))
   unfold cOK;omega
  have bA:∀i:Nat,(i:Int)<r.length->ibd 800000000 (gA s r i)/\ibd 800000000 (gB s r i):=fun i h=>by
   have h0:bd 10000 (Geo.nxt r i):=hN _ (md i h);have h1:=gT (fX h0 (hN i (by omega))) (fX ha (hN i (by omega)))
   have h2:=gT (fX h0 (hN i (by omega))) (fX hb (hN i (by omega)))
   unfold gA gB eG qW ibd Geo.dB;dsimp only;unfold Geo.cross;omega
  have sN:∀i:Nat,(i:Int)<r.length->stE s r (i+1)=nJ (stE s r i) (eG s r i):=fun i h=>by
   rw[Le (show i<(Geo.aD r).length by omega),wJ l3];rfl
  have iN:∀i:Nat,(i:Int)<r.length->tW s r i->gO s r i=false->tW s r (i+1):=fun i h h1 h2=>by
   have hb:=bA i h;have hk:i<(Geo.aD r).length:=by omega
   have e:eG s r i=qW s (Geo.aD r)[i] :=by rw[wJ l3];rfl
   refine Wo hk h1 ?_ ?_ ?_
   ·rw[<-e];exact h2
   ·rw[<-e];exact hb.1
   ·rw[<-e];exact hb.2
  have oY:∀i:Nat,(i:Int)<r.length->gO s r i=true->false=Geo.cF s r:=fun i h h2=>by
   symm;refine Rj (k:=i) (show i<(Geo.aD r).length by omega) ?_
   rw[wJ l3];exact h2
  have oE:∀i:Nat,¬(i:Int)<r.length->i<=r.length->tW s r i->decide (lnE s r i*hdE s r i<hnE s r i*ldE s r i)=Geo.cF s r:=fun i h h2 h3=>by
   obtain rfl:i=r.length:=by omega
   rw[<-el]at h3|-;rw[Rk h3]
  have o1:∀i:Nat,gA s r i<=0->decide (gB s r i<=0)=gO s r i:=fun i h=>by
   unfold gO zT;rw[decide_eq_true (show(eG s r i).1<=0 from h)];rfl
  have o2:∀i:Nat,¬gA s r i<=0->false=gO s r i:=fun i h=>by
   unfold gO zT;rw[decide_eq_false (show¬(eG s r i).1<=0 from h)];rfl
  have nN:∀x:Int,0-x= -x:=fun x=>by omega
  have s1:∀i:Nat,(i:Int)<r.length->gA s r i<0->lnE s r i*(gB s r i-gA s r i)<(0-gA s r i)*ldE s r i->stE s r (i+1)=(0-gA s r i,gB s r i-gA s r i,hnE s r i,hdE s r i):=fun i h h1 h2=>by
   rw[sN i h];unfold nJ;rw[if_pos (show(eG s r i).1<0 from h1)];rw[nN]at h2;exact(if_pos (show(stE s r i).1*((eG s r i).2-(eG s r i).1)< -(eG s r i).1*(stE s r i).2.1 from h2)).trans (by rw[nN];rfl)
  have s2:∀i:Nat,(i:Int)<r.length->gA s r i<0->¬lnE s r i*(gB s r i-gA s r i)<(0-gA s r i)*ldE s r i->stE s r (i+1)=stE s r i:=fun i h h1 h2=>by
   rw[sN i h];unfold nJ;rw[if_pos (show(eG s r i).1<0 from h1)];rw[nN]at h2;exact if_neg h2
  have s3:∀i:Nat,(i:Int)<r.length->¬gA s r i<0->gB s r i<0->gA s r i*hdE s r i<hnE s r i*(gA s r i-gB s r i)->stE s r (i+1)=(lnE s r i,ldE s r i,gA s r i,gA s r i-gB s r i):=fun i h h1 h2 h3=>by
   rw[sN i h];unfold nJ;rw[if_neg (show¬(eG s r i).1<0 from h1),if_pos (show(eG s r i).2<0 from h2)];exact if_pos h3
  have s4:∀i:Nat,(i:Int)<r.length->¬gA s r i<0->gB s r i<0->¬gA s r i*hdE s r i<hnE s r i*(gA s r i-gB s r i)->stE s r (i+1)=stE s r i:=fun i h h1 h2 h3=>by
   rw[sN i h];unfold nJ;rw[if_neg (show¬(eG s r i).1<0 from h1),if_pos (show(eG s r i).2<0 from h2)];exact if_neg h3
  have s5:∀i:Nat,(i:Int)<r.length->¬gA s r i<0->¬gB s r i<0->stE s r (i+1)=stE s r i:=fun i h h1 h2=>by
   rw[sN i h];unfold nJ;rw[if_neg (show¬(eG s r i).1<0 from h1)];exact if_neg (show¬(eG s r i).2<0 from h2)
  have w:∀i:Nat,(i:Int)<r.length->tW s r i->aK (0-gA s r i)/\aK ((0-gA s r i)*ldE s r i)/\aK (gB s r i-gA s r i)/\aK (lnE s r i*(gB s r i-gA s r i))/\aK (gA s r i*hdE s r i)/\aK (gA s r i-gB s r i)/\aK (hnE s r i*(gA s r i-gB s r i)):=fun i h hI=>by
   obtain⟨h1,h2⟩:=bA i h;obtain⟨_,g1,g2,g3,g4⟩:=hI;unfold ibd at h1 h2 g1 g2 g3 g4;have m1:=fY (x:=0-gA s r i) (y:=ldE s r i) (A:=1600000000) (B:=1600000000) (by omega) (by omega)
   have m2:=fY (x:=lnE s r i) (y:=gB s r i-gA s r i) (A:=1600000000) (B:=1600000000) (by omega) (by omega)
   have m3:=fY (x:=gA s r i) (y:=hdE s r i) (A:=1600000000) (B:=1600000000) (by omega) (by omega)
   have m4:=fY (x:=hnE s r i) (y:=gA s r i-gB s r i) (A:=1600000000) (B:=1600000000) (by omega) (by omega)
   exact⟨cW (by omega),cW (by omega),cW (by omega),cW (by omega),cW (by omega),cW (by omega),cW (by omega)⟩
  have wE:∀i:Nat,tW s r i->aK (lnE s r i*hdE s r i)/\aK (hnE s r i*ldE s r i):=fun i hI=>by
   obtain⟨_,g1,g2,g3,g4⟩:=hI;unfold ibd at g1 g2 g3 g4;have m1:=fY (x:=lnE s r i) (y:=hdE s r i) (A:=1600000000) (B:=1600000000) (by omega) (by omega)
   have m2:=fY (x:=hnE s r i) (y:=ldE s r i) (A:=1600000000) (B:=1600000000) (by omega) (by omega)
   exact⟨cW (by omega),cW (by omega)⟩
  have z:=Wn s r;have q1:∀i:Nat,(i:Int)<r.length->gA s r i<0->lnE s r i*(gB s r i-gA s r i)<(0-gA s r i)*ldE s r i->0-gA s r i=lnE s r (i+1)/\gB s r i-gA s r i=ldE s r (i+1)/\hnE s r i=hnE s r (i+1)/\hdE s r i=hdE s r (i+1):=fun i h0 h1 h2=>by
   have e:=s1 i h0 h1 h2;exact⟨(congrArg (fun q:Q4=>q.1) e).symm,(congrArg (fun q:Q4=>q.2.1) e).symm,(congrArg (fun q:Q4=>q.2.2.1) e).symm,(congrArg (fun q:Q4=>q.2.2.2) e).symm⟩
  have q2:∀i:Nat,(i:Int)<r.length->gA s r i<0->¬lnE s r i*(gB s r i-gA s r i)<(0-gA s r i)*ldE s r i->lnE s r i=lnE s r (i+1)/\ldE s r i=ldE s r (i+1)/\hnE s r i=hnE s r (i+1)/\hdE s r i=hdE s r (i+1):=fun i h0 h1 h2=>by
   have e:=s2 i h0 h1 h2;exact⟨(congrArg (fun q:Q4=>q.1) e).symm,(congrArg (fun q:Q4=>q.2.1) e).symm,(congrArg (fun q:Q4=>q.2.2.1) e).symm,(congrArg (fun q:Q4=>q.2.2.2) e).symm⟩
  have q3:∀i:Nat,(i:Int)<r.length->¬gA s r i<0->gB s r i<0->gA s r i*hdE s r i<hnE s r i*(gA s r i-gB s r i)->lnE s r i=lnE s r (i+1)/\ldE s r i=ldE s r (i+1)/\gA s r i=hnE s r (i+1)/\gA s r i-gB s r i=hdE s r (i+1):=fun i h0 h1 h2 h3=>by
   have e:=s3 i h0 h1 h2 h3;exact⟨(congrArg (fun q:Q4=>q.1) e).symm,(congrArg (fun q:Q4=>q.2.1) e).symm,(congrArg (fun q:Q4=>q.2.2.1) e).symm,(congrArg (fun q:Q4=>q.2.2.2) e).symm⟩
  have q4:∀i:Nat,(i:Int)<r.length->¬gA s r i<0->gB s r i<0->¬gA s r i*hdE s r i<hnE s r i*(gA s r i-gB s r i)->lnE s r i=lnE s r (i+1)/\ldE s r i=ldE s r (i+1)/\hnE s r i=hnE s r (i+1)/\hdE s r i=hdE s r (i+1):=fun i h0 h1 h2 h3=>by
   have e:=s4 i h0 h1 h2 h3;exact⟨(congrArg (fun q:Q4=>q.1) e).symm,(congrArg (fun q:Q4=>q.2.1) e).symm,(congrArg (fun q:Q4=>q.2.2.1) e).symm,(congrArg (fun q:Q4=>q.2.2.2) e).symm⟩
  have q5:∀i:Nat,(i:Int)<r.length->¬gA s r i<0->¬gB s r i<0->lnE s r i=lnE s r (i+1)/\ldE s r i=ldE s r (i+1)/\hnE s r i=hnE s r (i+1)/\hdE s r i=hdE s r (i+1):=fun i h0 h1 h2=>by
   have e:=s5 i h0 h1 h2;exact⟨(congrArg (fun q:Q4=>q.1) e).symm,(congrArg (fun q:Q4=>q.2.1) e).symm,(congrArg (fun q:Q4=>q.2.2.1) e).symm,(congrArg (fun q:Q4=>q.2.2.2) e).symm⟩
  clear sN bA nN s1 s2 s3 s4 s5 hN md
  repeat' first|with_reducible apply And.intro|with_reducible intro
  all_goals repeat with_reducible cases‹_/\tW _ _ _›
  all_goals first|assumption|with_reducible rfl|(with_reducible exact e9a _ ‹_›)|(with_reducible exact e9b _ ‹_›)|(with_reducible exact x1 _ ‹_›)|(with_reducible exact cA _ _ ‹_› ‹_›)|(with_reducible exact oY _ ‹_› ‹_›)|(with_reducible exact oE _ ‹_› ‹_› ‹_›)|(with_reducible exact o1 _ ‹_›)|(with_reducible exact o2 _ ‹_›)|(with_reducible exact(w _ ‹_› ‹_›).1)|(with_reducible exact(w _ ‹_› ‹_›).2.1)|(with_reducible exact(w _ ‹_› ‹_›).2.2.1)|(with_reducible exact(w _ ‹_› ‹_›).2.2.2.1)|(with_reducible exact(w _ ‹_› ‹_›).2.2.2.2.1)|(with_reducible exact(w _ ‹_› ‹_›).2.2.2.2.2.1)|(with_reducible exact(w _ ‹_› ‹_›).2.2.2.2.2.2)|(with_reducible exact(wE _ ‹_›).1)|(with_reducible exact(wE _ ‹_›).2)|(with_reducible exact iN _ ‹_› ‹_› ‹_›)|(with_reducible exact(q1 _ ‹_› ‹_› ‹_›).1)|(with_reducible exact(q1 _ ‹_› ‹_› ‹_›).2.1)|(with_reducible exact(q1 _ ‹_› ‹_› ‹_›).2.2.1)|(with_reducible exact(q1 _ ‹_› ‹_› ‹_›).2.2.2)|(with_reducible exact(q2 _ ‹_› ‹_› ‹_›).1)|(with_reducible exact(q2 _ ‹_› ‹_› ‹_›).2.1)|(with_reducible exact(q2 _ ‹_› ‹_› ‹_›).2.2.1)|(with_reducible exact(q2 _ ‹_› ‹_› ‹_›).2.2.2)|(with_reducible exact(q3 _ ‹_› ‹_› ‹_› ‹_›).1)|(with_reducible exact(q3 _ ‹_› ‹_› ‹_› ‹_›).2.1)|(with_reducible exact(q3 _ ‹_› ‹_› ‹_› ‹_›).2.2.1)|(with_reducible exact(q3 _ ‹_› ‹_› ‹_› ‹_›).2.2.2)|(with_reducible exact(q4 _ ‹_› ‹_› ‹_› ‹_›).1)|(with_reducible exact(q4 _ ‹_› ‹_› ‹_› ‹_›).2.1)|(with_reducible exact(q4 _ ‹_› ‹_› ‹_› ‹_›).2.2.1)|(with_reducible exact(q4 _ ‹_› ‹_› ‹_› ‹_›).2.2.2)|(with_reducible exact(q5 _ ‹_› ‹_› ‹_›).1)|(with_reducible exact(q5 _ ‹_› ‹_› ‹_›).2.1)|(with_reducible exact(q5 _ ‹_› ‹_› ‹_›).2.2.1)|(with_reducible exact(q5 _ ‹_› ‹_› ‹_›).2.2.2)|omega|(unfold ix;omega)|(unfold aK;omega)|rfl)
def aGB:Tab:=cJ [(167,aIb)] tC
theorem aDl:aGB.Ok Tryz.prog:=aR tCo ⟨aKH,trivial⟩
def jL(r:Geo.aH):Geo.Pt:=Geo.nQ (nth r 0) (nth r 1) (nth r 2)
theorem aCD{r:Geo.aH}(h:ROk r): -1000000<=(jL r).x/\(jL r).x<=1000000/\ -1000000<=(jL r).y/\(jL r).y<=1000000/\0<=(jL r).den/\(jL r).den<=100:=by
 have v:∀i,i<r.length->bd 10000 (nth r i):=fun i hi=>h.near _ (Geo.dW hi)
 have l3:=h.three;have v0:=v 0 (by omega)
 have v1:=v 1 (by omega)
 have v2:=v 2 (by omega)
 unfold bd at v0 v1 v2;have q1:=kA (x:=(nth r 0).x+(nth r 1).x+(nth r 2).x) (g:=3) (B:=30000) (by omega)
 have q2:=kA (x:=(nth r 0).y+(nth r 1).y+(nth r 2).y) (g:=3) (B:=30000) (by omega)
 unfold jL Geo.nQ;split<;>dsimp only<;>omega
theorem aEd{r:Geo.aH}{p:Geo.Pt}(h:3<=r.length):Geo.fJ r p=(List.range r.length).all fun i=>decide (0<((nth r ((i+1) % r.length)).x-(nth r i).x)*(p.y-(nth r i).y*p.den)-((nth r ((i+1) % r.length)).y-(nth r i).y)*(p.x-(nth r i).x*p.den)):=by
 unfold Geo.fJ Geo.aD;rw[if_neg (by omega),List.all_map];rfl
theorem aCN{t:LT}{l:List t.ty}{q:t.ty->Bool}{j:Nat}(hj:j<l.length)(h:q (t.nth l j)=true):l.any q=true:=
 List.any_eq_true.2 ⟨_,List.getElem_mem hj,by rw[<-t.nth_eq l hj];exact h⟩
theorem Bm{t:LT}{l:List t.ty}{q:t.ty->Bool}(h:bE (fun j=>q (t.nth l j)=false) l.length):l.any q=false:=
 List.any_eq_false.2 fun x hx=>by
  obtain⟨j,hj,rfl⟩:=List.getElem_of_mem hx;have:=h j hj;dsimp only at this;rw[t.nth_eq l hj]at this;rw[this];simp
def aIa:Con:=con (a1 (aL .V)) (fun r=>[ROk r]) (fun r=>aT.enc (jL r)
 )
theorem aKG:aIa.Ok Tryz.prog 168:=bF (bP aDl) (raw:=bR) (fun _=>[]) (fun _=>⟨_,rfl⟩) fun r hp=>bQ (q:=ix 0 r.length/\ix 1 r.length/\aK ((nth r 0).x+(nth r 1).x)/\ix 2 r.length/\aK ((nth r 0).x+(nth r 1).x+(nth r 2).x)/\ix 0 r.length/\ix 1 r.length/\aK ((nth r 0).y+(nth r 1).y)/\ix 2 r.length/\aK ((nth r 0).y+(nth r 1).y+(nth r 2).y)/\(3:Int)≠0/\(Int.tmod ((nth r 0).x+(nth r 1).x+(nth r 2).x) 3=0->(3:Int)≠0/\(Int.tmod ((nth r 0).y+(nth r 1).y+(nth r 2).y) 3=0->(3:Int)≠0/\aK (Int.tdiv ((nth r 0).x+(nth r 1).x+(nth r 2).x) 3)/\(3:Int)≠0/\aK (Int.tdiv ((nth r 0).y+(nth r 1).y+(nth r 2).y) 3)/\Int.tdiv ((nth r 0).x+(nth r 1).x+(nth r 2).x) 3=(jL r).x/\Int.tdiv ((nth r 0).y+(nth r 1).y+(nth r 2).y) 3=(jL r).y/\1=(jL r).den)/\
  (¬Int.tmod ((nth r 0).y+(nth r 1).y+(nth r 2).y) 3=0->(nth r 0).x+(nth r 1).x+(nth r 2).x=(jL r).x/\(nth r 0).y+(nth r 1).y+(nth r 2).y=(jL r).y/\3=(jL r).den))/\
 (¬Int.tmod ((nth r 0).x+(nth r 1).x+(nth r 2).x) 3=0->(nth r 0).x+(nth r 1).x+(nth r 2).x=(jL r).x/\(nth r 0).y+(nth r 1).y+(nth r 2).y=(jL r).y/\3=(jL r).den)) (by kernel_rfl) (by
  change ROk r at hp;have v:∀i,i<r.length->bd 10000 (nth r i):=fun i h=>hp.near _ (Geo.dW h)
  have l3:=hp.three;have v0:=v 0 (by omega)
  have v1:=v 1 (by omega)
  have v2:=v 2 (by omega)
  have m1:Int.tmod ((nth r 0).x+(nth r 1).x+(nth r 2).x) 3=0->Int.tmod ((nth r 0).y+(nth r 1).y+(nth r 2).y) 3=0->jL r=⟨Int.tdiv ((nth r 0).x+(nth r 1).x+(nth r 2).x) 3,Int.tdiv ((nth r 0).y+(nth r 1).y+(nth r 2).y) 3,1⟩:=fun h1 h2=>if_pos ⟨h1,h2⟩
  have m2:¬(Int.tmod ((nth r 0).x+(nth r 1).x+(nth r 2).x) 3=0/\Int.tmod ((nth r 0).y+(nth r 1).y+(nth r 2).y) 3=0)->jL r=⟨(nth r 0).x+(nth r 1).x+(nth r 2).x,(nth r 0).y+(nth r 1).y+(nth r 2).y,3⟩:=fun h=>if_neg h
  unfold bd at v0 v1 v2;have q1:=kA (x:=(nth r 0).x+(nth r 1).x+(nth r 2).x) (g:=3) (B:=4000000000) (by omega)
  have q2:=kA (x:=(nth r 0).y+(nth r 1).y+(nth r 2).y) (g:=3) (B:=4000000000) (by omega)
  have x0:ix 0 r.length:=⟨by omega,by omega⟩
  have x1:ix 1 r.length:=⟨by omega,by omega⟩
  have x2:ix 2 r.length:=⟨by omega,by omega⟩
  refine⟨x0,x1,cW (by omega),x2,cW (by omega),x0,x1,cW (by omega),x2,cW (by omega),by decide,fun h1=>⟨by decide,fun h2=>⟨by decide,cW (by omega),by decide,cW (by omega),?_⟩,fun h2=> ?_⟩,fun h1=> ?_⟩
  ·rw[m1 h1 h2];exact⟨rfl,rfl,rfl⟩
  ·rw[m2 fun h=>h2 h.2];exact⟨rfl,rfl,rfl⟩
  ·rw[m2 fun h=>h1 h.1];exact⟨rfl,rfl,rfl⟩)
def aGA:Tab:=cJ [(168,aIa)] aGB
theorem aDk:aGA.Ok Tryz.prog:=aR aDl ⟨aKG,trivial⟩
def aH8:Con:=con (ac (aL .V) (a1 aT)) (fun(r,p)=>[ROk r,-1000000<=p.x,p.x<=1000000,-1000000<=p.y,p.y<=1000000,0<=p.den,p.den<=100]) (fun(r,p)=> .bool (Geo.fJ r p))
theorem aKE:aH8.Ok Tryz.prog 170:=bF (bP aDk) (raw:=bR) (fun(r,p)=>[cnt 2 10 r.length (bE fun i=>0<((nth r ((i+1) % r.length)).x-(nth r i).x)*(p.y-(nth r i).y*p.den)-((nth r ((i+1) % r.length)).y-(nth r i).y)*(p.x-(nth r i).x*p.den))]
  ) (fun(_,_)=>⟨_,rfl⟩) fun(r,p) hp=>bQ (q:=(0=(0:Int)/\(0:Nat)<=r.length/\bE (fun i=>0<((nth r ((i+1) % r.length)).x-(nth r i).x)*(p.y-(nth r i).y*p.den)-((nth r ((i+1) % r.length)).y-(nth r i).y)*(p.x-(nth r i).x*p.den)) 0)/\
 (∀x:Nat,x<=r.length/\bE (fun i=>0<((nth r ((i+1) % r.length)).x-(nth r i).x)*(p.y-(nth r i).y*p.den)-((nth r ((i+1) % r.length)).y-(nth r i).y)*(p.x-(nth r i).x*p.den)) x->((x:Int)<r.length->ix (x:Int) r.length/\aK ((x:Int)+1)/\(r.length:Int)≠0/\ix (((x+1) % r.length:Nat):Int) r.length/\bd 1000000000 (nth r ((x+1) % r.length))/\bd 1000000000 (nth r x)/\aK ((nth r x).y*p.den)/\aK (p.y-(nth r x).y*p.den)/\aK ((Geo.sub (nth r ((x+1) % r.length)) (nth r x)).x*(p.y-(nth r x).y*p.den))/\aK ((nth r x).x*p.den)/\aK (p.x-(nth r x).x*p.den)/\aK ((Geo.sub (nth r ((x+1) % r.length)) (nth r x)).y*(p.x-(nth r x).x*p.den))/\aK ((Geo.sub (nth r ((x+1) % r.length)) (nth r x)).x*(p.y-(nth r x).y*p.den)-(Geo.sub (nth r ((x+1) % r.length)) (nth r x)).y*(p.x-(nth r x).x*p.den))/\((Geo.sub (nth r ((x+1) % r.length)) (nth r x)).x*(p.y-(nth r x).y*p.den)-(Geo.sub (nth r ((x+1) % r.length)) (nth r x)).y*(p.x-(nth r x).x*p.den)<=0->false=Geo.fJ r p)/\
   (¬(Geo.sub (nth r ((x+1) % r.length)) (nth r x)).x*(p.y-(nth r x).y*p.den)-(Geo.sub (nth r ((x+1) % r.length)) (nth r x)).y*(p.x-(nth r x).x*p.den)<=0->aK ((x:Int)+1)/\(x:Int)+1=((x+1:Nat):Int)/\x+1<=r.length/\bE (fun i=>0<((nth r ((i+1) % r.length)).x-(nth r i).x)*(p.y-(nth r i).y*p.den)-((nth r ((i+1) % r.length)).y-(nth r i).y)*(p.x-(nth r i).x*p.den)) (x+1)/\r.length-(x+1)<r.length-x))/\
  (¬(x:Int)<r.length->true=Geo.fJ r p))) (by kernel_rfl) (by
  change ROk r/\ -1000000<=p.x/\p.x<=1000000/\ -1000000<=p.y/\p.y<=1000000/\0<=p.den/\p.den<=100 at hp;obtain⟨hr,px1,px2,py1,py2,pd1,pd2⟩:=hp;have l3:=hr.three;have hl:=hr.len;have v:∀i,i<r.length->bd 10000 (nth r i):=fun i h=>hr.near _ (Geo.dW h)
  have md:∀i:Nat,(i:Int)<r.length->(i+1) % r.length<r.length:=fun i h=>Nat.mod_lt _ (by omega)
  have x1:∀i:Nat,(i:Int)<r.length->ix (((i+1) % r.length:Nat):Int) r.length:=fun i h=>eC (md i h)
  have b1:∀i:Nat,(i:Int)<r.length->bd 1000000000 (nth r i):=fun i h=>(v i (by omega)).mono
  have b2:∀i:Nat,(i:Int)<r.length->bd 1000000000 (nth r ((i+1) % r.length)):=fun i h=>(v _ (md i h)).mono
  have k:∀a:Int,-10000<=a/\a<=10000-> -1000000<=a*p.den/\a*p.den<=1000000:=fun a h=>by
   have:=fY (x:=a) (y:=p.den) (A:=10000) (B:=100) ⟨h.1,h.2⟩ ⟨by omega,by omega⟩
   omega
  have m:∀a b:Int,-20000<=a/\a<=20000-> -2000000<=b/\b<=2000000-> -40000000000<=a*b/\a*b<=40000000000:=fun a b h1 h2=>by
   have:=fY (x:=a) (y:=b) (A:=20000) (B:=2000000) h1 h2;omega
  have w:∀i:Nat,(i:Int)<r.length->aK ((nth r i).y*p.den)/\aK (p.y-(nth r i).y*p.den)/\aK ((Geo.sub (nth r ((i+1) % r.length)) (nth r i)).x*(p.y-(nth r i).y*p.den))/\aK ((nth r i).x*p.den)/\aK (p.x-(nth r i).x*p.den)/\aK ((Geo.sub (nth r ((i+1) % r.length)) (nth r i)).y*(p.x-(nth r i).x*p.den))/\aK ((Geo.sub (nth r ((i+1) % r.length)) (nth r i)).x*(p.y-(nth r i).y*p.den)-(Geo.sub (nth r ((i+1) % r.length)) (nth r i)).y*(p.x-(nth r i).x*p.den)):=fun i h=>by
   have h1:=v i (by omega)
   have h2:=v _ (md i h);unfold bd at h1 h2;have k1:=k _ (show-10000<=(nth r i).x/\(nth r i).x<=10000 by omega)
   have k2:=k _ (show-10000<=(nth r i).y/\(nth r i).y<=10000 by omega)
   have d1: -20000<=(Geo.sub (nth r ((i+1) % r.length)) (nth r i)).x/\(Geo.sub (nth r ((i+1) % r.length)) (nth r i)).x<=20000:=by unfold Geo.sub;dsimp only;omega
   have d2: -20000<=(Geo.sub (nth r ((i+1) % r.length)) (nth r i)).y/\(Geo.sub (nth r ((i+1) % r.length)) (nth r i)).y<=20000:=by unfold Geo.sub;dsimp only;omega
   have m1:=m _ (p.y-(nth r i).y*p.den) d1 (by omega)
   have m2:=m _ (p.x-(nth r i).x*p.den) d2 (by omega)
   exact⟨cW (by omega),cW (by omega),cW (by omega),cW (by omega),cW (by omega),cW (by omega),cW (by omega)⟩
  have no:∀i:Nat,(i:Int)<r.length->(Geo.sub (nth r ((i+1) % r.length)) (nth r i)).x*(p.y-(nth r i).y*p.den)-(Geo.sub (nth r ((i+1) % r.length)) (nth r i)).y*(p.x-(nth r i).x*p.den)<=0->false=Geo.fJ r p:=fun i h h2=>by
   rw[aEd l3];symm;refine List.all_eq_false.2 ⟨i,List.mem_range.2 (by omega),?_⟩
   intro h3;have:=of_decide_eq_true h3;unfold Geo.sub at h2;dsimp only at h2;omega
  have yes:∀i:Nat,¬(i:Int)<r.length->i<=r.length->bE (fun i=>0<((nth r ((i+1) % r.length)).x-(nth r i).x)*(p.y-(nth r i).y*p.den)-((nth r ((i+1) % r.length)).y-(nth r i).y)*(p.x-(nth r i).x*p.den)) i->true=Geo.fJ r p:=fun i h h2 h3=>by
   rw[aEd l3];symm;refine List.all_eq_true.2 fun j hj=>decide_eq_true (h3 j ?_)
   have:=List.mem_range.1 hj;omega
  have nx:∀i:Nat,¬(Geo.sub (nth r ((i+1) % r.length)) (nth r i)).x*(p.y-(nth r i).y*p.den)-(Geo.sub (nth r ((i+1) % r.length)) (nth r i)).y*(p.x-(nth r i).x*p.den)<=0->0<((nth r ((i+1) % r.length)).x-(nth r i).x)*(p.y-(nth r i).y*p.den)-((nth r ((i+1) % r.length)).y-(nth r i).y)*(p.x-(nth r i).x*p.den):=fun i h=>by
   unfold Geo.sub at h;dsimp only at h;omega
  clear k m v md
  repeat' first|with_reducible apply And.intro|with_reducible intro
  all_goals repeat with_reducible cases‹_/\_›
  all_goals first|with_reducible assumption|with_reducible rfl|with_reducible exact x1 _ ‹_› |with_reducible exact b1 _ ‹_› |with_reducible exact b2 _ ‹_› |with_reducible exact(w _ ‹_›).1|with_reducible exact(w _ ‹_›).2.1|with_reducible exact(w _ ‹_›).2.2.1|with_reducible exact(w _ ‹_›).2.2.2.1|with_reducible exact(w _ ‹_›).2.2.2.2.1|with_reducible exact(w _ ‹_›).2.2.2.2.2.1|with_reducible exact(w _ ‹_›).2.2.2.2.2.2|with_reducible exact no _ ‹_› ‹_› |with_reducible exact yes _ ‹_› ‹_› ‹_› |exact bW _|exact aO ‹_› (nx _ ‹_›)|omega|(unfold ix;omega)|(unfold aK;omega))
def aGx:Tab:=cJ [(170,aH8)] aGA
theorem aDi:aGx.Ok Tryz.prog:=aR aDk ⟨aKE,trivial⟩
def aH9:Con:=con (ac (aL .V) (a1 (aL .V))) (fun(a,b)=>[ROk a,ROk b]) (fun(a,b)=> .bool ((Geo.aD a).any fun s=>Geo.cF s b))
theorem aKF:aH9.Ok Tryz.prog 169:=bF (bP aDi) (raw:=bR) (fun(a,b)=>[cnt 2 10 (Geo.aD a).length (bE fun i=>Geo.cF (bK (Geo.aD a) i) b=false)]
  ) (fun(_,_)=>⟨_,rfl⟩) fun(a,b) hp=>bQ (q:=a.length<=1000/\(0=(0:Int)/\(0:Nat)<=(Geo.aD a).length/\bE (fun i=>Geo.cF (bK (Geo.aD a) i) b=false) 0)/\
 (∀x:Nat,x<=(Geo.aD a).length/\bE (fun i=>Geo.cF (bK (Geo.aD a) i) b=false) x->((x:Int)<(Geo.aD a).length->ix (x:Int) (Geo.aD a).length/\x<(Geo.aD a).length/\bd 10000 (bK (Geo.aD a) x).a/\bd 10000 (bK (Geo.aD a) x).b/\ROk b/\(Geo.cF (bK (Geo.aD a) x) b=true->true=List.any (Geo.aD a) (fun s=>Geo.cF s b))/\
   (Geo.cF (bK (Geo.aD a) x) b=false->aK ((x:Int)+1)/\(x:Int)+1=((x+1:Nat):Int)/\x+1<=(Geo.aD a).length/\bE (fun i=>Geo.cF (bK (Geo.aD a) i) b=false) (x+1)/\(Geo.aD a).length-(x+1)<(Geo.aD a).length-x))/\
  (¬(x:Int)<(Geo.aD a).length->false=List.any (Geo.aD a) (fun s=>Geo.cF s b)))) (by kernel_rfl) (by
  change ROk a/\ROk b at hp;obtain⟨ha,hb⟩:=hp;have la:=ha.three;have lb:=ha.len;have el:=Gw la;have e1:∀i:Nat,(i:Int)<(Geo.aD a).length->bd 10000 (bK (Geo.aD a) i).a/\bd 10000 (bK (Geo.aD a) i).b:=fun i h=>by
   rw[lW (show i<(Geo.aD a).length by omega),wJ la]
   exact⟨ha.near _ (Geo.dW (by omega)),ha.near _ (Geo.dW (Nat.mod_lt _ (by omega)))⟩
  have yes:∀i:Nat,(i:Int)<(Geo.aD a).length->Geo.cF (bK (Geo.aD a) i) b=true->true=List.any (Geo.aD a) (fun s=>Geo.cF s b):=fun i h h2=>
   (aCN (t:= .S) (l:=Geo.aD a) (q:=fun s=>Geo.cF s b) (j:=i) (by omega) h2).symm
  have no:∀i:Nat,¬(i:Int)<(Geo.aD a).length->i<=(Geo.aD a).length->bE (fun i=>Geo.cF (bK (Geo.aD a) i) b=false) i->false=List.any (Geo.aD a) (fun s=>Geo.cF s b):=fun i h h2 h3=>by
   obtain rfl:i=(Geo.aD a).length:=by omega
   exact(Bm (t:= .S) (l:=Geo.aD a) (q:=fun s=>Geo.cF s b) h3).symm
  repeat' first|with_reducible apply And.intro|with_reducible intro
  all_goals repeat with_reducible cases‹_/\_›
  all_goals first|with_reducible assumption|with_reducible rfl|with_reducible exact(e1 _ ‹_›).1|with_reducible exact(e1 _ ‹_›).2|with_reducible exact yes _ ‹_› ‹_› |with_reducible exact no _ ‹_› ‹_› ‹_› |exact bW _|exact aO ‹_› ‹_› |omega|(unfold ix;omega)|(unfold aK;omega))
def aGz:Tab:=cJ [(169,aH9)] aGx
theorem aDj:aGz.Ok Tryz.prog:=aR aDi ⟨aKF,trivial⟩
def aID:Con:=con (ac (aL .V) (a1 (aL .V))) (fun(a,b)=>[ROk a,ROk b]) (fun(a,b)=> .bool (Geo.cO a b)
 )
theorem aK9:aID.Ok Tryz.prog 110:=bF (bP aDj) (raw:=bR) (fun(_,_)=>[]) (fun(_,_)=>⟨_,rfl⟩) fun(a,b) hp=>bQ (q:=ROk a/\ROk b/\(List.any (Geo.aD a) (fun s=>Geo.cF s b)=true->true=Geo.cO a b)/\
 (List.any (Geo.aD a) (fun s=>Geo.cF s b)=false->ROk b/\ROk a/\(List.any (Geo.aD b) (fun s=>Geo.cF s a)=true->true=Geo.cO a b)/\
  (List.any (Geo.aD b) (fun s=>Geo.cF s a)=false->ROk a/\ROk b/\ -1000000<=(jL a).x/\(jL a).x<=1000000/\ -1000000<=(jL a).y/\(jL a).y<=1000000/\0<=(jL a).den/\(jL a).den<=100/\Geo.fJ b (jL a)=Geo.cO a b))) (by kernel_rfl) (by
  change ROk a/\ROk b at hp;obtain⟨ha,hb⟩:=hp;have c:=aCD ha;have o:Geo.cO a b=((List.any (Geo.aD a) fun s=>Geo.cF s b)||((List.any (Geo.aD b) fun s=>Geo.cF s a)||Geo.fJ b (jL a))):=rfl
  refine⟨ha,hb,fun h=>by rw[o,h];rfl,fun h=>⟨hb,ha,fun h2=>by rw[o,h,h2];rfl,fun h2=>⟨ha,hb,c.1,c.2.1,c.2.2.1,c.2.2.2.1,c.2.2.2.2.1,c.2.2.2.2.2,by rw[o,h,h2];rfl⟩⟩⟩)
def aHi:Tab:=cJ [(110,aID)] aGz
theorem aDU:aHi.Ok Tryz.prog:=aR aDj ⟨aK9,trivial⟩
def aIF:Con:=con (ac aSh (a1 (aL .V))) (fun(s,r)=>[Fit s,ROk r,(bX s).length<=1000000,(∀e∈bX s,Geo.bG e.a 10000=true/\Geo.bG e.b 10000=true)]) (fun(s,r)=> .bool (Geo.iI s r))
theorem aLb:aIF.Ok Tryz.prog 108:=bF (bP aDU) (raw:=bR) (fun(s,r)=>[cnt 2 10 (bX s).length (bE fun i=>Geo.cF (bK (bX s) i) r=false)]
  ) (fun(_,_)=>⟨_,rfl⟩) fun(s,r) hp=>bQ (q:=Fit s/\(0=(0:Int)/\(0:Nat)<=(bX s).length/\bE (fun i=>Geo.cF (bK (bX s) i) r=false) 0)/\
 (∀x:Nat,x<=(bX s).length/\bE (fun i=>Geo.cF (bK (bX s) i) r=false) x->((x:Int)<(bX s).length->ix (x:Int) (bX s).length/\bd 10000 (bK (bX s) x).a/\bd 10000 (bK (bX s) x).b/\ROk r/\(Geo.cF (bK (bX s) x) r=true->false=Geo.iI s r)/\
   (Geo.cF (bK (bX s) x) r=false->aK ((x:Int)+1)/\(x:Int)+1=((x+1:Nat):Int)/\x+1<=(bX s).length/\bE (fun i=>Geo.cF (bK (bX s) i) r=false) (x+1)/\(bX s).length-(x+1)<(bX s).length-x))/\
  (¬(x:Int)<(bX s).length->ROk r/\Fit s/\decide (Geo.dL s (jL r)=2)=Geo.iI s r))) (by kernel_rfl) (by
  change Fit s/\ROk r/\(bX s).length<=1000000/\((∀e∈bX s,Geo.bG e.a 10000=true/\Geo.bG e.b 10000=true))at hp;obtain⟨hf,hr,hl,he⟩:=hp;have e1:∀i:Nat,(i:Int)<(bX s).length->bd 10000 (bK (bX s) i).a:=fun i h=>by rw[lW (by omega)];exact Fj (he _ (List.getElem_mem _)).1
  have e2:∀i:Nat,(i:Int)<(bX s).length->bd 10000 (bK (bX s) i).b:=fun i h=>by rw[lW (by omega)];exact Fj (he _ (List.getElem_mem _)).2
  have t1:∀i:Nat,(i:Int)<(bX s).length->Geo.cF (bK (bX s) i) r=true->false=Geo.iI s r:=fun i h h2=>by
   unfold Geo.iI;rw[Ic (t:= .S) (l:=bX s) (q:=fun e=> !Geo.cF e r) (j:=i) (by omega) (by rw[show Geo.cF (LT.S.nth (bX s) i) r=true from h2];rfl)];rfl
  have t3:∀x:Nat,¬(x:Int)<(bX s).length->x<=(bX s).length->bE (fun i=>Geo.cF (bK (bX s) i) r=false) x->decide (Geo.dL s (jL r)=2)=Geo.iI s r:=fun x h1 h2 h3=>by
   obtain rfl:x=(bX s).length:=by omega
   unfold Geo.iI;rw[Am (t:= .S) (l:=bX s) (q:=fun e=> !Geo.cF e r) (fun j hj=>by show(!Geo.cF (bK (bX s) j) r)=true;rw[show Geo.cF (bK (bX s) j) r=false from h3 j hj];rfl),Bool.true_and,Bool.eq_iff_iff];unfold jL;simp
  clear he
  repeat' first|with_reducible apply And.intro|with_reducible intro
  all_goals repeat with_reducible cases‹_/\_›
  all_goals first|with_reducible assumption|with_reducible rfl|with_reducible exact e1 _ ‹_› |with_reducible exact e2 _ ‹_› |with_reducible exact t1 _ ‹_› ‹_› |with_reducible exact t3 _ ‹_› ‹_› ‹_› |exact bW _|exact aO ‹_› ‹_› |omega|(unfold ix;omega)|(unfold aK;omega))
def aEu:Tab:=cJ [(108,aIF)] aHi
theorem Yc:aEu.Ok Tryz.prog:=aR aDU ⟨aLb,trivial⟩
end
end Go.Proofs.YtdaeofhdgabhjaaGreat
namespace Go.Proofs.YtdaeofhdgabhjaaGreat
open Go.RowKit
def Ap(l:List Geo.aH):Prop:=l.length<=1000000000000000000/\∀r∈l,r.length<=1000000000000000000
end Go.Proofs.YtdaeofhdgabhjaaGreat
namespace Go.Proofs.YtdaeofhdgabhjaaGreat
open Go.RowKit
set_option maxRecDepth 100000
noncomputable section
open Geo (nth aB)
def He(a b:Geo.V):Geo.V:=⟨IntKind.i64.wrap (a.x-b.x),IntKind.i64.wrap (a.y-b.y)⟩
def xN(a b:Geo.V):Int:=IntKind.i64.wrap (IntKind.i64.wrap (a.x*b.y)-IntKind.i64.wrap (a.y*b.x))
def Aq(a b c:Geo.V):Int:=Geo.eO (xN (He b a) (He c a)) 0
theorem Sy{a b:Geo.V}(ha:bd 1000000000 a)(hb:bd 1000000000 b):He a b=Geo.sub a b:=by
 unfold bd at ha hb;unfold He Geo.sub;rw[mJ (cW (by omega)),mJ (cW (by omega))]
theorem Xb{a b:Geo.V}(ha:bd 2000000000 a)(hb:bd 2000000000 b):xN a b=Geo.cross a b:=by
 have:=gT ha hb;unfold xN Geo.cross;rw[mJ (x:=a.x*b.y) (cW (by omega)),mJ (x:=a.y*b.x) (cW (by omega)),mJ (cW (by omega))]
theorem aAo{a b c:Geo.V}(ha:bd 1000000000 a)(hb:bd 1000000000 b)(hc:bd 1000000000 c):Aq a b c=Geo.cP a b c:=by
 have e:∀n,Geo.eO n 0=Geo.sgn n:=fun n=>by unfold Geo.eO Geo.sgn;grind
 unfold Aq;rw[Sy hb ha,Sy hc ha,Xb (fX hb ha) (fX hc ha),e];rfl
def aEg:Con:=con (ac aV (a1 aV)) (fun(_,_)=>[True]) (fun(a,b)=>aV.enc (He a b))
theorem aJl:aEg.Ok Tryz.prog 138:=bF (bP Yc) (raw:=fun _ _=>true
 ) (fun(_,_)=>[]) (fun(_,_)=>⟨_,rfl⟩) fun(a,b) hp=>bQ (q:=IntKind.wrap IntKind.i64 (a.x-b.x)=(He a b).x/\IntKind.wrap IntKind.i64 (a.y-b.y)=(He a b).y) (by kernel_rfl) (by
 change True at hp;exact⟨rfl,rfl⟩)
def aDE:Tab:=cJ [(138,aEg)] aEu
theorem Zj:aDE.Ok Tryz.prog:=aR Yc ⟨aJl,trivial⟩
def aEh:Con:=con (ac aV (a1 aV)) (fun(_,_)=>[True]) (fun(a,b)=> .int .i64 (xN a b))
theorem aJm:aEh.Ok Tryz.prog 111:=bF (bP Zj) (raw:=fun _ _=>true
 ) (fun(_,_)=>[]) (fun(_,_)=>⟨_,rfl⟩) fun(a,b) hp=>bQ (q:=IntKind.wrap IntKind.i64 (IntKind.wrap IntKind.i64 (a.x*b.y)-IntKind.wrap IntKind.i64 (a.y*b.x))=xN a b) (by kernel_rfl) (by
 change True at hp;rfl)
def aDR:Tab:=cJ [(111,aEh)] aDE
theorem Zk:aDR.Ok Tryz.prog:=aR Zj ⟨aJm,trivial⟩
def aHD:Con:=con (ac aV (ac aV (a1 aV))) (fun(_,_,_)=>[True]) (fun(a,b,c)=> .int .i64 (Aq a b c)
 )
theorem aKa:aHD.Ok Tryz.prog 63:=bF (bP Zk) (raw:=bR) (fun(_,_,_)=>[]) (fun(_,_,_)=>⟨_,rfl⟩) fun(a,b,c) hp=>bQ (q:=True/\True/\True/\Geo.eO (xN (He b a) (He c a)) 0=Aq a b c) (by kernel_rfl) (by
 change True at hp;exact⟨trivial,trivial,trivial,rfl⟩)
def aJN:Tab:=cJ [(63,aHD)] aDR
theorem aIP:aJN.Ok Tryz.prog:=aR Zk ⟨aKa,trivial⟩
def cvZ(r:Geo.aH)(i n:Nat):Bool:=decide (n=i)||(decide (n=(i+1) % r.length)||decide (0<Aq (nth r i) (nth r ((i+1) % r.length)) (nth r n)))
def cvR(r:Geo.aH)(i:Nat):Bool:=(List.range r.length).all (cvZ r i)&&Geo.bG (nth r i) 2000
def cvN(r:Geo.aH)(i n:Nat):Bool:=decide (n=i)||(decide (n=(i+1) % r.length)||decide (0<Geo.cP (nth r i) (nth r ((i+1) % r.length)) (nth r n)))
theorem Wf{r:Geo.aH}:(r.all fun v=>Geo.bG v 2000)=(List.range r.length).all fun i=>Geo.bG (nth r i) 2000:=by
 rw[Bool.eq_iff_iff,List.all_eq_true,List.all_eq_true];constructor
 ·intro h i hi;exact h _ (Geo.dW (List.mem_range.1 hi))
 ·intro h v hv;obtain⟨i,hi,rfl⟩:=Geo.fA.1 hv;exact h i (List.mem_range.2 hi)
theorem Ja(r:Geo.aH):Geo.cM r=(decide (3<=r.length)&&(((List.range r.length).all fun i=>Geo.bG (nth r i) 2000)&&(List.range r.length).all fun i=>(List.range r.length).all (cvN r i))):=by
 have e:(fun i=>(List.range r.length).all fun n=>decide (n=i)||decide (n=(i+1) % r.length)||decide (0<Geo.cP (nth r i) (Geo.nxt r i) (nth r n)))=fun i=>(List.range r.length).all (cvN r i):=by
  funext i;congr 1;funext n;exact Bool.or_assoc ..
 unfold Geo.cM;rw[Wf,e]
theorem mK{v:Geo.V}(h:Geo.bG v 2000=true):bd 10000 v:=by
 unfold Geo.bG at h;simp only[Bool.and_eq_true,decide_eq_true_eq]at h;unfold bd;omega
theorem vX(r:Geo.aH):Geo.cM r=(decide (3<=r.length)&&(List.range r.length).all (cvR r)):=by
 rw[Ja]
 congr 1
 have key:((List.range r.length).all fun i=>Geo.bG (nth r i) 2000)=true->∀i n,i<r.length->n<r.length->cvZ r i n=cvN r i n:=fun h i n hi hn=>by
  have h:=List.all_eq_true.1 h;have b:∀i,i<r.length->bd 1000000000 (nth r i):=fun i hi=>(mK (h i (List.mem_range.2 hi))).mono
  unfold cvZ cvN;rw[aAo (b _ hi) (b _ (Nat.mod_lt _ (by omega))) (b _ hn)]
 rw[Bool.eq_iff_iff];constructor
 ·intro h;rw[Bool.and_eq_true]at h;refine List.all_eq_true.2 fun i hi=> ?_
  unfold cvR;rw[Bool.and_eq_true];refine⟨List.all_eq_true.2 fun n hn=> ?_,List.all_eq_true.1 h.1 i hi⟩
  rw[key h.1 i n (List.mem_range.1 hi) (List.mem_range.1 hn)];exact List.all_eq_true.1 (List.all_eq_true.1 h.2 i hi) n hn
 ·intro h;have h:=List.all_eq_true.1 h;have h1:((List.range r.length).all fun i=>Geo.bG (nth r i) 2000)=true:=List.all_eq_true.2 fun i hi=>by
   have:=h i hi;unfold cvR at this;rw[Bool.and_eq_true]at this;exact this.2
  rw[Bool.and_eq_true];refine⟨h1,List.all_eq_true.2 fun i hi=>List.all_eq_true.2 fun n hn=> ?_⟩
  rw[<-key h1 i n (List.mem_range.1 hi) (List.mem_range.1 hn)];have:=h i hi;unfold cvR at this;rw[Bool.and_eq_true]at this;exact List.all_eq_true.1 this.1 n hn
theorem xI{r:Geo.aH}(h:Geo.cM r=true)(hl:r.length<=1000):ROk r:=by
 have:=Geo.CR.of h;exact⟨this.len,hl,fun v hv=>mK (this.near v hv)⟩
theorem rE{q:Nat->Bool}{n:Nat}(h:bE (fun j=>q j=true) n):(List.range n).all q=true:=List.all_eq_true.2 fun i hi=>h i (List.mem_range.1 hi)
theorem sQ{q:Nat->Bool}{n i:Nat}(hi:i<n)(h:q i=false):(List.range n).all q=false:=List.all_eq_false.2 ⟨i,List.mem_range.2 hi,by rw[h];simp⟩
def aIG:Con:=con (a1 (aL .V)) (fun r=>[r.length<=1000]) (fun r=> .bool (Geo.cM r))
theorem aLc:aIG.Ok Tryz.prog 107:=bF (bP aIP) (raw:=bR) (fun r=>[lp 2 10 r.length (fun i=>[bE (fun i=>cvR r i=true) i]) [] (fun _=>[]) (fun _=>[]) fun i=>[cnt 6 25 r.length (bE fun n=>cvZ r i n=true) fun n=>[jb 9 48 (!cvZ r i n)]]]
  ) (fun _=>⟨_,rfl⟩) fun r hp=>bQ (q:=(0=(0:Int)/\(0:Nat)<=r.length/\bE (fun i=>cvR r i=true) 0)/\
 (∀x:Nat,x<=r.length/\bE (fun i=>cvR r i=true) x->((x:Int)<r.length->ix (x:Int) r.length/\aK ((x:Int)+1)/\(r.length:Int)≠0/\ix (((x+1) % r.length:Nat):Int) r.length/\(0=(0:Int)/\(0:Nat)<=r.length/\bE (fun n=>cvZ r x n=true) 0)/\
   (∀x_1:Nat,x_1<=r.length/\bE (fun n=>cvZ r x n=true) x_1->((x_1:Int)<r.length->ix (x_1:Int) r.length/\((¬(x_1:Int)=x->aK ((x:Int)+1)/\(r.length:Int)≠0/\(¬(x_1:Int)=(((x+1) % r.length:Nat):Int)->True/\decide (Aq (nth r x) (nth r ((x+1) % r.length)) (nth r x_1)<=0)=(!cvZ r x x_1))/\
       (¬(¬(x_1:Int)=(((x+1) % r.length:Nat):Int))->false=(!cvZ r x x_1)))/\
      (¬(¬(x_1:Int)=x)->false=(!cvZ r x x_1)))/\
     (∀y:Unit,((!cvZ r x x_1)=true->false=Geo.cM r)/\
      ((!cvZ r x x_1)=false->aK ((x_1:Int)+1)/\(x_1:Int)+1=((x_1+1:Nat):Int)/\x_1+1<=r.length/\bE (fun n=>cvZ r x n=true) (x_1+1)/\r.length-(x_1+1)<r.length-x_1)))/\
    (¬(x_1:Int)<r.length->(0:Int)<=2000/\(2000:Int)<=9000000000000000000/\((!Geo.bG (nth r x) 2000)=true->false=Geo.cM r)/\
     ((!Geo.bG (nth r x) 2000)=false->aK ((x:Int)+1)/\(x:Int)+1=((x+1:Nat):Int)/\x+1<=r.length/\bE (fun i=>cvR r i=true) (x+1)/\r.length-(x+1)<r.length-x))))/\
  (¬(x:Int)<r.length->decide (3<=(r.length:Int))=Geo.cM r))) (by kernel_rfl) (by
  change r.length<=1000 at hp;have x1:∀x:Nat,(x:Int)<r.length->ix (((x+1) % r.length:Nat):Int) r.length:=fun x h=>eC (Nat.mod_lt _ (by omega))
  have z1:∀x y:Nat,¬(y:Int)=x->¬(y:Int)=(((x+1) % r.length:Nat):Int)->decide (Aq (nth r x) (nth r ((x+1) % r.length)) (nth r y)<=0)=(!cvZ r x y):=fun x y h1 h2=>by
   unfold cvZ;rw[decide_eq_false (show¬y=x by omega),decide_eq_false (show¬y=(x+1) % r.length by omega),Bool.false_or,Bool.false_or,<-decide_not]
   exact decide_eq_decide.2 (by omega)
  have z2:∀x y:Nat,¬¬(y:Int)=(((x+1) % r.length:Nat):Int)->false=(!cvZ r x y):=fun x y h=>by
   unfold cvZ;rw[decide_eq_true (show y=(x+1) % r.length by omega)];simp
  have z3:∀x y:Nat,¬¬(y:Int)=x->false=(!cvZ r x y):=fun x y h=>by
   unfold cvZ;rw[decide_eq_true (show y=x by omega)];simp
  have no:∀x y:Nat,(!cvZ r x y)=true->(x:Int)<r.length->(y:Int)<r.length->false=Geo.cM r:=fun x y h3 h1 h2=>by
   rw[vX,sQ (i:=x) (by omega) (by unfold cvR;rw[sQ (i:=y) (by omega) (nb' h3)];rfl)];simp
  have no2:∀x:Nat,(!Geo.bG (nth r x) 2000)=true->(x:Int)<r.length->false=Geo.cM r:=fun x h3 h1=>by
   rw[vX,sQ (i:=x) (by omega) (by unfold cvR;rw[nb' h3];simp)];simp
  have st:∀x y:Nat,bE (fun n=>cvZ r x n=true) y->¬(y:Int)<r.length->y<=r.length->(!Geo.bG (nth r x) 2000)=false->cvR r x=true:=fun x y h3 h1 h2 h4=>by
   obtain rfl:y=r.length:=by omega
   unfold cvR;rw[rE h3,nb h4];rfl
  have fin:∀x:Nat,¬(x:Int)<r.length->x<=r.length->bE (fun i=>cvR r i=true) x->decide (3<=(r.length:Int))=Geo.cM r:=fun x h1 h2 h3=>by
   obtain rfl:x=r.length:=by omega
   rw[vX,rE h3,Bool.and_true];exact decide_eq_decide.2 (by omega)
  repeat' first|with_reducible apply And.intro|with_reducible intro
  all_goals repeat with_reducible cases‹_/\_›
  all_goals first|with_reducible assumption|with_reducible rfl|with_reducible exact x1 _ ‹_› |with_reducible exact z1 _ _ ‹_› ‹_› |with_reducible exact z2 _ _ ‹_› |with_reducible exact z3 _ _ ‹_› |with_reducible exact no _ _ ‹_› ‹_› ‹_› |with_reducible exact no2 _ ‹_› ‹_› |with_reducible exact fin _ ‹_› ‹_› ‹_› |exact trivial|exact bW _|exact aO ‹_› (nb ‹_›)|exact aO ‹_› (st _ _ ‹_› ‹_› ‹_› ‹_›)|omega|(unfold ix;omega)|(unfold aK;omega))
def tE:Tab:=cJ [(107,aIG),(150,aET)] aEu
theorem tEo:tE.Ok Tryz.prog:=aR Yc ⟨aLc,aHy,trivial⟩
def aIB:Con:=con (a1 (aL .V)) (fun r=>[r.length<=1000]) (fun r=> .bool (Geo.cM r))
theorem aK7:aIB.Ok Tryz.prog 112:=bF (bP tEo) (raw:=bR) (fun r=>[cnt 4 3 r.length (bE fun i=>Geo.bG (nth r i) 2000=true),lp 9 4 r.length (fun i=>[bE (fun i=>(List.range r.length).all (cvN r i)=true) i]) [] (fun _=>[]) (fun _=>[]) fun i=>[cnt 13 6 r.length (bE fun n=>cvN r i n=true) fun n=>[jb 16 62 (!cvN r i n)]]]
  ) (fun _=>⟨_,rfl⟩) fun r hp=>bQ (q:=((r.length:Int)<3->false=Geo.cM r)/\
 (¬(r.length:Int)<3->(0=(0:Int)/\(0:Nat)<=r.length/\bE (fun i=>Geo.bG (nth r i) 2000=true) 0)/\
  (∀x:Nat,x<=r.length/\bE (fun i=>Geo.bG (nth r i) 2000=true) x->((x:Int)<r.length->ix (x:Int) r.length/\(0:Int)<=2000/\(2000:Int)<=1000000000000/\((!Geo.bG (nth r x) 2000)=true->false=Geo.cM r)/\
    ((!Geo.bG (nth r x) 2000)=false->aK ((x:Int)+1)/\(x:Int)+1=((x+1:Nat):Int)/\x+1<=r.length/\bE (fun i=>Geo.bG (nth r i) 2000=true) (x+1)/\r.length-(x+1)<r.length-x))/\
   (¬(x:Int)<r.length->(0=(0:Int)/\(0:Nat)<=r.length/\bE (fun i=>List.all (List.range r.length) (cvN r i)=true) 0)/\
    (∀x_1:Nat,x_1<=r.length/\bE (fun i=>List.all (List.range r.length) (cvN r i)=true) x_1->((x_1:Int)<r.length->aK ((x_1:Int)+1)/\(r.length:Int)≠0/\(0=(0:Int)/\(0:Nat)<=r.length/\bE (fun n=>cvN r x_1 n=true) 0)/\
      (∀x_2:Nat,x_2<=r.length/\bE (fun n=>cvN r x_1 n=true) x_2->((x_2:Int)<r.length->((¬(x_2:Int)=x_1->(¬(x_2:Int)=(((x_1+1) % r.length:Nat):Int)->ix (x_1:Int) r.length/\ix (((x_1+1) % r.length:Nat):Int) r.length/\ix (x_2:Int) r.length/\bd 1000000000 (nth r x_1)/\bd 1000000000 (nth r ((x_1+1) % r.length))/\bd 1000000000 (nth r x_2)/\decide (Geo.cP (nth r x_1) (nth r ((x_1+1) % r.length)) (nth r x_2)<=0)=(!cvN r x_1 x_2))/\
          (¬(¬(x_2:Int)=(((x_1+1) % r.length:Nat):Int))->false=(!cvN r x_1 x_2)))/\
         (¬(¬(x_2:Int)=x_1)->false=(!cvN r x_1 x_2)))/\
        (∀y:Unit,((!cvN r x_1 x_2)=true->false=Geo.cM r)/\
         ((!cvN r x_1 x_2)=false->aK ((x_2:Int)+1)/\(x_2:Int)+1=((x_2+1:Nat):Int)/\x_2+1<=r.length/\bE (fun n=>cvN r x_1 n=true) (x_2+1)/\r.length-(x_2+1)<r.length-x_2)))/\
       (¬(x_2:Int)<r.length->aK ((x_1:Int)+1)/\(x_1:Int)+1=((x_1+1:Nat):Int)/\x_1+1<=r.length/\bE (fun i=>List.all (List.range r.length) (cvN r i)=true) (x_1+1)/\r.length-(x_1+1)<r.length-x_1)))/\
     (¬(x_1:Int)<r.length->true=Geo.cM r)))))) (by kernel_rfl) (by
  change r.length<=1000 at hp;have x1:∀x:Nat,(x:Int)<r.length->ix (((x+1) % r.length:Nat):Int) r.length:=fun x h=>eC (Nat.mod_lt _ (by omega))
  have c0:(r.length:Int)<3->false=Geo.cM r:=fun h=>by
   rw[vX,decide_eq_false (by omega)];rfl
  have n1:∀x:Nat,(!Geo.bG (nth r x) 2000)=true->(x:Int)<r.length->false=Geo.cM r:=fun x h3 h1=>by
   rw[vX,sQ (i:=x) (by omega) (by unfold cvR;rw[nb' h3];simp)];simp
  have b1:∀x y:Nat,bE (fun i=>Geo.bG (nth r i) 2000=true) x->¬(x:Int)<r.length->x<=r.length->(y:Int)<r.length->bd 1000000000 (nth r y):=fun x y h3 h1 h2 h4=>(mK (h3 y (by omega))).mono
  have b2:∀x y:Nat,bE (fun i=>Geo.bG (nth r i) 2000=true) x->¬(x:Int)<r.length->x<=r.length->(y:Int)<r.length->bd 1000000000 (nth r ((y+1) % r.length)):=fun x y h3 h1 h2 h4=>(mK (h3 _ (by have:=Nat.mod_lt (y+1) (show 0<r.length by omega);omega))).mono
  have z1:∀x y:Nat,¬(y:Int)=x->¬(y:Int)=(((x+1) % r.length:Nat):Int)->decide (Geo.cP (nth r x) (nth r ((x+1) % r.length)) (nth r y)<=0)=(!cvN r x y):=fun x y h1 h2=>by
   unfold cvN;rw[decide_eq_false (show¬y=x by omega),decide_eq_false (show¬y=(x+1) % r.length by omega),Bool.false_or,Bool.false_or,<-decide_not]
   exact decide_eq_decide.2 (by omega)
  have z2:∀x y:Nat,¬¬(y:Int)=(((x+1) % r.length:Nat):Int)->false=(!cvN r x y):=fun x y h=>by
   unfold cvN;rw[decide_eq_true (show y=(x+1) % r.length by omega)];simp
  have z3:∀x y:Nat,¬¬(y:Int)=x->false=(!cvN r x y):=fun x y h=>by
   unfold cvN;rw[decide_eq_true (show y=x by omega)];simp
  have no:∀x y:Nat,(!cvN r x y)=true->(x:Int)<r.length->(y:Int)<r.length->false=Geo.cM r:=fun x y h3 h1 h2=>by
   rw[Ja,sQ (q:=fun i=>(List.range r.length).all (cvN r i)) (i:=x) (by omega) (sQ (i:=y) (by omega) (nb' h3))];simp
  have st:∀x y:Nat,bE (fun n=>cvN r x n=true) y->¬(y:Int)<r.length->y<=r.length->List.all (List.range r.length) (cvN r x)=true:=fun x y h3 h1 h2=>by
   obtain rfl:y=r.length:=by omega
   exact rE h3
  have fin:∀x y:Nat,¬(r.length:Int)<3->bE (fun i=>Geo.bG (nth r i) 2000=true) x->¬(x:Int)<r.length->x<=r.length->bE (fun i=>List.all (List.range r.length) (cvN r i)=true) y->¬(y:Int)<r.length->y<=r.length->true=Geo.cM r:=fun x y h0 h3 h1 h2 h6 h4 h5=>by
   obtain rfl:x=r.length:=by omega
   obtain rfl:y=r.length:=by omega
   rw[Ja,rE (q:=fun i=>Geo.bG (nth r i) 2000) h3,rE (q:=fun i=>List.all (List.range r.length) (cvN r i)) h6,decide_eq_true (by omega)];rfl
  repeat' first|with_reducible apply And.intro|with_reducible intro
  all_goals repeat with_reducible cases‹_/\_›
  all_goals first|with_reducible assumption|with_reducible rfl|with_reducible exact x1 _ ‹_› |with_reducible exact c0 ‹_› |with_reducible exact n1 _ ‹_› ‹_› |with_reducible exact b1 _ _ ‹_› ‹_› ‹_› ‹_› |with_reducible exact b2 _ _ ‹_› ‹_› ‹_› ‹_› |with_reducible exact z1 _ _ ‹_› ‹_› |with_reducible exact z2 _ _ ‹_› |with_reducible exact z3 _ _ ‹_› |with_reducible exact no _ _ ‹_› ‹_› ‹_› |with_reducible exact fin _ _ ‹_› ‹_› ‹_› ‹_› ‹_› ‹_› ‹_› |exact trivial|exact bW _|exact aO ‹_› (nb ‹_›)|exact aO ‹_› (st _ _ ‹_› ‹_› ‹_›)|omega|(unfold ix;omega)|(unfold aK;omega))
def aHg:Tab:=cJ [(112,aIB)] tE
theorem aDQ:aHg.Ok Tryz.prog:=aR tEo ⟨aK7,trivial⟩
def fgn(v:List Geo.V)(p:Geo.V):Bool:= !v.any fun u=>decide (p=u)
def c82:Con:=con (ac (aL .V) (a1 aV)) (fun(l,_)=>[l.length<=1000000]) (fun(l,v)=> .bool (l.any fun u=>decide (v=u))
 )
theorem k82:c82.Ok Tryz.prog 82:=bF (bP aDQ) (raw:=bR) (fun(_,_)=>[]) (fun(_,_)=>⟨_,rfl⟩) fun(l,v) hp=>bQ (q:=l.length<=1000000/\decide (0<=fI (fun u=>decide (v=u)) l)=List.any l (fun u=>decide (v=u))) (by kernel_rfl) (by
 change l.length<=1000000 at hp;exact⟨hp,xL _ _⟩)
def t82:Tab:=cJ [(82,c82)] aHg
theorem aFH:t82.Ok Tryz.prog:=aR aDQ ⟨k82,trivial⟩
def aIH:Con:=con (ac aV (a1 aPR)) (fun(_,l)=>[l.length<=1000000]) (fun(v,l)=> .bool (fgn l v)
 )
theorem aLd:aIH.Ok Tryz.prog 106:=bF (bP aFH) (raw:=bR) (fun(_,_)=>[]) (fun(_,_)=>⟨_,rfl⟩) fun(v,l) hp=>bQ (q:=l.length<=1000000/\(!List.any l (fun u=>decide (v=u)))=fgn l v) (by kernel_rfl) (by
 change l.length<=1000000 at hp;exact⟨hp,rfl⟩)
def aHk:Tab:=cJ [(106,aIH)] t82
theorem aDW:aHk.Ok Tryz.prog:=aR aFH ⟨aLd,trivial⟩
def aEo:Ar (Geo.aH×Unit):=aCl 106 (ac aPR a0)
def aEn:Ar (Geo.aH×Unit):=aCl 109 (ac aPR a0)
def aEe:Con:=con (ac (aL .V) (a1 aEo)) (fun(l,c)=>[l.length<=1000000,c.1.length<=1000000]) (fun(l,c)=> .int .i64 (fI (fgn c.1) l))
theorem aJj:aEe.Ok Tryz.prog 157:=bF (bP aDW) (raw:=bR) (fun(l,c)=>[cnt 2 8 l.length (bE fun j=>fgn c.1 (nth l j)=false)]
  ) (fun(_,_)=>⟨_,rfl⟩) fun(l,c) hp=>bQ (q:=(0=(0:Int)/\(0:Nat)<=l.length/\bE (fun j=>fgn c.1 (nth l j)=false) 0)/\
 (∀x:Nat,x<=l.length/\bE (fun j=>fgn c.1 (nth l j)=false) x->((x:Int)<l.length->ix (x:Int) l.length/\c.1.length<=1000000/\(fgn c.1 (nth l x)=true->(x:Int)=fI (fgn c.1) l)/\
   (fgn c.1 (nth l x)=false->aK ((x:Int)+1)/\(x:Int)+1=((x+1:Nat):Int)/\x+1<=l.length/\bE (fun j=>fgn c.1 (nth l j)=false) (x+1)/\l.length-(x+1)<l.length-x))/\
  (¬(x:Int)<l.length-> -1=fI (fgn c.1) l))) (by kernel_rfl) (by
  change l.length<=1000000/\c.1.length<=1000000 at hp
  repeat' first|with_reducible apply And.intro|with_reducible intro
  all_goals repeat with_reducible cases‹_/\_›
  all_goals first|assumption|rfl|exact trivial|exact nb ‹_› |exact nb' ‹_› |omega|exact dU (by omega)|(unfold ix;omega)|(unfold aK;omega)|exact bW _|exact aO ‹_› ‹_› |(refine aO ‹_› ?_;simp_all;done)|exact vQ (t:= .V) (by omega) ‹_› ‹_› |(obtain rfl:_=l.length:=Nat.le_antisymm ‹_› (by omega);exact uP (t:= .V) ‹_›)|exact aO ‹_› ‹_› |grind)
def aDo:Tab:=cJ [(157,aEe)] aHk
theorem Zh:aDo.Ok Tryz.prog:=aR aDW ⟨aJj,trivial⟩
def aHC:Con:=con (ac (aL .V) (a1 aEo)) (fun(l,c)=>[l.length<=1000000,c.1.length<=1000000]) (fun(l,c)=> .bool (l.any (fgn c.1))
 )
theorem aJ9:aHC.Ok Tryz.prog 84:=bF (bP Zh) (raw:=bR) (fun(_,_)=>[]) (fun(_,_)=>⟨_,rfl⟩) fun(l,c) hp=>bQ (q:=l.length<=1000000/\c.fst.length<=1000000/\decide (0<=fI (fgn c.fst) l)=List.any l (fgn c.1)) (by kernel_rfl) (by
 change l.length<=1000000/\c.1.length<=1000000 at hp;exact⟨hp.1,hp.2,xL _ _⟩)
def aFF:Tab:=cJ [(84,aHC)] aDo
theorem aCQ:aFF.Ok Tryz.prog:=aR Zh ⟨aJ9,trivial⟩
def aIE:Con:=con (ac (aL .V) (a1 aPR)) (fun(o,r)=>[ROk r,ROk o]) (fun(o,r)=> .bool (Geo.cO r o)
 )
theorem aLa:aIE.Ok Tryz.prog 109:=bF (bP aCQ) (raw:=bR) (fun(_,_)=>[]) (fun(_,_)=>⟨_,rfl⟩) fun(o,r) hp=>bQ (q:=ROk r/\ROk o/\Geo.cO r o=Geo.cO r o) (by kernel_rfl) (by
 change ROk r/\ROk o at hp;exact⟨hp.1,hp.2,rfl⟩)
def aHj:Tab:=cJ [(109,aIE)] aFF
theorem aDV:aHj.Ok Tryz.prog:=aR aCQ ⟨aLa,trivial⟩
def aIc:Con:=con (ac (aL .R) (a1 aEn)) (fun(l,c)=>[l.length<=1000000,ROk c.1,(∀o∈l,ROk o)]) (fun(l,c)=> .int .i64 (fI (Geo.cO c.1) l))
theorem aKI:aIc.Ok Tryz.prog 159:=bF (bP aDV) (raw:=bR) (fun(l,c)=>[cnt 2 8 l.length (bE fun j=>Geo.cO c.1 (aB l j)=false)]
  ) (fun(_,_)=>⟨_,rfl⟩) fun(l,c) hp=>bQ (q:=(0=(0:Int)/\(0:Nat)<=l.length/\bE (fun j=>Geo.cO c.1 (aB l j)=false) 0)/\
 (∀x:Nat,x<=l.length/\bE (fun j=>Geo.cO c.1 (aB l j)=false) x->((x:Int)<l.length->ix (x:Int) l.length/\ROk c.1/\ROk (aB l x)/\(Geo.cO c.1 (aB l x)=true->(x:Int)=fI (Geo.cO c.1) l)/\
   (Geo.cO c.1 (aB l x)=false->aK ((x:Int)+1)/\(x:Int)+1=((x+1:Nat):Int)/\x+1<=l.length/\bE (fun j=>Geo.cO c.1 (aB l j)=false) (x+1)/\l.length-(x+1)<l.length-x))/\
  (¬(x:Int)<l.length-> -1=fI (Geo.cO c.1) l))) (by kernel_rfl) (by
  change l.length<=1000000/\ROk c.1/\((∀o∈l,ROk o))at hp;have hm:∀x:Nat,(x:Int)<l.length->ROk (aB l x):=fun x h=>hp.2.2 _ (Geo.eI (by omega))
  repeat' first|with_reducible apply And.intro|with_reducible intro
  all_goals repeat with_reducible cases‹_/\_›
  all_goals first|assumption|rfl|exact trivial|exact nb ‹_› |exact nb' ‹_› |omega|exact dU (by omega)|(unfold ix;omega)|(unfold aK;omega)|exact bW _|exact aO ‹_› ‹_› |(refine aO ‹_› ?_;simp_all;done)|exact hm _ ‹_› |exact vQ (t:= .R) (by omega) ‹_› ‹_› |(obtain rfl:_=l.length:=Nat.le_antisymm ‹_› (by omega);exact uP (t:= .R) ‹_›)|grind)
def aGI:Tab:=cJ [(159,aIc)] aHj
theorem aDm:aGI.Ok Tryz.prog:=aR aDV ⟨aKI,trivial⟩
def c86:Con:=con (ac (aL .R) (a1 aEn)) (fun(l,c)=>[l.length<=1000000,ROk c.1,(∀o∈l,ROk o)]) (fun(l,c)=> .bool (l.any (Geo.cO c.1))
 )
theorem k86:c86.Ok Tryz.prog 86:=bF (bP aDm) (raw:=bR) (fun(_,_)=>[]) (fun(_,_)=>⟨_,rfl⟩) fun(l,c) hp=>bQ (q:=l.length<=1000000/\ROk c.fst/\(∀o:Geo.aH,o∈l->ROk o)/\decide (0<=fI (Geo.cO c.fst) l)=List.any l (Geo.cO c.1)) (by kernel_rfl) (by
 change l.length<=1000000/\ROk c.1/\((∀o∈l,ROk o))at hp;exact⟨hp.1,hp.2.1,hp.2.2,xL _ _⟩)
def t86:Tab:=cJ [(86,c86)] aGI
theorem aFD:t86.Ok Tryz.prog:=aR aDm ⟨k86,trivial⟩
end
end Go.Proofs.YtdaeofhdgabhjaaGreat
namespace Go.Proofs.YtdaeofhdgabhjaaGreat
open Go.RowKit
set_option maxRecDepth 100000
noncomputable section
open Geo (bX nth aB)
theorem aAm{s:Geo.Shape}(h:Geo.VS s):∀e∈bX s,Geo.bG e.a 10000=true/\Geo.bG e.b 10000=true:=by
 intro e he;unfold bX at he;obtain⟨r,hr,her⟩:=List.mem_flatMap.1 he;exact aAn (h.ring hr) her
def ccA(s:Geo.Shape)(r:Geo.aH):Bool:=(!Geo.cM r||(r.any (fgn (vOf s))|| !Geo.iI s r))
def ccB(l:List Geo.aH)(i:Nat):Bool:=(l.take i).any (Geo.cO (aB l i))
def cc(s:Geo.Shape)(l:List Geo.aH)(i:Nat):Prop:=ccA s (aB l i)=false/\ccB l i=false
def arS(l:List Geo.aH)(k:Nat):Int:=((l.take k).map Geo.eL).sum
def jX(s:Geo.Shape)(l:List Geo.aH):Bool:=Geo.aM s&&((List.range l.length).all fun i=> !ccA s (aB l i)&& !ccB l i)&&decide (arS l l.length=mX s)
theorem Nb{l:List Geo.aH}{x:Nat}(h:x<l.length):arS l x+Geo.eL (aB l x)=arS l (x+1):=by
 unfold arS;rw[List.take_succ_eq_append_getElem (by omega),List.map_append,List.sum_append,lZ (by omega)];simp
theorem Mw{s:Geo.Shape}{r:Geo.aH}(h:ccA s r=false):Geo.cM r=true:=by
 unfold ccA at h;cases e:Geo.cM r with
 |true=>rfl
 |false=>rw[e]at h;simp at h
theorem Xc{r:Geo.aH}(h:Geo.cM r=true):Geo.near r=true:=by
 have:=(Geo.CR.of h).near;unfold Geo.near;exact List.all_eq_true.2 this
theorem aAi{l:List Geo.aH}(hl:∀x:Nat,x<l.length->(aB l x).length<=1000):∀x:Nat,x<=l.length->(∀j,j<x->Geo.near (aB l j)=true)-> -(40000000000*(x:Int))<=arS l x/\arS l x<=40000000000*(x:Int)
 |0,_,_=>by unfold arS;simp
 |x+1,h,hn=>by
  have h1:=aAi hl x (by omega) fun j hj=>hn j (by omega)
  have h2:=Kv (hn x (by omega)) (aB l x).length (Nat.le_refl _)
  have h3:=hl x (by omega)
  have e:ar (aB l x) (aB l x).length=Geo.eL (aB l x):=rfl;rw[<-Nb (show x<l.length by omega)]
  rw[e]at h2;omega
def c43:Con:=con (ac aSh (a1 (aL .R))) (fun(s,l)=>[Fit s,l.length<=1000,(∀r∈l,r.length<=1000)]) (fun(s,l)=> .bool (jX s l))
set_option maxHeartbeats 2000000 in
theorem k43:c43.Ok Tryz.prog 43:=bF (bP aFD) (raw:=bR) (fun(s,l)=>[lp 6 22 l.length (fun k=>[bE (cc s l) k]) [] (fun k=>[(7,.int .i64 (arS l k))]) (fun _=>[]) fun k=>[jb 10 41 (ccA s (aB l k)),lp 14 49 (aB l k).length (fun _=>[]) [] (fun j=>[(7,.int .i64 (arS l k+ar (aB l k) j))]) (fun _=>[])]]
  ) (fun(_,_)=>⟨_,rfl⟩) fun(s,l) hp=>bQ (q:=Fit s/\(¬eOf s=0->false=jX s l)/\
 (¬(¬eOf s=0)->(0=(0:Int)/\0=arS l 0/\(0:Nat)<=l.length/\bE (cc s l) 0)/\
  (∀x:Nat,x<=l.length/\bE (cc s l) x->((x:Int)<l.length->ix (x:Int) l.length/\((aB l x).length<=1000/\((!Geo.cM (aB l x))=true->true=ccA s (aB l x))/\
     ((!Geo.cM (aB l x))=false->(aB l x).length<=1000000/\(vOf s).length<=1000000/\(List.any (aB l x) (fgn (vOf s))=true->true=ccA s (aB l x))/\
      (List.any (aB l x) (fgn (vOf s))=false->Fit s/\ROk (aB l x)/\(bX s).length<=1000000/\(∀e:Geo.S,e∈bX s->Geo.bG e.a 10000=true/\Geo.bG e.b 10000=true)/\(!Geo.iI s (aB l x))=ccA s (aB l x))))/\
    (∀y:Unit,(ccA s (aB l x)=true->false=jX s l)/\
     (ccA s (aB l x)=false->(0<=(x:Int)/\(x:Int)<=l.length)/\(List.take x l).length<=1000000/\ROk (aB l x)/\(∀o:Geo.aH,o∈List.take x l->ROk o)/\(List.any (List.take x l) (Geo.cO (aB l x))=true->false=jX s l)/\
      (List.any (List.take x l) (Geo.cO (aB l x))=false->(0=(0:Int)/\arS l x=arS l x+ar (aB l x) 0/\(0:Nat)<=(aB l x).length)/\
       (∀x_1:Nat,x_1<=(aB l x).length->((x_1:Int)<(aB l x).length->ix (x_1:Int) (aB l x).length/\aK ((x_1:Int)+1)/\((aB l x).length:Int)≠0/\ix (((x_1+1) % (aB l x).length:Nat):Int) (aB l x).length/\cOK (nth (aB l x) x_1) (nth (aB l x) ((x_1+1) % (aB l x).length))/\aK (arS l x+ar (aB l x) x_1+Geo.cross (nth (aB l x) x_1) (nth (aB l x) ((x_1+1) % (aB l x).length)))/\aK ((x_1:Int)+1)/\(x_1:Int)+1=((x_1+1:Nat):Int)/\arS l x+ar (aB l x) x_1+Geo.cross (nth (aB l x) x_1) (nth (aB l x) ((x_1+1) % (aB l x).length))=arS l x+ar (aB l x) (x_1+1)/\x_1+1<=(aB l x).length/\(aB l x).length-(x_1+1)<(aB l x).length-x_1)/\
        (¬(x_1:Int)<(aB l x).length->aK ((x:Int)+1)/\(x:Int)+1=((x+1:Nat):Int)/\arS l x+ar (aB l x) x_1=arS l (x+1)/\x+1<=l.length/\bE (cc s l) (x+1)/\l.length-(x+1)<l.length-x))))))/\
   (¬(x:Int)<l.length->Fit s/\decide (arS l x=(if Geo.aM s=true then mX s else 0))=jX s l)))) (by kernel_rfl) (by
  change Fit s/\l.length<=1000/\((∀r∈l,r.length<=1000))at hp;obtain⟨hf,hl,hr⟩:=hp;have R:¬¬eOf s=0->Geo.fK s=true:=fun h=>Uf h
  have hvP:¬¬eOf s=0->Geo.aM s=true:=fun h=>by rw[Geo.jE];exact R h
  have V:¬¬eOf s=0->Geo.VS s:=fun h=>vsR (R h)
  have hv:=xF s;have hvl:(vOf s).length<=1000000:=by omega
  have he:¬¬eOf s=0->(bX s).length<=1000000:=fun h=>by have:=zB (V h);omega
  have hw:¬¬eOf s=0->∀e∈bX s,Geo.bG e.a 10000=true/\Geo.bG e.b 10000=true:=fun h=>aAm (V h)
  have hr:∀x:Nat,(x:Int)<l.length->(aB l x).length<=1000:=fun x h=>hr _ (Geo.eI (by omega))
  have hr6:∀x:Nat,(x:Int)<l.length->(aB l x).length<=1000000:=fun x h=>by have:=hr x h;omega
  have c0:¬eOf s=0->false=jX s l:=fun h=>by
   unfold jX;rw[Geo.jE];cases e:Geo.fK s with
   |false=>rfl
   |true=>exact absurd (by unfold eOf;rw[e];rfl) h
  have a1:∀x:Nat,(!Geo.cM (aB l x))=true->true=ccA s (aB l x):=fun x h=>by unfold ccA;rw[h];rfl
  have a3:∀x:Nat,List.any (aB l x) (fgn (vOf s))=true->true=ccA s (aB l x):=fun x h=>by unfold ccA;rw[h];simp
  have a4:∀x:Nat,(!Geo.cM (aB l x))=false->List.any (aB l x) (fgn (vOf s))=false->(!Geo.iI s (aB l x))=ccA s (aB l x):=fun x h2 h3=>by
   unfold ccA;rw[h2,h3];rfl
  have tO:∀x:Nat,(!Geo.cM (aB l x))=false->(x:Int)<l.length->ROk (aB l x):=fun x h h2=>xI (nb h) (hr x h2)
  have tO2:∀x:Nat,ccA s (aB l x)=false->(x:Int)<l.length->ROk (aB l x):=fun x h h2=>xI (Mw h) (hr x h2)
  have tO3:∀x:Nat,x<=l.length->bE (cc s l) x->∀o∈List.take x l,ROk o:=fun x hx h o ho=>by
   obtain⟨j,hj,rfl⟩:=List.getElem_of_mem ho;rw[List.length_take]at hj;rw[List.getElem_take,<-lZ (by omega)]
   exact tO2 j (h j (by omega)).1 (by omega)
  have tl:∀x:Nat,(List.take x l).length<=1000000:=fun x=>by rw[List.length_take];omega
  have no:∀x:Nat,(ccA s (aB l x)=true\/List.any (List.take x l) (Geo.cO (aB l x))=true)->(x:Int)<l.length->false=jX s l:=fun x h2 h=>by
   unfold jX;rw[show((List.range l.length).all fun i=> !ccA s (aB l i)&& !ccB l i)=false from List.all_eq_false.2 ⟨x,List.mem_range.2 (by omega),by
    rcases h2 with h2|h2
    ·rw[h2];simp
    ·rw[show ccB l x=true from h2];simp⟩]
   simp
  have nr:∀x:Nat,ccA s (aB l x)=false->Geo.near (aB l x)=true:=fun x h=>Xc (Mw h)
  have b0:∀x i:Nat,ccA s (aB l x)=false->(i:Int)<(aB l x).length->cOK (nth (aB l x) i) (nth (aB l x) ((i+1) % (aB l x).length)):=fun x i h h2=>by
   have h0:=mA (nr x h) (i:=i) (by omega) (M:=2000000000)
   have h1:=mA (nr x h) (i:=(i+1) % (aB l x).length) (Nat.mod_lt _ (by omega)) (M:=2000000000)
   have:=gT h0 h1;unfold cOK;omega
  have x1:∀x i:Nat,(i:Int)<(aB l x).length->ix (((i+1) % (aB l x).length:Nat):Int) (aB l x).length:=fun x i h=>eC (Nat.mod_lt _ (by omega))
  have bS:∀x:Nat,bE (cc s l) x->x<=l.length-> -(40000000000*(x:Int))<=arS l x/\arS l x<=40000000000*(x:Int):=fun x h hx=>aAi (fun y hy=>hr y (by omega)) x hx fun j hj=>nr j (h j hj).1
  have sS:∀x i:Nat,arS l x+ar (aB l x) i+Geo.cross (nth (aB l x) i) (nth (aB l x) ((i+1) % (aB l x).length))=arS l x+ar (aB l x) (i+1):=fun x i=>by rw[Jg];omega
  have wS:∀x i:Nat,bE (cc s l) x->x<=l.length->ccA s (aB l x)=false->(x:Int)<l.length->(i:Int)<(aB l x).length->aK (arS l x+ar (aB l x) i+Geo.cross (nth (aB l x) i) (nth (aB l x) ((i+1) % (aB l x).length))):=fun x i h hx h2 h3 h4=>by
   rw[sS];have h5:=bS x h hx;have h6:=Kv (nr x h2) (i+1) (by omega)
   have h7:=hr x h3;exact cW (by omega)
  have w1:∀x i:Nat,(i:Int)<(aB l x).length->(x:Int)<l.length->aK ((i:Int)+1):=fun x i h h2=>cW (by have:=hr x h2;omega)
  have z0:arS l 0=0:=rfl;have z1:∀x,ar (aB l x) 0=0:=fun x=>rfl
  have z2:∀x,arS l x=arS l x+ar (aB l x) 0:=fun x=>by rw[z1];omega
  have sE:∀x i:Nat,(x:Int)<l.length->¬(i:Int)<(aB l x).length->i<=(aB l x).length->arS l x+ar (aB l x) i=arS l (x+1):=fun x i h h2 h3=>by
   obtain rfl:i=(aB l x).length:=by omega
   rw[<-Nb (show x<l.length by omega)];rfl
  have st:∀x:Nat,bE (cc s l) x->ccA s (aB l x)=false->List.any (List.take x l) (Geo.cO (aB l x))=false->bE (cc s l) (x+1):=fun x h h1 h2=>aO h ⟨h1,h2⟩
  have yE:¬¬eOf s=0->∀x:Nat,bE (cc s l) x->¬(x:Int)<l.length->x<=l.length->decide (arS l x=(if Geo.aM s=true then mX s else 0))=jX s l:=fun h x h3 h1 h2=>by
   obtain rfl:x=l.length:=by omega
   unfold jX;rw[if_pos (hvP h),hvP h,show((List.range l.length).all fun i=> !ccA s (aB l i)&& !ccB l i)=true from List.all_eq_true.2 fun i hi=>by
    obtain⟨g1,g2⟩:=h3 i (List.mem_range.1 hi);rw[g1,g2];rfl]
   simp
  clear V nr bS hvP R
  repeat' first|with_reducible apply And.intro|with_reducible intro
  all_goals repeat with_reducible cases‹_/\bE _ _›
  all_goals first|assumption|with_reducible rfl|(with_reducible exact c0 ‹_›)|(with_reducible exact he ‹_›)|(with_reducible exact(hw ‹_› _ ‹_›).1)|(with_reducible exact(hw ‹_› _ ‹_›).2)|(with_reducible exact hr _ ‹_›)|(with_reducible exact hr6 _ ‹_›)|(with_reducible exact a1 _ ‹_›)|(with_reducible exact a3 _ ‹_›)|(with_reducible exact a4 _ ‹_› ‹_›)|(with_reducible exact tO _ ‹_› ‹_›)|(with_reducible exact tO2 _ ‹_› ‹_›)|(with_reducible exact tO3 _ ‹_› ‹_› _ ‹_›)|(with_reducible exact tl _)|(with_reducible exact no _ (.inl ‹_›) ‹_›)|(with_reducible exact no _ (.inr ‹_›) ‹_›)|with_reducible exact b0 _ _ ‹_› ‹_› |with_reducible exact x1 _ _ ‹_› |with_reducible exact wS _ _ ‹_› ‹_› ‹_› ‹_› ‹_› |with_reducible exact w1 _ _ ‹_› ‹_› |with_reducible exact sS _ _|with_reducible exact z2 _|exact z0.symm|with_reducible exact sE _ _ ‹_› ‹_› ‹_› |with_reducible exact st _ ‹_› ‹_› ‹_› |(with_reducible exact yE ‹_› _ ‹_› ‹_› ‹_›)|exact bW _|omega|(unfold ix;omega)|(unfold aK;omega)|rfl)
def t43:Tab:=cJ [(43,c43)] t86
theorem aFX:t43.Ok Tryz.prog:=aR aFD ⟨k43,trivial⟩
def mmC(r o:Geo.aH):Bool:=Geo.cM r&&(Geo.cM o&&Geo.cO r o)
def mmR(a b:List Geo.aH)(i:Nat):Bool:=b.any fun o=>mmC (aB a i) o
def c46:Con:=con (ac (aL .R) (a1 (aL .R))) (fun(a,b)=>[a.length<=1000,(∀r∈a,r.length<=1000),b.length<=1000,(∀r∈b,r.length<=1000)]) (fun(a,b)=> .bool (Geo.bH a b))
theorem k46:c46.Ok Tryz.prog 46:=bF (bP aFX) (raw:=bR) (fun(a,b)=>[lp 2 11 a.length (fun i=>[bE (fun i=>mmR a b i=false) i]) [] (fun _=>[]) (fun _=>[]) fun i=>[cnt 5 17 b.length (bE fun k=>mmC (aB a i) (aB b k)=false) fun k=>[jb 8 31 (mmC (aB a i) (aB b k))]]]
  ) (fun(_,_)=>⟨_,rfl⟩) fun(a,b) hp=>bQ (q:=(0=(0:Int)/\(0:Nat)<=a.length/\bE (fun i=>mmR a b i=false) 0)/\
 (∀x:Nat,x<=a.length/\bE (fun i=>mmR a b i=false) x->((x:Int)<a.length->ix (x:Int) a.length/\(0=(0:Int)/\(0:Nat)<=b.length/\bE (fun k=>mmC (aB a x) (aB b k)=false) 0)/\
   (∀x_1:Nat,x_1<=b.length/\bE (fun k=>mmC (aB a x) (aB b k)=false) x_1->((x_1:Int)<b.length->ix (x_1:Int) b.length/\((aB a x).length<=1000/\(Geo.cM (aB a x)=true->(aB b x_1).length<=1000/\(Geo.cM (aB b x_1)=true->ROk (aB a x)/\ROk (aB b x_1)/\Geo.cO (aB a x) (aB b x_1)=mmC (aB a x) (aB b x_1))/\
       (Geo.cM (aB b x_1)=false->false=mmC (aB a x) (aB b x_1)))/\
      (Geo.cM (aB a x)=false->false=mmC (aB a x) (aB b x_1)))/\
     (∀y:Unit,(mmC (aB a x) (aB b x_1)=true->true=Geo.bH a b)/\
      (mmC (aB a x) (aB b x_1)=false->aK ((x_1:Int)+1)/\(x_1:Int)+1=((x_1+1:Nat):Int)/\x_1+1<=b.length/\bE (fun k=>mmC (aB a x) (aB b k)=false) (x_1+1)/\b.length-(x_1+1)<b.length-x_1)))/\
    (¬(x_1:Int)<b.length->aK ((x:Int)+1)/\(x:Int)+1=((x+1:Nat):Int)/\x+1<=a.length/\bE (fun i=>mmR a b i=false) (x+1)/\a.length-(x+1)<a.length-x)))/\
  (¬(x:Int)<a.length->false=Geo.bH a b))) (by kernel_rfl) (by
  change a.length<=1000/\((∀r∈a,r.length<=1000))/\b.length<=1000/\((∀r∈b,r.length<=1000))at hp;obtain⟨hla,ha,hlb,hb⟩:=hp;have la:∀x:Nat,(x:Int)<a.length->(aB a x).length<=1000:=fun x h=>ha _ (Geo.eI (by omega))
  have lb:∀x:Nat,(x:Int)<b.length->(aB b x).length<=1000:=fun x h=>hb _ (Geo.eI (by omega))
  have oa:∀x:Nat,Geo.cM (aB a x)=true->(x:Int)<a.length->ROk (aB a x):=fun x h h2=>xI h (la x h2)
  have ob:∀x:Nat,Geo.cM (aB b x)=true->(x:Int)<b.length->ROk (aB b x):=fun x h h2=>xI h (lb x h2)
  have m1:∀r o:Geo.aH,Geo.cM r=true->Geo.cM o=true->Geo.cO r o=mmC r o:=fun r o h1 h2=>by unfold mmC;rw[h1,h2];rfl
  have m2:∀r o:Geo.aH,Geo.cM o=false->false=mmC r o:=fun r o h=>by unfold mmC;rw[h];simp
  have m3:∀r o:Geo.aH,Geo.cM r=false->false=mmC r o:=fun r o h=>by unfold mmC;rw[h];rfl
  have m4:∀r o:Geo.aH,Geo.cM r=true->Geo.cM o=true->(!Geo.fD r o)=mmC r o:=fun r o h1 h2=>by rw[<-m1 r o h1 h2,Geo.rQ (Geo.CR.of h1) (Geo.CR.of h2)]
  have v9:∀r:Geo.aH,∀v,v∈r->Geo.cM r=true->bd 1000000000 v:=fun r v hv h=>(mK ((Geo.CR.of h).near v hv)).mono
  have yes:∀x y:Nat,mmC (aB a x) (aB b y)=true->(x:Int)<a.length->(y:Int)<b.length->true=Geo.bH a b:=fun x y h h1 h2=>
   (List.any_eq_true.2 ⟨_,Geo.eI (show x<a.length by omega),List.any_eq_true.2 ⟨_,Geo.eI (show y<b.length by omega),h⟩⟩).symm
  have st:∀x y:Nat,bE (fun k=>mmC (aB a x) (aB b k)=false) y->¬(y:Int)<b.length->y<=b.length->mmR a b x=false:=fun x y h h1 h2=>by
   obtain rfl:y=b.length:=by omega
   exact Bm (t:= .R) (l:=b) (q:=fun o=>mmC (aB a x) o) h
  have fin:∀x:Nat,bE (fun i=>mmR a b i=false) x->¬(x:Int)<a.length->x<=a.length->false=Geo.bH a b:=fun x h h1 h2=>by
   obtain rfl:x=a.length:=by omega
   exact(Bm (t:= .R) (l:=a) (q:=fun r=>b.any fun o=>Geo.cM r&&(Geo.cM o&&Geo.cO r o)) h).symm
  repeat' first|with_reducible apply And.intro|with_reducible intro
  all_goals repeat with_reducible cases‹_/\_›
  all_goals first|with_reducible assumption|with_reducible rfl|with_reducible exact la _ ‹_› |with_reducible exact lb _ ‹_› |with_reducible exact oa _ ‹_› ‹_› |with_reducible exact ob _ ‹_› ‹_› |with_reducible exact m1 _ _ ‹_› ‹_› |with_reducible exact m2 _ _ ‹_› |with_reducible exact m3 _ _ ‹_› |with_reducible exact m4 _ _ ‹_› ‹_› |with_reducible exact v9 _ _ ‹_› ‹_› |with_reducible exact yes _ _ ‹_› ‹_› ‹_› |with_reducible exact fin _ ‹_› ‹_› ‹_› |exact bW _|exact aO ‹_› (st _ _ ‹_› ‹_› ‹_›)|exact aO ‹_› ‹_› |omega|(unfold ix;omega)|(unfold aK;omega))
def t46:Tab:=cJ [(46,c46)] t43
theorem aFU:t46.Ok Tryz.prog:=aR aFX ⟨k46,trivial⟩
def c45:Con:=con (ac (aL .R) (a1 (aL .R))) (fun(a,b)=>[a.length<=1000,(∀r∈a,r.length<=1000),b.length<=1000,(∀r∈b,r.length<=1000)]) (fun(a,b)=> .bool (Geo.bH a b))
theorem k45:c45.Ok Tryz.prog 45:=bF (bP aFU) (raw:=bR) (fun(a,b)=>[lp 2 5 a.length (fun i=>[bE (fun i=>mmR a b i=false) i]) [] (fun _=>[]) (fun _=>[]) fun i=>[cnt 5 6 b.length (bE fun k=>mmC (aB a i) (aB b k)=false) fun k=>[jb 8 42 (mmC (aB a i) (aB b k))]]]
  ) (fun(_,_)=>⟨_,rfl⟩) fun(a,b) hp=>bQ (q:=(0=(0:Int)/\(0:Nat)<=a.length/\bE (fun i=>mmR a b i=false) 0)/\
 (∀x:Nat,x<=a.length/\bE (fun i=>mmR a b i=false) x->((x:Int)<a.length->(0=(0:Int)/\(0:Nat)<=b.length/\bE (fun k=>mmC (aB a x) (aB b k)=false) 0)/\
   (∀x_1:Nat,x_1<=b.length/\bE (fun k=>mmC (aB a x) (aB b k)=false) x_1->((x_1:Int)<b.length->(ix (x:Int) a.length/\(aB a x).length<=1000/\(Geo.cM (aB a x)=true->ix (x_1:Int) b.length/\(aB b x_1).length<=1000/\(Geo.cM (aB b x_1)=true->ix (x:Int) a.length/\ix (x_1:Int) b.length/\(aB a x).length<=1000/\(aB b x_1).length<=1000/\(∀v:Geo.V,v∈aB a x->bd 1000000000 v)/\(∀v:Geo.V,v∈aB b x_1->bd 1000000000 v)/\(!Geo.fD (aB a x) (aB b x_1))=mmC (aB a x) (aB b x_1))/\
       (Geo.cM (aB b x_1)=false->false=mmC (aB a x) (aB b x_1)))/\
      (Geo.cM (aB a x)=false->false=mmC (aB a x) (aB b x_1)))/\
     (∀y:Unit,(mmC (aB a x) (aB b x_1)=true->true=Geo.bH a b)/\
      (mmC (aB a x) (aB b x_1)=false->aK ((x_1:Int)+1)/\(x_1:Int)+1=((x_1+1:Nat):Int)/\x_1+1<=b.length/\bE (fun k=>mmC (aB a x) (aB b k)=false) (x_1+1)/\b.length-(x_1+1)<b.length-x_1)))/\
    (¬(x_1:Int)<b.length->aK ((x:Int)+1)/\(x:Int)+1=((x+1:Nat):Int)/\x+1<=a.length/\bE (fun i=>mmR a b i=false) (x+1)/\a.length-(x+1)<a.length-x)))/\
  (¬(x:Int)<a.length->false=Geo.bH a b))) (by kernel_rfl) (by
  change a.length<=1000/\((∀r∈a,r.length<=1000))/\b.length<=1000/\((∀r∈b,r.length<=1000))at hp;obtain⟨hla,ha,hlb,hb⟩:=hp;have la:∀x:Nat,(x:Int)<a.length->(aB a x).length<=1000:=fun x h=>ha _ (Geo.eI (by omega))
  have lb:∀x:Nat,(x:Int)<b.length->(aB b x).length<=1000:=fun x h=>hb _ (Geo.eI (by omega))
  have oa:∀x:Nat,Geo.cM (aB a x)=true->(x:Int)<a.length->ROk (aB a x):=fun x h h2=>xI h (la x h2)
  have ob:∀x:Nat,Geo.cM (aB b x)=true->(x:Int)<b.length->ROk (aB b x):=fun x h h2=>xI h (lb x h2)
  have m1:∀r o:Geo.aH,Geo.cM r=true->Geo.cM o=true->Geo.cO r o=mmC r o:=fun r o h1 h2=>by unfold mmC;rw[h1,h2];rfl
  have m2:∀r o:Geo.aH,Geo.cM o=false->false=mmC r o:=fun r o h=>by unfold mmC;rw[h];simp
  have m3:∀r o:Geo.aH,Geo.cM r=false->false=mmC r o:=fun r o h=>by unfold mmC;rw[h];rfl
  have m4:∀r o:Geo.aH,Geo.cM r=true->Geo.cM o=true->(!Geo.fD r o)=mmC r o:=fun r o h1 h2=>by rw[<-m1 r o h1 h2,Geo.rQ (Geo.CR.of h1) (Geo.CR.of h2)]
  have v9:∀r:Geo.aH,∀v,v∈r->Geo.cM r=true->bd 1000000000 v:=fun r v hv h=>(mK ((Geo.CR.of h).near v hv)).mono
  have yes:∀x y:Nat,mmC (aB a x) (aB b y)=true->(x:Int)<a.length->(y:Int)<b.length->true=Geo.bH a b:=fun x y h h1 h2=>
   (List.any_eq_true.2 ⟨_,Geo.eI (show x<a.length by omega),List.any_eq_true.2 ⟨_,Geo.eI (show y<b.length by omega),h⟩⟩).symm
  have st:∀x y:Nat,bE (fun k=>mmC (aB a x) (aB b k)=false) y->¬(y:Int)<b.length->y<=b.length->mmR a b x=false:=fun x y h h1 h2=>by
   obtain rfl:y=b.length:=by omega
   exact Bm (t:= .R) (l:=b) (q:=fun o=>mmC (aB a x) o) h
  have fin:∀x:Nat,bE (fun i=>mmR a b i=false) x->¬(x:Int)<a.length->x<=a.length->false=Geo.bH a b:=fun x h h1 h2=>by
   obtain rfl:x=a.length:=by omega
   exact(Bm (t:= .R) (l:=a) (q:=fun r=>b.any fun o=>Geo.cM r&&(Geo.cM o&&Geo.cO r o)) h).symm
  repeat' first|with_reducible apply And.intro|with_reducible intro
  all_goals repeat with_reducible cases‹_/\_›
  all_goals first|with_reducible assumption|with_reducible rfl|with_reducible exact la _ ‹_› |with_reducible exact lb _ ‹_› |with_reducible exact oa _ ‹_› ‹_› |with_reducible exact ob _ ‹_› ‹_› |with_reducible exact m1 _ _ ‹_› ‹_› |with_reducible exact m2 _ _ ‹_› |with_reducible exact m3 _ _ ‹_› |with_reducible exact m4 _ _ ‹_› ‹_› |with_reducible exact v9 _ _ ‹_› ‹_› |with_reducible exact yes _ _ ‹_› ‹_› ‹_› |with_reducible exact fin _ ‹_› ‹_› ‹_› |exact bW _|exact aO ‹_› (st _ _ ‹_› ‹_› ‹_›)|exact aO ‹_› ‹_› |omega|(unfold ix;omega)|(unfold aK;omega))
def t45:Tab:=cJ [(45,c45)] t46
theorem aFV:t45.Ok Tryz.prog:=aR aFU ⟨k45,trivial⟩
def rfP(k:Nat)(r:Geo.aH)(i:Nat):Bool:=(decide (k=0)&&decide (Geo.cP (nth r ((i+r.length-1) % r.length)) (nth r i) (nth r ((i+1) % r.length))<0))||(decide (0<k)&&decide (0<Geo.cP (nth r ((i+r.length-1) % r.length)) (nth r i) (nth r ((i+1) % r.length))))
def rfR(k:Nat)(r:Geo.aH)(i:Nat):Nat:=((List.range i).filter (rfP k r)).length
def rfS(R:List Geo.aH):Nat->Nat
 |0=>0
 |k+1=>rfS R k+rfR k (aB R k) (aB R k).length
def Hh(s:Geo.Shape):Nat:=if Geo.aM s=true then rfS (Geo.aA s) (Geo.aA s).length else 0
def c53:Con:=con (a1 aSh) (fun s=>[Fit s]) (fun s=> .int .i64 (Hh s:Nat))
theorem k53:c53.Ok Tryz.prog 53:=bF (bP aFV) (raw:=bR) (fun s=>[lp 5 15 (Geo.aA s).length (fun _=>[]) [] (fun k=>[(3,.int .i64 (rfS (Geo.aA s) k:Nat))]) (fun _=>[]) fun k=>[lp 8 22 (aB (Geo.aA s) k).length (fun _=>[]) [] (fun i=>[(3,.int .i64 (rfS (Geo.aA s) k+rfR k (aB (Geo.aA s) k) i:Nat))]) (fun _=>[]) fun i=>[jb 12 61 (rfP k (aB (Geo.aA s) k) i),jU 13 [(3,.int .i64 (rfS (Geo.aA s) k+rfR k (aB (Geo.aA s) k) (i+1):Nat))]]]]
  ) (fun _=>⟨_,rfl⟩) fun s hp=>bQ (q:=Fit s/\((!Geo.aM s)=true->0=(Hh s:Int))/\
 ((!Geo.aM s)=false->Fit s/\(0:Nat)<s.outer.length/\(∀r:Geo.aH,r∈s.holes->(0:Nat)<r.length)/\(0=(0:Int)/\0=(rfS (Geo.aA s) 0:Int)/\(0:Nat)<=(Geo.aA s).length)/\
  (∀x:Nat,x<=(Geo.aA s).length->((x:Int)<(Geo.aA s).length->ix (x:Int) (Geo.aA s).length/\(0=(0:Int)/\(rfS (Geo.aA s) x:Int)=((rfS (Geo.aA s) x+rfR x (aB (Geo.aA s) x) 0:Nat):Int)/\(0:Nat)<=(aB (Geo.aA s) x).length)/\
    (∀x_1:Nat,x_1<=(aB (Geo.aA s) x).length->((x_1:Int)<(aB (Geo.aA s) x).length->(ix (x_1:Int) (aB (Geo.aA s) x).length/\aK ((x_1:Int)+(aB (Geo.aA s) x).length)/\aK ((x_1:Int)+(aB (Geo.aA s) x).length-1)/\((aB (Geo.aA s) x).length:Int)≠0/\ix (Int.tmod ((x_1:Int)+(aB (Geo.aA s) x).length-1) ((aB (Geo.aA s) x).length:Int)) (aB (Geo.aA s) x).length/\aK ((x_1:Int)+1)/\((aB (Geo.aA s) x).length:Int)≠0/\ix (((x_1+1) % (aB (Geo.aA s) x).length:Nat):Int) (aB (Geo.aA s) x).length/\bd 1000000000 (nth (aB (Geo.aA s) x) (Int.tmod ((x_1:Int)+(aB (Geo.aA s) x).length-1) ((aB (Geo.aA s) x).length:Int)).toNat)/\bd 1000000000 (nth (aB (Geo.aA s) x) x_1)/\bd 1000000000 (nth (aB (Geo.aA s) x) ((x_1+1) % (aB (Geo.aA s) x).length))/\(((x:Int)=0->(Geo.cP (nth (aB (Geo.aA s) x) (Int.tmod ((x_1:Int)+(aB (Geo.aA s) x).length-1) ((aB (Geo.aA s) x).length:Int)).toNat) (nth (aB (Geo.aA s) x) x_1) (nth (aB (Geo.aA s) x) ((x_1+1) % (aB (Geo.aA s) x).length))<0->true=rfP x (aB (Geo.aA s) x) x_1)/\
         (¬Geo.cP (nth (aB (Geo.aA s) x) (Int.tmod ((x_1:Int)+(aB (Geo.aA s) x).length-1) ((aB (Geo.aA s) x).length:Int)).toNat) (nth (aB (Geo.aA s) x) x_1) (nth (aB (Geo.aA s) x) ((x_1+1) % (aB (Geo.aA s) x).length))<0->(0<(x:Int)->decide (0<Geo.cP (nth (aB (Geo.aA s) x) (Int.tmod ((x_1:Int)+(aB (Geo.aA s) x).length-1) ((aB (Geo.aA s) x).length:Int)).toNat) (nth (aB (Geo.aA s) x) x_1) (nth (aB (Geo.aA s) x) ((x_1+1) % (aB (Geo.aA s) x).length)))=rfP x (aB (Geo.aA s) x) x_1)/\
          (¬0<(x:Int)->false=rfP x (aB (Geo.aA s) x) x_1)))/\
        (¬(x:Int)=0->(0<(x:Int)->decide (0<Geo.cP (nth (aB (Geo.aA s) x) (Int.tmod ((x_1:Int)+(aB (Geo.aA s) x).length-1) ((aB (Geo.aA s) x).length:Int)).toNat) (nth (aB (Geo.aA s) x) x_1) (nth (aB (Geo.aA s) x) ((x_1+1) % (aB (Geo.aA s) x).length)))=rfP x (aB (Geo.aA s) x) x_1)/\
         (¬0<(x:Int)->false=rfP x (aB (Geo.aA s) x) x_1)))/\
       (∀y:Unit,(rfP x (aB (Geo.aA s) x) x_1=true->aK (((rfS (Geo.aA s) x+rfR x (aB (Geo.aA s) x) x_1:Nat):Int)+1)/\((rfS (Geo.aA s) x+rfR x (aB (Geo.aA s) x) x_1:Nat):Int)+1=((rfS (Geo.aA s) x+rfR x (aB (Geo.aA s) x) (x_1+1):Nat):Int))/\
        (rfP x (aB (Geo.aA s) x) x_1=false->((rfS (Geo.aA s) x+rfR x (aB (Geo.aA s) x) x_1:Nat):Int)=((rfS (Geo.aA s) x+rfR x (aB (Geo.aA s) x) (x_1+1):Nat):Int))))/\
      (∀y:Unit,aK ((x_1:Int)+1)/\(x_1:Int)+1=((x_1+1:Nat):Int)/\((rfS (Geo.aA s) x+rfR x (aB (Geo.aA s) x) (x_1+1):Nat):Int)=((rfS (Geo.aA s) x+rfR x (aB (Geo.aA s) x) (x_1+1):Nat):Int)/\x_1+1<=(aB (Geo.aA s) x).length/\(aB (Geo.aA s) x).length-(x_1+1)<(aB (Geo.aA s) x).length-x_1))/\
     (¬(x_1:Int)<(aB (Geo.aA s) x).length->aK ((x:Int)+1)/\(x:Int)+1=((x+1:Nat):Int)/\((rfS (Geo.aA s) x+rfR x (aB (Geo.aA s) x) x_1:Nat):Int)=rfS (Geo.aA s) (x+1)/\x+1<=(Geo.aA s).length/\(Geo.aA s).length-(x+1)<(Geo.aA s).length-x)))/\
   (¬(x:Int)<(Geo.aA s).length->(rfS (Geo.aA s) x:Int)=Hh s)))) (by kernel_rfl) (by
  change Fit s at hp;have V:(!Geo.aM s)=false->Geo.VS s:=fun h=>(Geo.gX s).1 (nb h)
  have lR:(Geo.aA s).length<=2000:=by have:=hp.2.1;unfold Geo.aA;rw[List.length_cons];omega
  have e0:(!Geo.aM s)=true->0=(Hh s:Int):=fun h=>by unfold Hh;rw[nb' h];rfl
  have o1:(!Geo.aM s)=false->0<s.outer.length:=fun h=>by have:=(V h).outer.three;omega
  have o2:(!Geo.aM s)=false->∀r∈s.holes,0<r.length:=fun h r hr=>by
   have:=((V h).ring (show r∈Geo.aA s from List.mem_cons_of_mem _ hr)).three;omega
  have rg:(!Geo.aM s)=false->∀x:Nat,(x:Int)<(Geo.aA s).length->Geo.VR (aB (Geo.aA s) x):=fun h x hx=>(V h).ring (Geo.eI (by omega))
  have l40:(!Geo.aM s)=false->∀x:Nat,(x:Int)<(Geo.aA s).length->(aB (Geo.aA s) x).length<=40:=fun h x hx=>(rg h x hx).most
  have tm:∀x i:Nat,(i:Int)<(aB (Geo.aA s) x).length->Int.tmod ((i:Int)+(aB (Geo.aA s) x).length-1) ((aB (Geo.aA s) x).length:Int)=(((i+(aB (Geo.aA s) x).length-1) % (aB (Geo.aA s) x).length:Nat):Int):=fun x i h=>by
   rw[show(i:Int)+(aB (Geo.aA s) x).length-1=((i+(aB (Geo.aA s) x).length-1:Nat):Int) by omega,Int.tmod_eq_emod_of_nonneg (by omega)];rfl
  have x1:∀x i:Nat,(i:Int)<(aB (Geo.aA s) x).length->ix (Int.tmod ((i:Int)+(aB (Geo.aA s) x).length-1) ((aB (Geo.aA s) x).length:Int)) (aB (Geo.aA s) x).length:=fun x i h=>by rw[tm x i h];exact eC (Nat.mod_lt _ (by omega))
  have x2:∀x i:Nat,(i:Int)<(aB (Geo.aA s) x).length->ix (((i+1) % (aB (Geo.aA s) x).length:Nat):Int) (aB (Geo.aA s) x).length:=fun x i h=>eC (Nat.mod_lt _ (by omega))
  have bN:(!Geo.aM s)=false->∀x:Nat,(x:Int)<(Geo.aA s).length->∀i:Nat,i<(aB (Geo.aA s) x).length->bd 1000000000 (nth (aB (Geo.aA s) x) i):=fun h x hx i hi=>mA (rg h x hx).near hi (by decide)
  have b1:(!Geo.aM s)=false->∀x i:Nat,(i:Int)<(aB (Geo.aA s) x).length->(x:Int)<(Geo.aA s).length->bd 1000000000 (nth (aB (Geo.aA s) x) (Int.tmod ((i:Int)+(aB (Geo.aA s) x).length-1) ((aB (Geo.aA s) x).length:Int)).toNat):=fun h x i hi hx=>by rw[tm x i hi,Int.toNat_natCast];exact bN h x hx _ (Nat.mod_lt _ (by omega))
  have b2:(!Geo.aM s)=false->∀x i:Nat,(i:Int)<(aB (Geo.aA s) x).length->(x:Int)<(Geo.aA s).length->bd 1000000000 (nth (aB (Geo.aA s) x) i):=fun h x i hi hx=>bN h x hx i (by omega)
  have b3:(!Geo.aM s)=false->∀x i:Nat,(i:Int)<(aB (Geo.aA s) x).length->(x:Int)<(Geo.aA s).length->bd 1000000000 (nth (aB (Geo.aA s) x) ((i+1) % (aB (Geo.aA s) x).length)):=fun h x i hi hx=>bN h x hx _ (Nat.mod_lt _ (by omega))
  have p1:∀x i:Nat,(i:Int)<(aB (Geo.aA s) x).length->(x:Int)=0->Geo.cP (nth (aB (Geo.aA s) x) (Int.tmod ((i:Int)+(aB (Geo.aA s) x).length-1) ((aB (Geo.aA s) x).length:Int)).toNat) (nth (aB (Geo.aA s) x) i) (nth (aB (Geo.aA s) x) ((i+1) % (aB (Geo.aA s) x).length))<0->true=rfP x (aB (Geo.aA s) x) i:=fun x i h h2 h3=>by
   rw[tm x i h,Int.toNat_natCast]at h3;unfold rfP;rw[decide_eq_true (show x=0 by omega),decide_eq_true h3];rfl
  have p2:∀x i:Nat,(i:Int)<(aB (Geo.aA s) x).length->0<(x:Int)->decide (0<Geo.cP (nth (aB (Geo.aA s) x) (Int.tmod ((i:Int)+(aB (Geo.aA s) x).length-1) ((aB (Geo.aA s) x).length:Int)).toNat) (nth (aB (Geo.aA s) x) i) (nth (aB (Geo.aA s) x) ((i+1) % (aB (Geo.aA s) x).length)))=rfP x (aB (Geo.aA s) x) i:=fun x i h h2=>by
   rw[tm x i h,Int.toNat_natCast];unfold rfP;rw[decide_eq_false (show¬x=0 by omega),decide_eq_true (show 0<x by omega)];simp
  have p3:∀x i:Nat,(i:Int)<(aB (Geo.aA s) x).length->¬Geo.cP (nth (aB (Geo.aA s) x) (Int.tmod ((i:Int)+(aB (Geo.aA s) x).length-1) ((aB (Geo.aA s) x).length:Int)).toNat) (nth (aB (Geo.aA s) x) i) (nth (aB (Geo.aA s) x) ((i+1) % (aB (Geo.aA s) x).length))<0->¬0<(x:Int)->false=rfP x (aB (Geo.aA s) x) i:=fun x i h h3 h2=>by
   rw[tm x i h,Int.toNat_natCast]at h3;unfold rfP;rw[decide_eq_false h3,decide_eq_false (show¬0<x by omega)];simp
  have p4:∀x i:Nat,¬(x:Int)=0->¬0<(x:Int)->false=rfP x (aB (Geo.aA s) x) i:=fun x i h h2=>by omega
  have q1:∀x i:Nat,rfP x (aB (Geo.aA s) x) i=true->rfR x (aB (Geo.aA s) x) (i+1)=rfR x (aB (Geo.aA s) x) i+1:=fun x i h=>by
   unfold rfR;rw[List.range_succ,List.filter_append,List.filter_cons_of_pos h,List.length_append];rfl
  have q2:∀x i:Nat,rfP x (aB (Geo.aA s) x) i=false->rfR x (aB (Geo.aA s) x) (i+1)=rfR x (aB (Geo.aA s) x) i:=fun x i h=>by
   unfold rfR;rw[List.range_succ,List.filter_append,List.filter_cons_of_neg (by rw[h];simp)];simp
  have q3:∀x i:Nat,rfR x (aB (Geo.aA s) x) i<=i:=fun x i=>by
   have:=List.length_filter_le (rfP x (aB (Geo.aA s) x)) (List.range i);rw[List.length_range]at this;exact this
  have q4:(!Geo.aM s)=false->∀x:Nat,x<=(Geo.aA s).length->rfS (Geo.aA s) x<=40*x:=fun h x=>by
   induction x with
   |zero=>intro _;exact Nat.le_refl _
   |succ x ih=>
    intro hx;have h1:=ih (by omega)
    have h2:=q3 x (aB (Geo.aA s) x).length;have h3:=l40 h x (by omega)
    show rfS (Geo.aA s) x+rfR x (aB (Geo.aA s) x) (aB (Geo.aA s) x).length<=_;omega
  have w1:(!Geo.aM s)=false->∀x i:Nat,(i:Int)<(aB (Geo.aA s) x).length->(x:Int)<(Geo.aA s).length->aK (((rfS (Geo.aA s) x+rfR x (aB (Geo.aA s) x) i:Nat):Int)+1):=fun h x i hi hx=>by
   have h1:=q4 h x (by omega)
   have h2:=q3 x i;have h3:=l40 h x hx;exact cW (by omega)
  have w2:(!Geo.aM s)=false->∀x i:Nat,(i:Int)<(aB (Geo.aA s) x).length->(x:Int)<(Geo.aA s).length->aK ((i:Int)+(aB (Geo.aA s) x).length)/\aK ((i:Int)+(aB (Geo.aA s) x).length-1)/\aK ((i:Int)+1):=fun h x i hi hx=>by
   have h3:=l40 h x hx;exact⟨cW (by omega),cW (by omega),cW (by omega)⟩
  have w3:∀x:Nat,(x:Int)<(Geo.aA s).length->aK ((x:Int)+1):=fun x hx=>cW (by omega)
  have s1:∀x i:Nat,rfP x (aB (Geo.aA s) x) i=true->((rfS (Geo.aA s) x+rfR x (aB (Geo.aA s) x) i:Nat):Int)+1=((rfS (Geo.aA s) x+rfR x (aB (Geo.aA s) x) (i+1):Nat):Int):=fun x i h=>by rw[q1 x i h];omega
  have s2:∀x i:Nat,rfP x (aB (Geo.aA s) x) i=false->((rfS (Geo.aA s) x+rfR x (aB (Geo.aA s) x) i:Nat):Int)=((rfS (Geo.aA s) x+rfR x (aB (Geo.aA s) x) (i+1):Nat):Int):=fun x i h=>by rw[q2 x i h]
  have s3:∀x i:Nat,¬(i:Int)<(aB (Geo.aA s) x).length->i<=(aB (Geo.aA s) x).length->((rfS (Geo.aA s) x+rfR x (aB (Geo.aA s) x) i:Nat):Int)=rfS (Geo.aA s) (x+1):=fun x i h h2=>by
   obtain rfl:i=(aB (Geo.aA s) x).length:=by omega
   rfl
  have s4:(!Geo.aM s)=false->∀x:Nat,¬(x:Int)<(Geo.aA s).length->x<=(Geo.aA s).length->(rfS (Geo.aA s) x:Int)=Hh s:=fun h x h1 h2=>by
   obtain rfl:x=(Geo.aA s).length:=by omega
   unfold Hh;rw[nb h,if_pos rfl]
  have s5:∀x:Nat,(rfS (Geo.aA s) x:Int)=((rfS (Geo.aA s) x+rfR x (aB (Geo.aA s) x) 0:Nat):Int):=fun x=>rfl
  clear V rg bN tm q1 q2 q3 q4
  repeat' first|with_reducible apply And.intro|with_reducible intro
  all_goals repeat with_reducible cases‹_/\_›
  all_goals first|with_reducible assumption|with_reducible rfl|with_reducible exact e0 ‹_› |with_reducible exact o1 ‹_› |with_reducible exact o2 ‹_› _ ‹_› |with_reducible exact x1 _ _ ‹_› |with_reducible exact x2 _ _ ‹_› |with_reducible exact b1 ‹_› _ _ ‹_› ‹_› |with_reducible exact b2 ‹_› _ _ ‹_› ‹_› |with_reducible exact b3 ‹_› _ _ ‹_› ‹_› |with_reducible exact p1 _ _ ‹_› ‹_› ‹_› |with_reducible exact p2 _ _ ‹_› ‹_› |with_reducible exact p3 _ _ ‹_› ‹_› ‹_› |with_reducible exact p4 _ _ ‹_› ‹_› |with_reducible exact w1 ‹_› _ _ ‹_› ‹_› |with_reducible exact(w2 ‹_› _ _ ‹_› ‹_›).1|with_reducible exact(w2 ‹_› _ _ ‹_› ‹_›).2.1|with_reducible exact(w2 ‹_› _ _ ‹_› ‹_›).2.2|with_reducible exact w3 _ ‹_› |with_reducible exact s1 _ _ ‹_› |with_reducible exact s2 _ _ ‹_› |with_reducible exact s3 _ _ ‹_› ‹_› |with_reducible exact s4 ‹_› _ ‹_› ‹_› |with_reducible exact s5 _|omega|(unfold ix;omega)|(unfold aK;omega)|rfl)
def t53:Tab:=cJ [(53,c53)] t45
theorem aJQ:t53.Ok Tryz.prog:=aR aFV ⟨k53,trivial⟩
end
end Go.Proofs.YtdaeofhdgabhjaaGreat
namespace Go.Proofs.YtdaeofhdgabhjaaGreat
open Go.RowKit
set_option maxRecDepth 100000
noncomputable section
def t95:Tab:=t53
theorem aJA:t95.Ok Tryz.prog:=aJQ
def t44:Tab:=t95
theorem aFW:t44.Ok Tryz.prog:=aJA
def jR(l:List Geo.aH):Bool:=(l.all fun r=>decide (r.length<=60))&&decide (l.length<=25)
def c42:Con:=con (a1 (aL .R)) (fun l=>[Ap l]) (fun l=> .bool (jR l))
theorem k42:c42.Ok Tryz.prog 42:=bF (bP aFW) (raw:=bR) (fun l=>[cnt 2 6 l.length (bE fun j=>(Geo.aB l j).length<=60)]
  ) (fun _=>⟨_,rfl⟩) fun l hp=>bQ (q:=(0=(0:Int)/\(0:Nat)<=l.length/\bE (fun j=>(Geo.aB l j).length<=60) 0)/\
 (∀x:Nat,x<=l.length/\bE (fun j=>(Geo.aB l j).length<=60) x->((x:Int)<l.length->ix (x:Int) l.length/\(60<((Geo.aB l x).length:Int)->false=jR l)/\
   (¬60<((Geo.aB l x).length:Int)->aK ((x:Int)+1)/\(x:Int)+1=((x+1:Nat):Int)/\x+1<=l.length/\bE (fun j=>(Geo.aB l j).length<=60) (x+1)/\l.length-(x+1)<l.length-x))/\
  (¬(x:Int)<l.length->decide ((l.length:Int)<=25)=jR l))) (by kernel_rfl) (by
  change Ap l at hp;have bad:∀x:Nat,60<((Geo.aB l x).length:Int)->(x:Int)<l.length->false=jR l:=fun x h h2=>by
   unfold jR;rw[List.all_eq_false.2 ⟨_,Geo.eI (show x<l.length by omega),by rw[decide_eq_false (by omega)];simp⟩];rfl
  have fin:∀x:Nat,bE (fun j=>(Geo.aB l j).length<=60) x->¬(x:Int)<l.length->x<=l.length->decide ((l.length:Int)<=25)=jR l:=fun x h h1 h2=>by
   unfold jR;rw[List.all_eq_true.2 fun r hr=> ?_,Bool.true_and]
   ·exact decide_eq_decide.2 (by omega)
   ·obtain⟨j,hj,rfl⟩:=Geo.wD hr;exact decide_eq_true (h j (by omega))
  have hl:=hp.1
  repeat' first|with_reducible apply And.intro|with_reducible intro
  all_goals repeat with_reducible cases‹_/\_›
  all_goals first|with_reducible assumption|with_reducible rfl|with_reducible exact bad _ ‹_› ‹_› |with_reducible exact fin _ ‹_› ‹_› ‹_› |exact bW _|exact aO ‹_› (by omega)|omega|(unfold ix;omega)|(unfold aK;omega))
def t42:Tab:=cJ [(42,c42)] t44
theorem aFY:t42.Ok Tryz.prog:=aR aFW ⟨k42,trivial⟩
def sqR:Geo.aH:=[⟨0,0⟩,⟨3,0⟩,⟨3,3⟩,⟨0,3⟩]
def awR:Geo.aH:=[⟨0,0⟩,⟨2,1⟩,⟨4,0⟩,⟨2,4⟩]
instance(lt:Int->Int->Bool)(l:List Int):Decidable (OrdOn lt l):=decidable_of_iff ((∀x∈l,∀y∈l,∀z∈l,lt x y=true->lt y z=true->lt x z=true)/\(∀x∈l,∀y∈l,lt x y=true->lt y x=false)/\(∀x∈l,∀y∈l,lt x y=false->lt y x=false->x=y)) ⟨fun h=>⟨h.1,h.2.1,h.2.2⟩,fun h=>⟨h.1,h.2,h.3⟩⟩
instance(v:List Geo.V)(L:List (List Int))(i j:Nat):Decidable (ArOk v L i j):=decidable_of_iff (i<L.length/\(j:Int)∈cV L i/\(∀x∈cV L i,0<=x/\x.toNat<v.length)/\(cV L i).length<=1000000) ⟨fun h=>⟨h.1,h.2.1,h.2.2.1,h.2.2.2⟩,fun h=>⟨h.1,h.2,h.3,h.4⟩⟩
instance(s:Geo.Shape):Decidable (GOk s):=inferInstanceAs (Decidable (∀k,k<(vOf s).length->0<(cV (oD s) k).length/\(∀x∈cV (oD s) k,0<=x/\x.toNat<(vOf s).length)/\OrdOn (ltA (vOf s) k) (cV (oD s) k)))
instance(s:Geo.Shape):Decidable (SOk s):=inferInstanceAs (Decidable (∀k,k<(pG s).length->ArOk (vOf s) (sG s k).1 (aY (pG s) k).1 (aY (pG s) k).2/\ArOk (vOf s) (sG s k).1 (aY (pG s) k).2 (aY (pG s) k).1/\(aY (pG s) k).2≠(aY (pG s) k).1))
def PcB(s:Geo.Shape):Prop:=(∀i,i<(soG s).length->∀x∈cV (soG s) i,ArOk (vOf s) (soG s) i x.toNat/\ArOk (vOf s) (soG s) x.toNat i)/\(∀h∈hsG s,ArOk (vOf s) (soG s) h.2 h.1)/\(∀i,i<(vOf s).length->0<=gH (nG s) i)/\
 ∀k,k<(hsG s).length->0<(trc (vOf s) (soG s) (trU (vOf s)) (pcK s k).1 (aY (hsG s) k) []).2.length->(trc (vOf s) (soG s) (trU (vOf s)) (pcK s k).1 (aY (hsG s) k) []).2.length<=1000/\0<(dZ (trc (vOf s) (soG s) (trU (vOf s)) (pcK s k).1 (aY (hsG s) k) []).2).length
theorem PcB.ok{s:Geo.Shape}(h:PcB s):Ow s:=by
 refine⟨fun i j hj=> ?_,h.2⟩
 have hi:i<(soG s).length:=by
  rcases Nat.lt_or_ge i (soG s).length with h1|h1
  ·exact h1
  ·unfold cV at hj;rw[List.getD_eq_getElem?_getD,List.getElem?_eq_none h1]at hj;cases hj
 have:=h.1 i hi _ hj;rw[Int.toNat_natCast]at this;exact this
instance(s:Geo.Shape):Decidable (PcB s):=by unfold PcB;infer_instance
def sqS:Geo.Shape:=⟨sqR,[]⟩
def awS:Geo.Shape:=⟨awR,[]⟩
theorem Yh:GOk sqS/\SOk sqS/\PcB sqS:=by decide+kernel
theorem Zc:GOk awS/\SOk awS/\PcB awS:=by decide+kernel
theorem aDY:Geo.aM sqS=true/\pcG sqS=[sqR] :=by decide+kernel
theorem aEk:Geo.aM awS=true/\pcG awS=[[⟨0,0⟩,⟨2,1⟩,⟨2,4⟩],[⟨4,0⟩,⟨2,4⟩,⟨2,1⟩]] :=by decide+kernel
theorem Zd:jX awS [[⟨0,0⟩,⟨2,1⟩,⟨2,4⟩],[⟨4,0⟩,⟨2,4⟩,⟨2,1⟩]] =true/\Geo.bH [sqR] [[⟨0,0⟩,⟨2,1⟩,⟨2,4⟩],[⟨4,0⟩,⟨2,4⟩,⟨2,1⟩]] =true/\Hh awS=1:=by decide+kernel
theorem aE4:Fit sqS:=⟨by decide,by decide,fun r h=>(List.not_mem_nil h).elim⟩
theorem Ps:Fit awS:=⟨by decide,by decide,fun r h=>(List.not_mem_nil h).elim⟩
theorem aJa:eV sqS=0:=by unfold eV;rw[aDY.1];rfl
theorem aJt:eV awS=0:=by unfold eV;rw[aEk.1];rfl
def c41:Con:=con (a0) (fun _=>[]) (fun _=> .bool true)
theorem k41:c41.Ok Tryz.prog 41:=bF (bP aFY) (raw:=bR) (fun _=>[(10002,.mk Unit (fun _ _=>some ()) [] (fun _=>[]) (fun _=>[(1,.lst .V sqR)]) (fun _=>[]) (fun _=>0) (fun _=>[])),(10003,.mk Unit (fun _ _=>some ()) [7] (fun _=>[]) (fun _=>[(2,.ptr 7 0)]) (fun _=>[(7,.box 26 [.lst .V awR,.nil])]) (fun _=>0) (fun _=>[]))]
  ) (fun _=>⟨_,rfl⟩) fun _ _=>bQ (q:=[(⟨0,0⟩:Geo.V),(⟨3,0⟩:Geo.V),(⟨3,3⟩:Geo.V),(⟨0,3⟩:Geo.V)] =sqR/\
 (∀y:Unit,[(⟨0,0⟩:Geo.V),(⟨2,1⟩:Geo.V),(⟨4,0⟩:Geo.V),(⟨2,4⟩:Geo.V)] =awR/\
  (∀y_1:Unit,Fit (⟨sqR,([] :List (List Geo.V))⟩:Geo.Shape)/\(Geo.aM (⟨sqR,([] :List (List Geo.V))⟩:Geo.Shape)=true->GOk (⟨sqR,([] :List (List Geo.V))⟩:Geo.Shape)/\SOk (⟨sqR,([] :List (List Geo.V))⟩:Geo.Shape)/\Ow (⟨sqR,([] :List (List Geo.V))⟩:Geo.Shape))/\Fit (⟨awR,([] :List (List Geo.V))⟩:Geo.Shape)/\(Geo.aM (⟨awR,([] :List (List Geo.V))⟩:Geo.Shape)=true->GOk (⟨awR,([] :List (List Geo.V))⟩:Geo.Shape)/\SOk (⟨awR,([] :List (List Geo.V))⟩:Geo.Shape)/\Ow (⟨awR,([] :List (List Geo.V))⟩:Geo.Shape))/\(eV (⟨sqR,([] :List (List Geo.V))⟩:Geo.Shape)=0->(eV (⟨awR,([] :List (List Geo.V))⟩:Geo.Shape)=0->(pcG (⟨sqR,([] :List (List Geo.V))⟩:Geo.Shape)).length<=1000000/\(∀r:Geo.aH,r∈pcG (⟨sqR,([] :List (List Geo.V))⟩:Geo.Shape)->r.length<=100000)/\((pcG (⟨sqR,([] :List (List Geo.V))⟩:Geo.Shape)==[sqR])=true->(((pcG (⟨awR,([] :List (List Geo.V))⟩:Geo.Shape)).length:Int)=2->Fit (⟨awR,([] :List (List Geo.V))⟩:Geo.Shape)/\(pcG (⟨awR,([] :List (List Geo.V))⟩:Geo.Shape)).length<=1000/\(∀r:Geo.aH,r∈pcG (⟨awR,([] :List (List Geo.V))⟩:Geo.Shape)->r.length<=1000)/\(jX (⟨awR,([] :List (List Geo.V))⟩:Geo.Shape) (pcG (⟨awR,([] :List (List Geo.V))⟩:Geo.Shape))=true->(pcG (⟨sqR,([] :List (List Geo.V))⟩:Geo.Shape)).length<=1000/\(∀r:Geo.aH,r∈pcG (⟨sqR,([] :List (List Geo.V))⟩:Geo.Shape)->r.length<=1000)/\(pcG (⟨awR,([] :List (List Geo.V))⟩:Geo.Shape)).length<=1000/\(∀r:Geo.aH,r∈pcG (⟨awR,([] :List (List Geo.V))⟩:Geo.Shape)->r.length<=1000)/\(Geo.bH (pcG (⟨sqR,([] :List (List Geo.V))⟩:Geo.Shape)) (pcG (⟨awR,([] :List (List Geo.V))⟩:Geo.Shape))=true->Fit (⟨awR,([] :List (List Geo.V))⟩:Geo.Shape)/\decide ((Hh (⟨awR,([] :List (List Geo.V))⟩:Geo.Shape):Int)=1)=true)/\
        (Geo.bH (pcG (⟨sqR,([] :List (List Geo.V))⟩:Geo.Shape)) (pcG (⟨awR,([] :List (List Geo.V))⟩:Geo.Shape))=false->false=true))/\
       (jX (⟨awR,([] :List (List Geo.V))⟩:Geo.Shape) (pcG (⟨awR,([] :List (List Geo.V))⟩:Geo.Shape))=false->false=true))/\
      (¬((pcG (⟨awR,([] :List (List Geo.V))⟩:Geo.Shape)).length:Int)=2->false=true))/\
     ((pcG (⟨sqR,([] :List (List Geo.V))⟩:Geo.Shape)==[sqR])=false->false=true))/\
    (¬eV (⟨awR,([] :List (List Geo.V))⟩:Geo.Shape)=0->false=true))/\
   (¬eV (⟨sqR,([] :List (List Geo.V))⟩:Geo.Shape)=0->false=true)))) (by kernel_rfl) (by
  rw[show(⟨sqR,([] :List (List Geo.V))⟩:Geo.Shape)=sqS from rfl,show(⟨awR,([] :List (List Geo.V))⟩:Geo.Shape)=awS from rfl,aJa,aJt,aDY.2,aEk.2,Zd.1,Zd.2.1,Zd.2.2]
  have lo:∀n:Nat,4<=n->∀r∈([[⟨0,0⟩,⟨2,1⟩,⟨2,4⟩],[⟨4,0⟩,⟨2,4⟩,⟨2,1⟩]] :List Geo.aH),r.length<=n:=fun n hn r hr=>by
   simp only[List.mem_cons,List.not_mem_nil,or_false]at hr;rcases hr with rfl|rfl<;>simp<;>omega
  have lq:∀n:Nat,4<=n->∀r∈[sqR],r.length<=n:=fun n hn r hr=>by
   rw[List.mem_singleton.1 hr];exact hn
  refine⟨rfl,fun _=>⟨rfl,fun _=>⟨aE4,fun _=>⟨Yh.1,Yh.2.1,Yh.2.2.ok⟩,Ps,fun _=>⟨Zc.1,Zc.2.1,Zc.2.2.ok⟩,⟨fun _=>⟨fun _=>⟨by decide,lq _ (by decide),⟨fun _=>⟨fun _=>⟨Ps,by decide,lo _ (by decide),⟨fun _=>⟨by decide,lq _ (by decide),by decide,lo _ (by decide),⟨fun _=>⟨Ps,by decide⟩,fun h=>(by cases h)⟩⟩,fun h=>(by cases h)⟩⟩,fun h=>absurd (by decide) h⟩,fun h=>absurd h (by decide)⟩⟩,fun h=>absurd rfl h⟩,fun h=>absurd rfl h⟩⟩⟩⟩)
def t41:Tab:=cJ [(41,c41)] t42
theorem aJS:t41.Ok Tryz.prog:=aR aFY ⟨k41,trivial⟩
end
end Go.Proofs.YtdaeofhdgabhjaaGreat
