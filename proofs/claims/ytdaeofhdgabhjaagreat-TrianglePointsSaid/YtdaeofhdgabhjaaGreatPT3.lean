/- What the statements about triangulations stand on: contracts of functions, plain laws. Part 3 of 5, no condition of its own. (K2 K3 K4 K5 K6 K7 K8 K9 K10 J1 K11 K12 E16 J2 J3 J4 J5 J6 J7) -/
import Derived.Test.YtdaeofhdgabhjaaGreatPT2
import Derived.Lib.AppendZerosOnto
import Derived.OrdersIn
import Derived.RangeFuncCalls
import Derived.TacticsIn
import Derived.RangeFuncNested
import Derived.RangeFuncBound
import Derived.RangeFuncLeaves
import Derived.RangeFuncFrom
import Derived.Shelf.Abstract
import Derived.OwnWalkIn
import Derived.TacticsInMore
import Derived.LoopNIn
import Derived.LoopIn
import Derived.Lib.SliceRun
import Derived.Deep.DeepCutAuto
namespace Go.Proofs.YtdaeofhdgabhjaaGreat
open Go.RowKit
set_option maxRecDepth 100000
noncomputable section
open Geo (nth)
def eg(r:Geo.aC)(k:Nat):List Geo.S:=(List.range k).map (Geo.cO r)
theorem aEP(r:Geo.aC)(k:Nat):eg r k++[(⟨nth r k,nth r ((k+1) % r.length)⟩:Geo.S)] =eg r (k+1):=by
 unfold eg;rw[List.range_succ,List.map_append];rfl
theorem aIf(r:Geo.aC)(k:Nat):(eg r k).length=k:=by unfold eg;simp
def ar(r:Geo.aC)(k:Nat):Int:=((List.range k).map fun i=>Geo.cross (nth r i) (Geo.nxt r i)).sum
theorem Mq(r:Geo.aC)(k:Nat):ar r (k+1)=ar r k+Geo.cross (nth r k) (nth r ((k+1) % r.length)):=by
 unfold ar;rw[List.range_succ,List.map_append,List.sum_append];simp[Geo.nxt]
theorem qM{r:Geo.aC}(h:Geo.near r=true){i:Nat}(hi:i<r.length){M:Int}(hM:2000<=M:=by decide):bd M (nth r i):=rJ (Geo.rR h i hi) hM
theorem aEv{r:Geo.aC}{i:Nat}(hi:i<r.length)(h:(!Geo.aJ (nth r i) 2000)=true):Geo.near r=false:=by
 cases hn:Geo.near r with
 |false=>rfl
 |true=>have:=Geo.rR hn i hi;rw[this]at h;cases h
theorem aCz{r:Geo.aC}(h:bH (fun i=>Geo.aJ (nth r i) 2000=true) r.length):Geo.near r=true:=by
 unfold Geo.near;rw[List.all_eq_true];intro v hv;obtain⟨j,hj,rfl⟩:=List.getElem_of_mem hv;rw[<-nth_eq hj];exact h j hj
theorem Wk{r:Geo.aC}(h:Geo.near r=true):∀k:Nat,k<=r.length-> -8000000*(k:Int)<=ar r k/\ar r k<=8000000*k
 |0,_=>by simp[ar]
 |k+1,hk=>by
  have ih:=Wk h k (by omega)
  have:=mR (qM h (i:=k) (by omega) (M:=2000)) (qM h (i:=(k+1) % r.length) (Nat.mod_lt _ (by omega)) (M:=2000))
  rw[Mq];unfold Geo.cross;omega
def aLV:Con:=con (a1 (aL .V)) (fun r=>[r.length<=100000]) (fun r=> .lst .S (Geo.edges r))
theorem aNR:aLV.Ok Tryz.prog 102:=aR (bO aJr) (raw:=bT) (fun r=>[lp 5 4 r.length (fun _=>[]) [900] (fun k=>[(3,.own 900 .S (eg r k).length)]) (fun k=>[(900,.row 46 .S (eg r k))])]
  ) (fun _=>⟨_,rfl⟩) fun r hp=>bP (q:=((r.length:Int)<2->Geo.edges r=([] :List Geo.S))/\
 (¬(r.length:Int)<2->(0=(0:Int)/\(eg r 0).length=0/\eg r 0=([] :List Geo.S)/\(0:Nat)<=r.length)/\
  (∀x:Nat,x<=r.length->((x:Int)<r.length->ix (x:Int) r.length/\aE ((x:Int)+1)/\(r.length:Int)≠0/\ix (((x+1) % r.length:Nat):Int) r.length/\(eg r x).length=(eg r x).length/\(eg r x).length+[(⟨(nth r x),(nth r ((x+1) % r.length))⟩:Geo.S)].length<=1000000/\aE ((x:Int)+1)/\(x:Int)+1=((x+1:Nat):Int)/\(eg r x++[(⟨(nth r x),(nth r ((x+1) % r.length))⟩:Geo.S)]).length=(eg r (x+1)).length/\eg r x++[(⟨(nth r x),(nth r ((x+1) % r.length))⟩:Geo.S)] =eg r (x+1)/\x+1<=r.length/\r.length-(x+1)<r.length-x)/\
   (¬(x:Int)<r.length->(eg r x).length=(eg r x).length/\eg r x=Geo.edges r)))) (by kernel_rfl) (by
  change r.length<=100000 at hp;have e0:eg r 0=[] :=rfl;have es:=aEP r;have el:=aIf r;have ee:Geo.edges r=if r.length<2 then []else eg r r.length:=rfl
  repeat' first|with_reducible apply And.intro|with_reducible intro
  all_goals repeat with_reducible cases‹_/\_›
  all_goals first|assumption|rfl|exact trivial|exact nb ‹_› |exact nb' ‹_› |omega|exact cV (by omega)|(unfold ix;omega)|(unfold aE;omega)|exact bG _|exact aA ‹_› ‹_› |(refine aA ‹_› ?_;simp_all;done)|grind)
def aKH:Tab:=cK [(102,aLV)] t32
theorem aG0:aKH.Ok Tryz.prog:=aH aJr ⟨aNR,trivial⟩
def aLn:Con:=con (a1 (aL .V)) (fun r=>[r.length<=100000]) (fun r=> .bool (Geo.near r))
theorem aNj:aLn.Ok Tryz.prog 160:=aR (bO aG0) (raw:=bT) (fun r=>[cnt 2 3 r.length (bH fun i=>Geo.aJ (nth r i) 2000=true)]
  ) (fun _=>⟨_,rfl⟩) fun r hp=>bP (q:=(0=(0:Int)/\(0:Nat)<=r.length/\bH (fun i=>Geo.aJ (nth r i) 2000=true) 0)/\
 (∀x:Nat,x<=r.length/\bH (fun i=>Geo.aJ (nth r i) 2000=true) x->((x:Int)<r.length->ix (x:Int) r.length/\(0:Int)<=2000/\(2000:Int)<=1000000000000/\((!Geo.aJ (nth r x) 2000)=true->false=Geo.near r)/\
   ((!Geo.aJ (nth r x) 2000)=false->aE ((x:Int)+1)/\(x:Int)+1=((x+1:Nat):Int)/\x+1<=r.length/\bH (fun i=>Geo.aJ (nth r i) 2000=true) (x+1)/\r.length-(x+1)<r.length-x))/\
  (¬(x:Int)<r.length->true=Geo.near r))) (by kernel_rfl) (by
  change r.length<=100000 at hp;have e1:= @aEv r;have e2:= @aCz r
  repeat' first|with_reducible apply And.intro|with_reducible intro
  all_goals repeat with_reducible cases‹_/\_›
  all_goals first|assumption|rfl|exact trivial|exact nb ‹_› |exact nb' ‹_› |omega|exact cV (by omega)|(unfold ix;omega)|(unfold aE;omega)|exact bG _|exact aA ‹_› ‹_› |(refine aA ‹_› ?_;simp_all;done)|exact(e2 (by rw[show r.length=_ from(by omega)];assumption)).symm|grind)
def aJ6:Tab:=cK [(160,aLn)] aKH
theorem aGq:aJ6.Ok Tryz.prog:=aH aG0 ⟨aNj,trivial⟩
def aLR:Con:=con (a1 (aL .V)) (fun r=>[Geo.near r=true,r.length<=100000]) (fun r=> .int .i64 (Geo.area r))
theorem aNN:aLR.Ok Tryz.prog 113:=aR (bO aGq) (raw:=bT) (fun r=>[lp 3 4 r.length (fun _=>[]) [] (fun k=>[(3,.int .i64 (ar r k))]) (fun _=>[])]
  ) (fun _=>⟨_,rfl⟩) fun r hp=>bP (q:=(0=(0:Int)/\0=ar r 0/\(0:Nat)<=r.length)/\
 (∀x:Nat,x<=r.length->((x:Int)<r.length->ix (x:Int) r.length/\aE ((x:Int)+1)/\(r.length:Int)≠0/\ix (((x+1) % r.length:Nat):Int) r.length/\bd 2000000000 (nth r x)/\bd 2000000000 (nth r ((x+1) % r.length))/\aE (ar r x+Geo.cross (nth r x) (nth r ((x+1) % r.length)))/\aE ((x:Int)+1)/\(x:Int)+1=((x+1:Nat):Int)/\ar r x+Geo.cross (nth r x) (nth r ((x+1) % r.length))=ar r (x+1)/\x+1<=r.length/\r.length-(x+1)<r.length-x)/\
  (¬(x:Int)<r.length->ar r x=Geo.area r))) (by kernel_rfl) (by
  change Geo.near r=true/\r.length<=100000 at hp;have e0:ar r r.length=Geo.area r:=rfl;have es:=Mq r;have eb:∀x,x<r.length->aE (ar r x+Geo.cross (nth r x) (nth r ((x+1) % r.length))):=fun x h=>by rw[<-es];exact eC (by have:=Wk hp.1 (x+1) (by omega);omega)
  have en:=fun i hi=> @qM r hp.1 i hi 2000000000
  repeat' first|with_reducible apply And.intro|with_reducible intro
  all_goals repeat with_reducible cases‹_/\_›
  all_goals first|assumption|rfl|exact trivial|exact nb ‹_› |exact nb' ‹_› |omega|exact cV (by omega)|(unfold ix;omega)|(unfold aE;omega)|exact bG _|exact aA ‹_› ‹_› |(refine aA ‹_› ?_;simp_all;done)|exact eb _ (by omega)|exact en _ (by omega) (by decide)|exact en _ (Nat.mod_lt _ (by omega)) (by decide)|(rw[es])|grind)
def aKD:Tab:=cK [(113,aLR)] aJ6
theorem aGV:aKD.Ok Tryz.prog:=aH aGq ⟨aNN,trivial⟩
def aK4:Con:=con (a1 aI) (fun n=>[-9000000000000000000<=n,n<=9000000000000000000]) (fun n=> .int .i64 (n.natAbs:Int)
 )
theorem aM0:aK4.Ok Tryz.prog 201:=aR (bO aGV) (raw:=bT) (fun _=>[]) (fun _=>⟨_,rfl⟩) fun n hp=>bP (q:=(0<=n->n=Int.natAbs n)/\
 (¬0<=n->aE (0-n)/\0-n=Int.natAbs n)) (by kernel_rfl) (by
  change-9000000000000000000<=n/\n<=9000000000000000000 at hp
  repeat' first|with_reducible apply And.intro|with_reducible intro
  all_goals repeat with_reducible cases‹_/\_›
  all_goals first|assumption|rfl|exact trivial|exact nb ‹_› |exact nb' ‹_› |omega|exact cV (by omega)|(unfold ix;omega)|(unfold aE;omega)|exact bG _|exact aA ‹_› ‹_› |(refine aA ‹_› ?_;simp_all;done)|grind)
def aJK:Tab:=cK [(201,aK4)] aKD
theorem aF7:aJK.Ok Tryz.prog:=aH aGV ⟨aM0,trivial⟩
def aK5:Con:=con (ac aI (a1 aI)) (fun(a,b)=>[0<=a,0<=b]) (fun(a,b)=> .int .i64 ((Nat.gcd a.natAbs b.natAbs:Nat):Int))
theorem aM1:aK5.Ok Tryz.prog 200:=aR (bO aF7) (raw:=bT) (fun(a,b)=>[(1,.mk (Int×Int) (fun F _=>aHu F 0 1) [] (fun p=>[0<=p.1,0<=p.2,Nat.gcd p.1.natAbs p.2.natAbs=Nat.gcd a.natAbs b.natAbs]) (fun p=>[(0,.int .i64 p.1),(1,.int .i64 p.2)]) (fun _=>[]) (fun p=>p.2.natAbs) (fun _=>[]))]
  ) (fun(_,_)=>⟨_,rfl⟩) fun(a,b) hp=>bP (q:=(a=a/\b=b/\0<=a/\0<=b/\Nat.gcd (Int.natAbs a) (Int.natAbs b)=Nat.gcd (Int.natAbs a) (Int.natAbs b))/\
 (∀x:Prod Int Int,0<=x.1/\0<=x.2/\Nat.gcd (Int.natAbs x.1) (Int.natAbs x.2)=Nat.gcd (Int.natAbs a) (Int.natAbs b)->(¬x.2=0->x.2≠0/\x.2=x.2/\Int.tmod x.1 x.2=Int.tmod x.1 x.2/\0<=x.2/\0<=Int.tmod x.1 x.2/\Nat.gcd (Int.natAbs x.snd) (Int.natAbs (Int.tmod x.1 x.2))=Nat.gcd (Int.natAbs a) (Int.natAbs b)/\Int.natAbs (Int.tmod x.1 x.2)<Int.natAbs x.2)/\
  (¬(¬x.2=0)->x.1=Nat.gcd (Int.natAbs a) (Int.natAbs b)))) (by kernel_rfl) (by
  change 0<=a/\0<=b at hp;have e1:∀x y:Int,0<=x->0<=y->Nat.gcd y.natAbs (Int.tmod x y).natAbs=Nat.gcd x.natAbs y.natAbs:=fun x y _ _=>by
   rw[Int.natAbs_tmod,Nat.gcd_comm,<-Nat.gcd_rec,Nat.gcd_comm]
  have e2:∀x y:Int,0<=x->¬y=0->(Int.tmod x y).natAbs<y.natAbs:=fun x y _ h=>by
   rw[Int.natAbs_tmod];exact Nat.mod_lt _ (by omega)
  have e3:∀x y:Int,0<=x->0<=Int.tmod x y:=fun x y h=>Int.tmod_nonneg _ h
  repeat' first|with_reducible apply And.intro|with_reducible intro
  all_goals repeat with_reducible cases‹_/\_›
  all_goals first|assumption|rfl|exact trivial|exact nb ‹_› |exact nb' ‹_› |omega|exact cV (by omega)|(unfold ix;omega)|(unfold aE;omega)|exact bG _|exact aA ‹_› ‹_› |(refine aA ‹_› ?_;simp_all;done)|exact e3 _ _ ‹_› |exact e2 _ _ (by assumption) ‹_› |(rw[e1 _ _ (by assumption) (by assumption)];assumption)|(have h0:=Decidable.of_not_not ‹¬¬_›;simp_all;omega)|grind)
def aJL:Tab:=cK [(200,aK5)] aJK
theorem aF8:aJL.Ok Tryz.prog:=aH aF7 ⟨aM1,trivial⟩
def PtB(p:Geo.Pt):Prop:=(1<=p.den/\p.den<=134217728)/\(-600000000000<=p.x/\p.x<=600000000000)/\(-600000000000<=p.y/\p.y<=600000000000)
theorem PtB.of{p:Geo.Pt}(h:Geo.cF p=true):PtB p:=by
 unfold Geo.cF Geo.dI Geo.aJ at h;simp only[Bool.and_eq_true,decide_eq_true_eq]at h;unfold PtB;omega
theorem PtB.off{p:Geo.Pt}(hp:PtB p){v:Geo.V}(hv:bd 10000 v):(-1400000000000<=v.x*p.den/\v.x*p.den<=1400000000000)/\(-1400000000000<=v.y*p.den/\v.y*p.den<=1400000000000):=by
 have h1:=iF (x:=v.x) (y:=p.den) (A:=10000) (B:=134217728) (by unfold bd at hv;omega) (by unfold PtB at hp;omega)
 have h2:=iF (x:=v.y) (y:=p.den) (A:=10000) (B:=134217728) (by unfold bd at hv;omega) (by unfold PtB at hp;omega)
 omega
def aLm:Con:=con (a1 aT) (fun _=>[]) (fun p=> .bool (Geo.cF p))
theorem aNi:aLm.Ok Tryz.prog 162:=aR (bO aF8) (raw:=bT) (fun p=>[jb 2 42 (!Geo.dI p 4000)]
  ) (fun _=>⟨_,rfl⟩) fun p _=>bP (q:=((p.den<1->true=(!Geo.dI p 4000))/\
  (¬p.den<1->(134217728<p.den->true=(!Geo.dI p 4000))/\
   (¬134217728<p.den->aE (-4000*p.den)/\(p.x< -4000*p.den->true=(!Geo.dI p 4000))/\
    (¬p.x< -4000*p.den->aE (4000*p.den)/\(4000*p.den<p.x->true=(!Geo.dI p 4000))/\
     (¬4000*p.den<p.x->aE (-4000*p.den)/\(p.y< -4000*p.den->true=(!Geo.dI p 4000))/\
      (¬p.y< -4000*p.den->aE (4000*p.den)/\decide (4000*p.den<p.y)=(!Geo.dI p 4000)))))))/\
 (∀y:Unit,((!Geo.dI p 4000)=true->false=Geo.cF p)/\
  ((!Geo.dI p 4000)=false-> -9000000000000000000<=p.x/\p.x<=9000000000000000000/\ -9000000000000000000<=p.y/\p.y<=9000000000000000000/\0<=(Int.natAbs p.x:Int)/\0<=(Int.natAbs p.y:Int)/\0<=(Nat.gcd (Int.natAbs (Int.natAbs p.x:Int)) (Int.natAbs (Int.natAbs p.y:Int)):Int)/\0<=p.den/\decide ((Nat.gcd (Int.natAbs (Nat.gcd (Int.natAbs (Int.natAbs p.x:Int)) (Int.natAbs (Int.natAbs p.y:Int)):Int)) (Int.natAbs p.den):Int)=1)=Geo.cF p))) (by kernel_rfl) (by
  unfold Geo.cF Geo.dI Geo.aJ;simp only[Int.natAbs_natCast]
  repeat' first|with_reducible apply And.intro|with_reducible intro
  all_goals repeat with_reducible cases‹_/\_›
  all_goals first|assumption|rfl|exact trivial|exact nb ‹_› |exact nb' ‹_› |omega|exact cV (by omega)|(unfold ix;omega)|(unfold aE;omega)|exact bG _|exact aA ‹_› ‹_› |(refine aA ‹_› ?_;simp_all;done)|grind)
def aJ5:Tab:=cK [(162,aLm)] aJL
theorem aGp:aJ5.Ok Tryz.prog:=aH aF8 ⟨aNi,trivial⟩
def aLi:Con:=con (ac aV (ac aV (a1 aT))) (fun(a,b,p)=>[bd 10000 a,bd 10000 b,PtB p]) (fun(a,b,p)=> .int .i64 (Geo.sgn (Geo.fK ⟨a,b⟩ p))
 )
theorem aNe:aLi.Ok Tryz.prog 166:=aR (bO aGp) (raw:=bT) (fun(_,_,_)=>[]) (fun(_,_,_)=>⟨_,rfl⟩) fun(a,b,p) hp=>bP (q:=bd 1000000000 b/\bd 1000000000 a/\aE (a.y*p.den)/\aE (p.y-a.y*p.den)/\aE ((Geo.sub b a).x*(p.y-a.y*p.den))/\aE (a.x*p.den)/\aE (p.x-a.x*p.den)/\aE ((Geo.sub b a).y*(p.x-a.x*p.den))/\aE ((Geo.sub b a).x*(p.y-a.y*p.den)-(Geo.sub b a).y*(p.x-a.x*p.den))/\Geo.sgn ((Geo.sub b a).x*(p.y-a.y*p.den)-(Geo.sub b a).y*(p.x-a.x*p.den))=Geo.sgn (Geo.fK (⟨a,b⟩:Geo.S) p)) (by kernel_rfl) (by
 change bd 10000 a/\bd 10000 b/\PtB p at hp;have h1:=hp.2.2.off hp.1;have h2:=jR hp.2.1 hp.1;have h3:=hp.2.2;unfold PtB at h3;have m1:=iF (A:=20000) (B:=2000000000000) h2.1 (y:=p.y-a.y*p.den) (by omega)
 have m2:=iF (A:=20000) (B:=2000000000000) h2.2 (y:=p.x-a.x*p.den) (by omega)
 exact⟨hp.2.1.mono,hp.1.mono,eC (by omega),eC (by omega),eC (by omega),eC (by omega),eC (by omega),eC (by omega),eC (by omega),rfl⟩)
def aJ1:Tab:=cK [(166,aLi)] aJ5
theorem aGl:aJ1.Ok Tryz.prog:=aH aGp ⟨aNe,trivial⟩
def inR(s:Geo.S)(p:Geo.Pt):Bool:=decide (min s.a.x s.b.x*p.den<=p.x)&&decide (p.x<=max s.a.x s.b.x*p.den)&&decide (min s.a.y s.b.y*p.den<=p.y)&&decide (p.y<=max s.a.y s.b.y*p.den)
def aLj:Con:=con (ac aS (a1 aT)) (fun(s,p)=>[bd 10000 s.a,bd 10000 s.b,PtB p]) (fun(s,p)=> .bool (Geo.onR s p))
theorem aNf:aLj.Ok Tryz.prog 165:=aR (bO aGl) (raw:=bT) (fun(s,p)=>[jb 2 5 (inR s p)]
  ) (fun(_,_)=>⟨_,rfl⟩) fun(s,p) hp=>bP (q:=(aE (Min.min s.a.x s.b.x*p.den)/\(Min.min s.a.x s.b.x*p.den<=p.x->aE (Max.max s.a.x s.b.x*p.den)/\(p.x<=Max.max s.a.x s.b.x*p.den->aE (Min.min s.a.y s.b.y*p.den)/\(Min.min s.a.y s.b.y*p.den<=p.y->aE (Max.max s.a.y s.b.y*p.den)/\decide (p.y<=Max.max s.a.y s.b.y*p.den)=inR s p)/\
    (¬Min.min s.a.y s.b.y*p.den<=p.y->false=inR s p))/\
   (¬p.x<=Max.max s.a.x s.b.x*p.den->false=inR s p))/\
  (¬Min.min s.a.x s.b.x*p.den<=p.x->false=inR s p))/\
 (∀y:Unit,(inR s p=true->bd 10000 s.a/\bd 10000 s.b/\PtB p/\decide (Geo.sgn (Geo.fK s p)=0)=Geo.onR s p)/\
  (inR s p=false->false=Geo.onR s p))) (by kernel_rfl) (by
  change bd 10000 s.a/\bd 10000 s.b/\PtB p at hp;have h1:=hp.2.2.off (v:=⟨min s.a.x s.b.x,min s.a.y s.b.y⟩) (by unfold bd at*;dsimp only;omega)
  have h2:=hp.2.2.off (v:=⟨max s.a.x s.b.x,max s.a.y s.b.y⟩) (by unfold bd at*;dsimp only;omega)
  dsimp only at h1 h2;have e:Geo.onR s p=(inR s p&&Geo.sgn (Geo.fK s p)==0):=rfl;unfold inR at*
  repeat' first|with_reducible apply And.intro|with_reducible intro
  all_goals repeat with_reducible cases‹_/\_›
  all_goals first|assumption|rfl|exact trivial|exact nb ‹_› |exact nb' ‹_› |omega|exact cV (by omega)|(unfold ix;omega)|(unfold aE;omega)|exact bG _|exact aA ‹_› ‹_› |(refine aA ‹_› ?_;simp_all;done)|grind)
def aJ2:Tab:=cK [(165,aLj)] aJ1
theorem aGm:aJ2.Ok Tryz.prog:=aH aGl ⟨aNf,trivial⟩
def lZ(r:Geo.aC)(i k:Nat):Bool:=if k=i+1\/(i=0/\k=r.length-1)then Geo.dR (Geo.cO r i) (Geo.cO r k)==1 else Geo.dR (Geo.cO r i) (Geo.cO r k)==0
theorem sO(r:Geo.aC):Geo.dS r=true↔3<=r.length/\r.length<=40/\Geo.near r=true/\(∀i,i<r.length->Geo.turn (nth r i) (nth r ((i+1) % r.length)) (nth r ((i+2) % r.length))≠0)/\(∀i k,i<k->k<r.length->lZ r i k=true)/\0<Geo.area r:=by
 unfold Geo.dS;simp only[Bool.and_eq_true,decide_eq_true_eq,List.all_eq_true,List.mem_range,bne_iff_ne,Bool.or_eq_true];constructor
 ·rintro⟨⟨⟨⟨⟨h1,h2⟩,h3⟩,h4⟩,h5⟩,h6⟩;refine⟨h1,h2,h3,h4,fun i k hik hk=> ?_,h6⟩
  rcases h5 i (by omega) k hk with h|h
  ·omega
  ·exact h
 ·rintro⟨h1,h2,h3,h4,h5,h6⟩;refine⟨⟨⟨⟨⟨h1,h2⟩,h3⟩,h4⟩,fun i hi k hk=> ?_⟩,h6⟩
  by_cases h:k<=i
  ·exact .inl h
  ·exact .inr (h5 i k (by omega) hk)
theorem mW(r:Geo.aC)(h:2<=r.length):(Geo.edges r).length=r.length:=by unfold Geo.edges;rw[if_neg (by omega)];simp
theorem pU{r:Geo.aC}{i:Nat}(h:2<=r.length)(hi:i<r.length):bC (Geo.edges r) i=Geo.cO r i:=by
 rw[gA (by rw[mW r h];exact hi)]
 simp only[Geo.edges,if_neg (show¬r.length<2 by omega),List.getElem_map,List.getElem_range]
def dV(p:Geo.Pt)(l:List Geo.S):Bool:=l.foldl (fun b s=>b !=Geo.tQ s p) false
theorem Zz{p:Geo.Pt}{l:List Geo.S}{k:Nat}(h:k<l.length):dV p (l.take (k+1))=(dV p (l.take k) !=Geo.tQ (bC l k) p):=by
 unfold dV;rw[List.take_add_one,List.getElem?_eq_getElem h,List.foldl_append,gA h];rfl
theorem Pd{p:Geo.Pt}:∀{l:List Geo.S} {k:Nat} (ins:Bool),k<l.length->(∀j,j<k->Geo.onR (bC l j) p=false)->Geo.onR (bC l k) p=true->Geo.sZ p l ins=1
 |[],k,ins,h,_,_=>by simp at h
 |s::l,0,ins,h,_,h2=>by
  unfold Geo.sZ;rw[show Geo.onR s p=true from h2];rfl
 |s::l,k+1,ins,h,h1,h2=>by
  unfold Geo.sZ;rw[show Geo.onR s p=false from h1 0 (by omega)]
  exact Pd (l:=l) (k:=k) _ (by simpa using h) (fun j hj=>h1 (j+1) (by omega)) h2
theorem Ix{p:Geo.Pt}:∀{l:List Geo.S} (ins:Bool),(∀j,j<l.length->Geo.onR (bC l j) p=false)->Geo.sZ p l ins=if l.foldl (fun b s=>b !=Geo.tQ s p) ins=true then 2 else 0
 |[],ins,_=>rfl
 |s::l,ins,h1=>by
  unfold Geo.sZ;rw[show Geo.onR s p=false from h1 0 (by simp)]
  exact Ix (l:=l) _ (fun j hj=>h1 (j+1) (by simpa using hj))
def pr(r:Geo.aC)(p:Geo.Pt)(k:Nat):Bool:=dV p ((Geo.edges r).take k)
theorem Ye{r:Geo.aC}(h:Geo.dS r=true){j:Nat}(hj:j<(Geo.edges r).length):bd 2000 (bC (Geo.edges r) j).a/\bd 2000 (bC (Geo.edges r) j).b:=by
 obtain⟨h1,h2,h3,_⟩:=(sO r).1 h;rw[mW r (by omega)]at hj
 rw[pU (by omega) hj]
 exact⟨qM h3 hj,qM h3 (Nat.mod_lt _ (by omega))⟩
def nxR(r:Geo.aC)(i k:Nat):Bool:=decide (k=i+1\/(i=0/\k=r.length-1))
abbrev nE(r:Geo.aC)(i:Nat):Geo.S:=bC (Geo.edges r) i
def upR(e:Geo.S)(p:Geo.Pt):Bool:=decide (e.a.y*p.den<=p.y)&&decide (p.y<e.b.y*p.den)
def dnR(e:Geo.S)(p:Geo.Pt):Bool:=decide (e.b.y*p.den<=p.y)&&decide (p.y<e.a.y*p.den)
def tp(r:Geo.aC)(i:Nat):Prop:=Geo.turn (nth r i) (nth r ((i+1) % r.length)) (nth r ((i+2) % r.length))≠0
def c91:Con:=con (a1 (aL .V)) (fun r=>[r.length<=100000]) (fun r=> .bool (Geo.dS r))
theorem k91:c91.Ok Tryz.prog 91:=aR (bO aGm) (raw:=bT) (fun r=>[jP 4 [3<=r.length,r.length<=40,Geo.near r=true],cnt 5 4 r.length (bH (tp r)),cnt 11 6 r.length (bH fun i=>∀k,i<k->k<r.length->lZ r i k=true) fun i=>[(14,.mk Nat (fun F _=>qI F 7) [] (fun k=>[i<k,k<=r.length,∀j,i<j->j<k->lZ r i j=true]) (fun k=>[(7,.int .i64 (k:Int))]) (fun _=>[]) (fun k=>r.length-k) fun k=>[jb 17 8 (nxR r i k),jb 19 97 (!lZ r i k)])]]
  ) (fun _=>⟨_,rfl⟩) fun r hp=>bP (q:=(((r.length:Int)<3->false=Geo.dS r)/\
  (¬(r.length:Int)<3->(40<(r.length:Int)->false=Geo.dS r)/\
   (¬40<(r.length:Int)->r.length<=100000/\((!Geo.near r)=true->false=Geo.dS r)/\
    ((!Geo.near r)=false->(3:Nat)<=r.length/\r.length<=40/\Geo.near r=true))))/\
 (∀y:Unit,(3:Nat)<=r.length/\r.length<=40/\Geo.near r=true->(0=(0:Int)/\(0:Nat)<=r.length/\bH (tp r) 0)/\
  (∀x:Nat,x<=r.length/\bH (tp r) x->((x:Int)<r.length->ix (x:Int) r.length/\aE ((x:Int)+1)/\(r.length:Int)≠0/\ix (((x+1) % r.length:Nat):Int) r.length/\aE ((x:Int)+2)/\(r.length:Int)≠0/\ix (((x+2) % r.length:Nat):Int) r.length/\bd 1000000000 (nth r x)/\bd 1000000000 (nth r ((x+1) % r.length))/\bd 1000000000 (nth r ((x+2) % r.length))/\(Geo.turn (nth r x) (nth r ((x+1) % r.length)) (nth r ((x+2) % r.length))=0->false=Geo.dS r)/\
    (¬Geo.turn (nth r x) (nth r ((x+1) % r.length)) (nth r ((x+2) % r.length))=0->aE ((x:Int)+1)/\(x:Int)+1=((x+1:Nat):Int)/\x+1<=r.length/\bH (tp r) (x+1)/\r.length-(x+1)<r.length-x))/\
   (¬(x:Int)<r.length->r.length<=100000/\(0=(0:Int)/\(0:Nat)<=r.length/\bH (fun i=>∀k:Nat,i<k->k<r.length->lZ r i k=true) 0)/\
    (∀x_1:Nat,x_1<=r.length/\bH (fun i=>∀k:Nat,i<k->k<r.length->lZ r i k=true) x_1->((x_1:Int)<r.length->aE ((x_1:Int)+1)/\((x_1:Int)+1=((x_1+1:Nat):Int)/\x_1<x_1+1/\x_1+1<=r.length/\(∀j:Nat,x_1<j->j<x_1+1->lZ r x_1 j=true))/\
      (∀x_2:Nat,x_1<x_2/\x_2<=r.length/\(∀j:Nat,x_1<j->j<x_2->lZ r x_1 j=true)->((x_2:Int)<r.length->(aE ((x_1:Int)+1)/\((x_2:Int)=x_1+1->true=nxR r x_1 x_2)/\
         (¬(x_2:Int)=x_1+1->((x_1:Int)=0->aE ((r.length:Int)-1)/\decide ((x_2:Int)=r.length-1)=nxR r x_1 x_2)/\
          (¬(x_1:Int)=0->false=nxR r x_1 x_2)))/\
        (∀y_1:Unit,ix (x_1:Int) (Geo.edges r).length/\ix (x_2:Int) (Geo.edges r).length/\((nxR r x_1 x_2=true->(¬Geo.dR (bC (Geo.edges r) x_1) (bC (Geo.edges r) x_2)=1->true=(!lZ r x_1 x_2))/\
           (¬(¬Geo.dR (bC (Geo.edges r) x_1) (bC (Geo.edges r) x_2)=1)->((!nxR r x_1 x_2)=true->decide (¬Geo.dR (bC (Geo.edges r) x_1) (bC (Geo.edges r) x_2)=0)=(!lZ r x_1 x_2))/\
            ((!nxR r x_1 x_2)=false->false=(!lZ r x_1 x_2))))/\
          (nxR r x_1 x_2=false->((!nxR r x_1 x_2)=true->decide (¬Geo.dR (bC (Geo.edges r) x_1) (bC (Geo.edges r) x_2)=0)=(!lZ r x_1 x_2))/\
           ((!nxR r x_1 x_2)=false->false=(!lZ r x_1 x_2))))/\
         (∀y_2:Unit,((!lZ r x_1 x_2)=true->false=Geo.dS r)/\
          ((!lZ r x_1 x_2)=false->aE ((x_2:Int)+1)/\(x_2:Int)+1=((x_2+1:Nat):Int)/\x_1<x_2+1/\x_2+1<=r.length/\(∀j:Nat,x_1<j->j<x_2+1->lZ r x_1 j=true)/\r.length-(x_2+1)<r.length-x_2))))/\
       (¬(x_2:Int)<r.length->aE ((x_1:Int)+1)/\(x_1:Int)+1=((x_1+1:Nat):Int)/\x_1+1<=r.length/\bH (fun i=>∀k:Nat,i<k->k<r.length->lZ r i k=true) (x_1+1)/\r.length-(x_1+1)<r.length-x_1)))/\
     (¬(x_1:Int)<r.length->Geo.near r=true/\r.length<=100000/\decide (0<Geo.area r)=Geo.dS r)))))) (by kernel_rfl) (by
  change r.length<=100000 at hp;have iff:=sO r;have hf:(Geo.dS r=true->False)->false=Geo.dS r:=fun h=>by cases e:Geo.dS r;rfl;exact(h e).elim
  have el:3<=r.length->(Geo.edges r).length=r.length:=fun h=>mW r (by omega)
  have en:Geo.near r=true->∀i,i<r.length->bd 1000000000 (nth r i):=fun h i hi=>qM h hi
  have hp':3<=r.length->∀i k,i<k->k<r.length->lZ r i k=if nxR r i k=true then Geo.dR (bC (Geo.edges r) i) (bC (Geo.edges r) k)==1 else Geo.dR (bC (Geo.edges r) i) (bC (Geo.edges r) k)==0:=fun h i k h1 h2=>by
   unfold lZ nxR;rw[pU (by omega) (by omega),pU (by omega) (by omega)];simp only[decide_eq_true_eq]
  have hE:3<=r.length->r.length<=40->Geo.near r=true->∀x y:Nat,¬(x:Int)<r.length->¬(y:Int)<r.length->bH (tp r) x->bH (fun i=>∀k:Nat,i<k->k<r.length->lZ r i k=true) y->decide (0<Geo.area r)=Geo.dS r:=fun h1 h2 h3 x y hx hy h4 h5=>by
   rw[Bool.eq_iff_iff,iff,decide_eq_true_eq];exact⟨fun h=>⟨h1,h2,h3,fun i hi=>h4 i (by omega),fun i k hi hk=>h5 i (by omega) k hi hk,h⟩,fun h=>h.2.2.2.2.2⟩
  repeat' first|with_reducible apply And.intro|with_reducible intro
  all_goals repeat with_reducible cases‹_/\_›
  all_goals first|assumption|rfl|exact trivial|exact nb ‹_› |exact nb' ‹_› |omega|exact cV (by omega)|(unfold ix;omega)|(unfold aE;omega)|exact bG _|exact aA ‹_› ‹_› |(refine aA ‹_› ?_;simp_all;done)|exact en ‹_› _ (by omega)|exact en ‹_› _ (Nat.mod_lt _ (by omega))|(rw[el ‹_›];exact nB (by omega))|exact hE ‹_› ‹_› ‹_› _ _ ‹_› ‹_› ‹_› ‹_› |(refine hf fun h=> ?_;have h:=iff.1 h;first|omega|(exact h.2.2.2.1 _ (by omega) ‹_=0›)|(have h2:=h.2.2.2.2.1 _ _ ‹_› (by omega);simp_all;done)|(simp_all;done))|(refine aA ‹_› ?_;grind)|(unfold nxR;exact(decide_eq_true (by omega)).symm)|(unfold nxR;exact(decide_eq_false (by omega)).symm)|(unfold nxR;exact decide_eq_decide.2 (by omega))|(rw[hp' ‹_› _ _ ‹_› (by omega),‹nxR _ _ _=_›];grind)|(intro j h1 h2;omega)|grind)
def t91:Tab:=cK [(91,c91)] aJ2
theorem aIY:t91.Ok Tryz.prog:=aH aGm ⟨k91,trivial⟩
def aLU:Con:=con (ac (aL .V) (a1 aT)) (fun(r,_)=>[r.length<=100000]) (fun(r,p)=> .int .i64 (Geo.dY r p))
theorem aNQ:aLU.Ok Tryz.prog 103:=aR (bO aIY) (raw:=bT) (fun(r,p)=>[jP 3 [Geo.dS r=true,Geo.cF p=true],lp 6 7 (Geo.edges r).length (fun k=>[bH (fun j=>Geo.onR (nE r j) p=false) k]) [] (fun k=>[(6,.bool (pr r p k))]) (fun _=>[]) fun k=>[(10012,.mk Unit (fun _ _=>some ()) [] (fun _=>[]) (fun _=>[(10,.bool (upR (nE r k) p)),(11,.bool (dnR (nE r k) p))]) (fun _=>[]) (fun _=>0) fun _=>[]),jb 13 97 (Geo.tQ (nE r k) p)]]
  ) (fun(_,_)=>⟨_,rfl⟩) fun(r,p) hp=>bP (q:=(r.length<=100000/\((!Geo.dS r)=true->0=Geo.dY r p)/\
  ((!Geo.dS r)=false->((!Geo.cF p)=true->0=Geo.dY r p)/\
   ((!Geo.cF p)=false->Geo.dS r=true/\Geo.cF p=true)))/\
 (∀y:Unit,Geo.dS r=true/\Geo.cF p=true->r.length<=100000/\(0=(0:Int)/\false=pr r p 0/\(0:Nat)<=(Geo.edges r).length/\bH (fun j=>Geo.onR (nE r j) p=false) 0)/\
  (∀x:Nat,x<=(Geo.edges r).length/\bH (fun j=>Geo.onR (nE r j) p=false) x->((x:Int)<(Geo.edges r).length->ix (x:Int) (Geo.edges r).length/\bd 10000 (nE r x).a/\bd 10000 (nE r x).b/\PtB p/\(Geo.onR (nE r x) p=true->1=Geo.dY r p)/\
    (Geo.onR (nE r x) p=false->ix (x:Int) (Geo.edges r).length/\ix (x:Int) (Geo.edges r).length/\(aE ((nE r x).a.y*p.den)/\((nE r x).a.y*p.den<=p.y->aE ((nE r x).b.y*p.den)/\aE ((nE r x).b.y*p.den)/\((nE r x).b.y*p.den<=p.y->aE ((nE r x).a.y*p.den)/\decide (p.y<(nE r x).b.y*p.den)=upR (nE r x) p/\decide (p.y<(nE r x).a.y*p.den)=dnR (nE r x) p)/\
       (¬(nE r x).b.y*p.den<=p.y->decide (p.y<(nE r x).b.y*p.den)=upR (nE r x) p/\false=dnR (nE r x) p))/\
      (¬(nE r x).a.y*p.den<=p.y->aE ((nE r x).b.y*p.den)/\((nE r x).b.y*p.den<=p.y->aE ((nE r x).a.y*p.den)/\false=upR (nE r x) p/\decide (p.y<(nE r x).a.y*p.den)=dnR (nE r x) p)/\
       (¬(nE r x).b.y*p.den<=p.y->false=upR (nE r x) p/\false=dnR (nE r x) p)))/\
     (∀y_1:Unit,((upR (nE r x) p=true->bd 10000 (nE r x).a/\bd 10000 (nE r x).b/\PtB p/\(0<Geo.sgn (Geo.fK (nE r x) p)->true=Geo.tQ (nE r x) p)/\
        (¬0<Geo.sgn (Geo.fK (nE r x) p)->(dnR (nE r x) p=true->bd 10000 (nE r x).a/\bd 10000 (nE r x).b/\PtB p/\decide (Geo.sgn (Geo.fK (nE r x) p)<0)=Geo.tQ (nE r x) p)/\
         (dnR (nE r x) p=false->false=Geo.tQ (nE r x) p)))/\
       (upR (nE r x) p=false->(dnR (nE r x) p=true->bd 10000 (nE r x).a/\bd 10000 (nE r x).b/\PtB p/\decide (Geo.sgn (Geo.fK (nE r x) p)<0)=Geo.tQ (nE r x) p)/\
        (dnR (nE r x) p=false->false=Geo.tQ (nE r x) p)))/\
      (∀y_2:Unit,(Geo.tQ (nE r x) p=true->aE ((x:Int)+1)/\(x:Int)+1=((x+1:Nat):Int)/\(!pr r p x)=pr r p (x+1)/\x+1<=(Geo.edges r).length/\bH (fun j=>Geo.onR (nE r j) p=false) (x+1)/\(Geo.edges r).length-(x+1)<(Geo.edges r).length-x)/\
       (Geo.tQ (nE r x) p=false->aE ((x:Int)+1)/\(x:Int)+1=((x+1:Nat):Int)/\pr r p x=pr r p (x+1)/\x+1<=(Geo.edges r).length/\bH (fun j=>Geo.onR (nE r j) p=false) (x+1)/\(Geo.edges r).length-(x+1)<(Geo.edges r).length-x)))))/\
   (¬(x:Int)<(Geo.edges r).length->(pr r p x=true->2=Geo.dY r p)/\
    (pr r p x=false->0=Geo.dY r p))))) (by kernel_rfl) (by
  change r.length<=100000 at hp;have e0:pr r p 0=false:=rfl;have es:∀k,k<(Geo.edges r).length->pr r p (k+1)=(pr r p k !=Geo.tQ (nE r k) p):=fun k h=>Zz h
  have eh:∀e,Geo.tQ e p=(upR e p&&decide (0<Geo.sgn (Geo.fK e p))||dnR e p&&decide (Geo.sgn (Geo.fK e p)<0)):=fun e=>rfl
  have hw0:Geo.dS r=false\/Geo.cF p=false->0=Geo.dY r p:=fun h=>by unfold Geo.dY;rcases h with h|h<;>simp[h]
  have hw:Geo.dS r=true->Geo.cF p=true->Geo.dY r p=Geo.sZ p (Geo.edges r) false:=fun h1 h2=>by unfold Geo.dY;simp[h1,h2]
  have eb:Geo.dS r=true->∀j,j<(Geo.edges r).length->bd 2000 (nE r j).a/\bd 2000 (nE r j).b:=fun h j hj=>Ye h hj
  have el:(Geo.edges r).length<=100000:=by unfold Geo.edges;split<;>simp<;>omega
  have ey:Geo.dS r=true->Geo.cF p=true->∀j,j<(Geo.edges r).length->aE ((nE r j).a.y*p.den)/\aE ((nE r j).b.y*p.den):=fun h1 h2 j hj=>⟨eC (by have:=(PtB.of h2).off (eb h1 j hj).1.mono;omega),eC (by have:=(PtB.of h2).off (eb h1 j hj).2.mono;omega)⟩
  have s1:∀j,j<(Geo.edges r).length->bH (fun j=>Geo.onR (nE r j) p=false) j->Geo.onR (nE r j) p=true->Geo.sZ p (Geo.edges r) false=1:=fun j h1 h2 h3=>Pd false h1 h2 h3
  have s2:∀k:Nat,¬(k:Int)<(Geo.edges r).length->k<=(Geo.edges r).length->bH (fun j=>Geo.onR (nE r j) p=false) k->Geo.sZ p (Geo.edges r) false=if pr r p k=true then 2 else 0:=fun k h1 h2 h=>by
   obtain rfl:k=(Geo.edges r).length:=by omega
   rw[Ix false h];unfold pr dV;rw[List.take_length]
  repeat' first|with_reducible apply And.intro|with_reducible intro
  all_goals repeat with_reducible cases‹_/\_›
  all_goals first|assumption|rfl|exact trivial|exact nb ‹_› |exact nb' ‹_› |omega|exact cV (by omega)|(unfold ix;omega)|(unfold aE;omega)|exact bG _|exact aA ‹_› ‹_› |(refine aA ‹_› ?_;simp_all;done)|exact(eb ‹_› _ (by omega)).1.mono|exact(eb ‹_› _ (by omega)).2.mono|exact(ey ‹_› ‹_› _ (by omega)).1|exact(ey ‹_› ‹_› _ (by omega)).2|exact PtB.of ‹_› |exact hw0 (.inl (nb' ‹_›))|exact hw0 (.inr (nb' ‹_›))|(rw[hw ‹_› ‹_›,s1 _ (by omega) ‹_› ‹_›])|(rw[hw ‹_› ‹_›,s2 _ ‹_› ‹_› ‹_›,‹pr _ _ _=_›];rfl)|(rw[es _ (by omega),‹Geo.tQ _ _=_›];simp;done)|(rw[eh,‹upR _ _=_›,‹dnR _ _=_›];grind)|(rw[eh,‹upR _ _=_›];simp_all;done)|(unfold upR;simp_all;done)|(unfold dnR;simp_all;done)|grind)
def aKG:Tab:=cK [(103,aLU)] t91
theorem aGZ:aKG.Ok Tryz.prog:=aH aIY ⟨aNQ,trivial⟩
end
end Go.Proofs.YtdaeofhdgabhjaaGreat
namespace Go.Proofs.YtdaeofhdgabhjaaGreat
open Go.RowKit
set_option maxRecDepth 100000
noncomputable section
open Geo (aQ nth aD)
def c36:Con:=con (ac (aL .V) (a1 aV)) (fun(r,_)=>[r.length<=100000]) (fun(r,v)=> .int .i64 (Geo.dN r v)
 )
theorem k36:c36.Ok Tryz.prog 36:=aR (bO aGZ) (raw:=bT) (fun(_,_)=>[]) (fun(_,_)=>⟨_,rfl⟩) fun(r,v) hp=>bP (q:=(0:Int)<=8000/\(8000:Int)<=1000000000000/\((!Geo.aJ v 8000)=true->0=Geo.dN r v)/\
 ((!Geo.aJ v 8000)=false->r.length<=100000/\Geo.dY r (Geo.iD v)=Geo.dN r v)) (by kernel_rfl) (by
  change r.length<=100000 at hp;unfold Geo.dN;exact⟨by decide,by decide,fun h=>by rw[h];rfl,fun h=>⟨hp,by rw[h];rfl⟩⟩)
def t36:Tab:=cK [(36,c36)] aKG
theorem aME:t36.Ok Tryz.prog:=aH aGZ ⟨k36,trivial⟩
def t97:Tab:=t36
theorem aMv:t97.Ok Tryz.prog:=aME
def t96:Tab:=t97
theorem aIX:t96.Ok Tryz.prog:=aMv
theorem nH(r:Geo.aC):∀k,Geo.bM r k<=k
 |0=>Nat.le_refl _
 |k+1=>by unfold Geo.bM;have:=nH r k;split<;>omega
theorem xG{r:Geo.aC}{k:Nat}(h:0<k):Geo.bM r k<k:=Geo.xG r k h
theorem aEA(r:Geo.aC)(k:Nat):Geo.bM r (k+1)=if Geo.bX (nth r k) (nth r (Geo.bM r k))=true then k else Geo.bM r k:=rfl
def aLA:Con:=con (a1 (aL .V)) (fun r=>[r.length<=100000]) (fun r=> .lst .V (Geo.dP r))
theorem aNw:aLA.Ok Tryz.prog 146:=aR (bO aIX) (raw:=bT) (fun r=>[lp 3 4 r.length (fun _=>[]) [] (fun k=>[(3,.int .i64 (Geo.bM r k))]) (fun _=>[])]
  ) (fun _=>⟨_,rfl⟩) fun r hp=>bP (q:=(0=(0:Int)/\0=(Geo.bM r 0:Int)/\(0:Nat)<=r.length)/\
 (∀x:Nat,x<=r.length->((x:Int)<r.length->ix (x:Int) r.length/\ix (Geo.bM r x:Int) r.length/\(Geo.bX (nth r x) (nth r (Geo.bM r x))=true->aE ((x:Int)+1)/\(x:Int)+1=((x+1:Nat):Int)/\(x:Int)=Geo.bM r (x+1)/\x+1<=r.length/\r.length-(x+1)<r.length-x)/\
   (Geo.bX (nth r x) (nth r (Geo.bM r x))=false->aE ((x:Int)+1)/\(x:Int)+1=((x+1:Nat):Int)/\(Geo.bM r x:Int)=Geo.bM r (x+1)/\x+1<=r.length/\r.length-(x+1)<r.length-x))/\
  (¬(x:Int)<r.length->(0<=(Geo.bM r x:Int)/\(Geo.bM r x:Int)<=r.length)/\([] :List Geo.V).length+(List.drop (Geo.bM r x) r).length<=1000000/\(0<=(Geo.bM r x:Int)/\(Geo.bM r x:Int)<=r.length)/\(([] :List Geo.V)++List.drop (Geo.bM r x) r).length=(([] :List Geo.V)++List.drop (Geo.bM r x) r).length/\(([] :List Geo.V)++List.drop (Geo.bM r x) r).length+(List.take (Geo.bM r x) r).length<=1000000/\(([] :List Geo.V)++List.drop (Geo.bM r x) r++List.take (Geo.bM r x) r).length=(([] :List Geo.V)++List.drop (Geo.bM r x) r++List.take (Geo.bM r x) r).length/\([] :List Geo.V)++List.drop (Geo.bM r x) r++List.take (Geo.bM r x) r=Geo.dP r))) (by kernel_rfl) (by
  change r.length<=100000 at hp;have e0:Geo.bM r 0=0:=rfl;have es:=aEA r;have el:=nH r;have eb:([] :List Geo.V)++List.drop (Geo.bM r r.length) r++List.take (Geo.bM r r.length) r=Geo.dP r:=rfl
  repeat' first|with_reducible apply And.intro|with_reducible intro
  all_goals repeat with_reducible cases‹_/\_›
  all_goals first|assumption|rfl|exact trivial|exact nb ‹_› |exact nb' ‹_› |omega|exact cV (by omega)|(unfold ix;omega)|(unfold aE;omega)|exact bG _|exact aA ‹_› ‹_› |(refine aA ‹_› ?_;simp_all;done)|exact nB (Nat.lt_of_le_of_lt (el _) (by omega))|(rw[es,if_pos ‹_›])|(rw[es,if_neg (by simp_all)])|(have:=el r.length;simp;omega)|grind)
def aKl:Tab:=cK [(146,aLA)] t96
theorem aL8:aKl.Ok Tryz.prog:=aH aIX ⟨aNw,trivial⟩
def t71:Tab:=aKl
theorem aJc:t71.Ok Tryz.prog:=aL8
theorem aEl{a b:Geo.aC}{k:Nat}(h:¬nth a k=nth b k):false=(a==b):=by
 symm;rw[beq_eq_false_iff_ne];intro e;subst e;exact h rfl
theorem aCg{a b:Geo.aC}(hl:(a.length:Int)=b.length){k:Nat}(hk:¬(k:Int)<a.length)(h:bH (fun j=>nth a j=nth b j) k):true=(a==b):=by
 symm;rw[beq_iff_eq];refine List.ext_getElem (by omega) fun j h1 h2=> ?_
 rw[<-nth_eq h1,<-nth_eq h2];exact h j (by omega)
def c23:Con:=con (ac (aL .V) (a1 (aL .V))) (fun(a,_)=>[a.length<=1000000]) (fun(a,b)=> .bool (a==b))
theorem k23:c23.Ok Tryz.prog 23:=aR (bO aJc) (raw:=bT) (fun(a,b)=>[cnt 4 5 a.length (bH fun j=>nth a j=nth b j)]
  ) (fun(_,_)=>⟨_,rfl⟩) fun(a,b) hp=>bP (q:=(¬(a.length:Int)=b.length->false=(a==b))/\
 (¬(¬(a.length:Int)=b.length)->(0=(0:Int)/\(0:Nat)<=a.length/\bH (fun j=>nth a j=nth b j) 0)/\
  (∀x:Nat,x<=a.length/\bH (fun j=>nth a j=nth b j) x->((x:Int)<a.length->ix (x:Int) a.length/\ix (x:Int) b.length/\(¬(nth a x)=(nth b x)->false=(a==b))/\
    (¬(¬(nth a x)=(nth b x))->aE ((x:Int)+1)/\(x:Int)+1=((x+1:Nat):Int)/\x+1<=a.length/\bH (fun j=>nth a j=nth b j) (x+1)/\a.length-(x+1)<a.length-x))/\
   (¬(x:Int)<a.length->true=(a==b))))) (by kernel_rfl) (by
  change a.length<=1000000 at hp
  repeat' first|with_reducible apply And.intro|with_reducible intro
  all_goals repeat with_reducible cases‹_/\_›
  all_goals first|assumption|rfl|exact trivial|exact nb ‹_› |exact nb' ‹_› |omega|exact cV (by omega)|(unfold ix;omega)|(unfold aE;omega)|exact bG _|exact aA ‹_› ‹_› |(refine aA ‹_› ?_;simp_all;done)|exact aEl ‹¬nth a _=_› |exact aCg (by omega) ‹_› ‹_› |(symm;rw[beq_eq_false_iff_ne];intro e;subst e;omega)|grind)
def t23:Tab:=cK [(23,c23)] t71
theorem aJw:t23.Ok Tryz.prog:=aH aJc ⟨k23,trivial⟩
def c76:Con:=con (ac (aL .V) (a1 (aL .V))) (fun(a,_)=>[a.length<=1000000]) (fun(a,b)=> .bool (a==b)
 )
theorem k76:c76.Ok Tryz.prog 76:=aR (bO aJw) (raw:=bT) (fun(_,_)=>[]) (fun(_,_)=>⟨_,rfl⟩) fun(a,b) hp=>bP (q:=a.length<=1000000/\(a==b)=(a==b)) (by kernel_rfl) (by
 change a.length<=1000000 at hp;exact⟨hp,rfl⟩)
def t76:Tab:=cK [(76,c76)] t23
theorem aJa:t76.Ok Tryz.prog:=aH aJw ⟨k76,trivial⟩
def Fit(s:Geo.Shape):Prop:=s.outer.length<=1000/\s.holes.length<=900/\∀r∈s.holes,r.length<=1000
theorem Fit.rings{s:Geo.Shape}(hf:Fit s):∀r∈Geo.aG s,r.length<=1000:=by
 intro r hr;unfold Geo.aG at hr;rcases List.mem_cons.1 hr with rfl|hr
 ·exact hf.1
 ·exact hf.2.2 r hr
theorem Fit.ring{s:Geo.Shape}(hf:Fit s){k:Nat}(hk:k<(Geo.aG s).length):(aD (Geo.aG s) k).length<=1000:=hf.rings _ (Geo.fQ hk)
theorem Fit.hole{s:Geo.Shape}(hf:Fit s){k:Nat}(hk:k<s.holes.length):(aD s.holes k).length<=1000:=hf.2.2 _ (Geo.fQ hk)
theorem Fit.rlen{s:Geo.Shape}(hf:Fit s):(Geo.aG s).length<=901:=by have:=hf.2.1;simp[Geo.aG];omega
def eS(s:Geo.Shape)(k:Nat):List Geo.S:=((Geo.aG s).take k).flatMap Geo.edges
theorem Mi{s:Geo.Shape}{k:Nat}(h:k<(Geo.aG s).length):eS s k++Geo.edges (aD (Geo.aG s) k)=eS s (k+1):=by
 unfold eS;rw[List.take_add_one,List.getElem?_eq_getElem h,List.flatMap_append,jY h];simp
theorem uJ(r:Geo.aC):(Geo.edges r).length<=r.length:=by unfold Geo.edges;split<;>simp
theorem aBN{s:Geo.Shape}(hf:Fit s):∀k,k<=(Geo.aG s).length->(eS s k).length<=1000*k
 |0,_=>by simp[eS]
 |k+1,h=>by
  rw[<-Mi (by omega),List.length_append]
  have:=aBN hf k (by omega)
  have:=uJ (aD (Geo.aG s) k);have:=hf.ring (k:=k) (by omega)
  omega
theorem aIg(s:Geo.Shape):eS s (Geo.aG s).length=aQ s:=by unfold eS;rw[List.take_length];rfl
def aLW:Con:=con (a1 aSh) (fun s=>[Fit s]) (fun s=> .lst .R (Geo.aG s)
 )
theorem aNS:aLW.Ok Tryz.prog 101:=aR (bO aJa) (raw:=bT) (fun _=>[]) (fun _=>⟨_,rfl⟩) fun s hp=>bP (q:=[s.outer].length+s.holes.length<=1000000/\([s.outer] ++s.holes).length=([s.outer] ++s.holes).length/\[s.outer] ++s.holes=Geo.aG s) (by kernel_rfl) (by
 change Fit s at hp;have h:=hp.2.1;exact⟨by simp;omega,rfl,rfl⟩)
def aKI:Tab:=cK [(101,aLW)] t76
theorem aG1:aKI.Ok Tryz.prog:=aH aJa ⟨aNS,trivial⟩
def c33:Con:=con (a1 aSh) (fun s=>[Fit s]) (fun s=> .lst .S (aQ s))
theorem k33:c33.Ok Tryz.prog 33:=aR (bO aG1) (raw:=bT) (fun s=>[lp 4 5 (Geo.aG s).length (fun _=>[]) [900] (fun k=>[(3,.own 900 .S (eS s k).length)]) (fun k=>[(900,.row 46 .S (eS s k))])]
  ) (fun _=>⟨_,rfl⟩) fun s hp=>bP (q:=Fit s/\(0=(0:Int)/\(eS s 0).length=0/\eS s 0=([] :List Geo.S)/\(0:Nat)<=(Geo.aG s).length)/\
 (∀x:Nat,x<=(Geo.aG s).length->((x:Int)<(Geo.aG s).length->ix (x:Int) (Geo.aG s).length/\(aD (Geo.aG s) x).length<=100000/\(eS s x).length=(eS s x).length/\(eS s x).length+(Geo.edges (aD (Geo.aG s) x)).length<=1000000/\aE ((x:Int)+1)/\(x:Int)+1=((x+1:Nat):Int)/\(eS s x++Geo.edges (aD (Geo.aG s) x)).length=(eS s (x+1)).length/\eS s x++Geo.edges (aD (Geo.aG s) x)=eS s (x+1)/\x+1<=(Geo.aG s).length/\(Geo.aG s).length-(x+1)<(Geo.aG s).length-x)/\
  (¬(x:Int)<(Geo.aG s).length->(eS s x).length=(eS s x).length/\eS s x=aQ s))) (by kernel_rfl) (by
  change Fit s at hp;have e0:eS s 0=[] :=rfl;have ea:=aIg s;have er:=hp.rlen;have es:= @Mi s;have eb:∀k,k<(Geo.aG s).length->(eS s k).length+(Geo.edges (aD (Geo.aG s) k)).length<=1000000:=fun k h=>by
   have:=aBN hp (k+1) (by omega);rw[<-Mi h,List.length_append]at this;omega
  have ek:= @Fit.ring s hp
  repeat' first|with_reducible apply And.intro|with_reducible intro
  all_goals repeat with_reducible cases‹_/\_›
  all_goals first|assumption|rfl|exact trivial|exact nb ‹_› |exact nb' ‹_› |omega|exact cV (by omega)|(unfold ix;omega)|(unfold aE;omega)|exact bG _|exact aA ‹_› ‹_› |(refine aA ‹_› ?_;simp_all;done)|exact es (by omega)|exact congrArg List.length (es (by omega))|exact Nat.le_trans (ek (by omega)) (by decide)|exact eb _ (by omega)|(rw[<-ea];congr 1;omega)|grind)
def t33:Tab:=cK [(33,c33)] aKI
theorem aJq:t33.Ok Tryz.prog:=aH aG1 ⟨k33,trivial⟩
end
end Go.Proofs.YtdaeofhdgabhjaaGreat
namespace Go.Proofs.YtdaeofhdgabhjaaGreat
open Go.RowKit
set_option maxRecDepth 100000
noncomputable section
open Geo (nth aD)
def fP(a b:Geo.aC)(al:Bool):Bool:=if al=true then Geo.jD a b else Geo.fO a b
theorem Uu{a b:Geo.aC}{al:Bool}{j:Nat}(hj:j<a.length)(h:(Geo.dN b (nth a j)==2)≠al):fP a b al= !al:=by
 unfold fP Geo.jD Geo.fO;cases al with
 |true=>rw[if_pos rfl];exact List.all_eq_false.2 ⟨_,Geo.gT hj,by simpa using h⟩
 |false=>rw[if_neg (by simp)];exact List.any_eq_true.2 ⟨_,Geo.gT hj,by simpa using h⟩
theorem Rs{a b:Geo.aC}{al:Bool}(h:∀j,j<a.length->(Geo.dN b (nth a j)==2)=al):fP a b al=al:=by
 unfold fP Geo.jD Geo.fO;cases al with
 |true=>
  rw[if_pos rfl];refine List.all_eq_true.2 fun x hx=> ?_
  obtain⟨j,hj,rfl⟩:=List.getElem_of_mem hx;rw[<-nth_eq hj];exact h j hj
 |false=>
  rw[if_neg (by simp)];refine List.any_eq_false.2 fun x hx=> ?_
  obtain⟨j,hj,rfl⟩:=List.getElem_of_mem hx;rw[<-nth_eq hj,h j hj];simp
def kG(s:Geo.Shape)(i:Nat):Bool:=Geo.dS (aD s.holes i)&& !Geo.iG (aD s.holes i) s.outer&&Geo.jD (aD s.holes i) s.outer
def jA(s:Geo.Shape)(i k:Nat):Bool:= !Geo.iG (aD s.holes i) (aD s.holes k)&& !Geo.fO (aD s.holes i) (aD s.holes k)&& !Geo.fO (aD s.holes k) (aD s.holes i)
def jB(s:Geo.Shape)(k:Nat):Nat:=s.outer.length+((s.holes.take k).map List.length).sum
theorem uV(s:Geo.Shape):jB s 0=s.outer.length:=by simp[jB]
theorem uX{s:Geo.Shape}{k:Nat}(h:k<s.holes.length):jB s (k+1)=jB s k+(aD s.holes k).length:=by
 unfold jB;rw[List.take_add_one,List.getElem?_eq_getElem h,List.map_append,List.sum_append,jY h,<-Nat.add_assoc];rfl
theorem Hd(s:Geo.Shape):jB s s.holes.length=Geo.dL s:=by unfold jB Geo.dL Geo.aG;rw[List.take_length];simp
theorem aAF{s:Geo.Shape}(hf:Fit s)(k:Nat)(hk:k<=s.holes.length):jB s k<=1000*(k+1):=by
 induction k with
 |zero=>have:=hf.1;rw[uV];omega
 |succ k ih=>
  rw[uX (by omega)]
  have h1:=ih (by omega)
  have h2:=hf.2.2 _ (Geo.fQ (show k<s.holes.length by omega))
  omega
theorem nW(s:Geo.Shape):Geo.bD s=true↔s.holes.length<=6/\Geo.dS s.outer=true/\(∀i,i<s.holes.length->kG s i=true/\∀k,k<i->jA s i k=true)/\Geo.dL s<=80:=by
 unfold Geo.bD;simp only[Bool.and_eq_true,decide_eq_true_eq,List.all_eq_true,List.mem_range];unfold kG jA;simp only[Bool.and_eq_true];constructor
 ·rintro⟨⟨⟨h1,h2⟩,h3⟩,h4⟩;exact⟨h1,h2,fun i hi=>⟨(h3 i hi).1,fun k hk=>(h3 i hi).2 k hk⟩,h4⟩
 ·rintro⟨h1,h2,h3,h4⟩;exact⟨⟨⟨h1,h2⟩,fun i hi=>⟨(h3 i hi).1,fun k hk=>(h3 i hi).2 k hk⟩⟩,h4⟩
theorem aCC{a b:Geo.aC}{i j:Nat}(h:¬Geo.dR (bC (Geo.edges a) i) (bC (Geo.edges b) j)=0)(hi:i<(Geo.edges a).length)(hj:j<(Geo.edges b).length):true=Geo.iG a b:=by
 unfold Geo.iG;symm;exact List.any_eq_true.2 ⟨_,Pp hi,List.any_eq_true.2 ⟨_,Pp hj,by simpa using h⟩⟩
def Yn(a b:Geo.aC)(i:Nat):Prop:=∀j,j<(Geo.edges b).length->Geo.dR (bC (Geo.edges a) i) (bC (Geo.edges b) j)=0
theorem aCB{a b:Geo.aC}{k:Nat}(hk:¬(k:Int)<(Geo.edges a).length)(h:bH (Yn a b) k):false=Geo.iG a b:=by
 unfold Geo.iG;symm;refine List.any_eq_false.2 fun x hx=> ?_
 obtain⟨i,hi,rfl⟩:=List.getElem_of_mem hx;rw[<-gA hi,Bool.not_eq_true];refine List.any_eq_false.2 fun y hy=> ?_
 obtain⟨j,hj,rfl⟩:=List.getElem_of_mem hy;rw[<-gA hj,h i (by omega) j hj];decide
theorem aEt{a b:Geo.aC}{i k:Nat}(hk:¬(k:Int)<(Geo.edges b).length)(h:bH (fun j=>Geo.dR (bC (Geo.edges a) i) (bC (Geo.edges b) j)=0) k):Yn a b i:=fun j hj=>h j (by omega)
def aLP:Con:=con (ac (aL .V) (a1 (aL .V))) (fun(a,b)=>[a.length<=100000,b.length<=100000]) (fun(a,b)=> .bool (Geo.iG a b))
theorem aNL:aLP.Ok Tryz.prog 128:=aR (bO aJq) (raw:=bT) (fun(a,b)=>[cnt 3 7 (Geo.edges a).length (bH (Yn a b)) fun i=>[cnt 6 8 (Geo.edges b).length (bH fun j=>Geo.dR (bC (Geo.edges a) i) (bC (Geo.edges b) j)=0)]]
  ) (fun(_,_)=>⟨_,rfl⟩) fun(a,b) hp=>bP (q:=a.length<=100000/\b.length<=100000/\(0=(0:Int)/\(0:Nat)<=(Geo.edges a).length/\bH (Yn a b) 0)/\
 (∀x:Nat,x<=(Geo.edges a).length/\bH (Yn a b) x->((x:Int)<(Geo.edges a).length->(0=(0:Int)/\(0:Nat)<=(Geo.edges b).length/\bH (fun j=>Geo.dR (bC (Geo.edges a) x) (bC (Geo.edges b) j)=0) 0)/\
   (∀x_1:Nat,x_1<=(Geo.edges b).length/\bH (fun j=>Geo.dR (bC (Geo.edges a) x) (bC (Geo.edges b) j)=0) x_1->((x_1:Int)<(Geo.edges b).length->ix (x:Int) (Geo.edges a).length/\ix (x_1:Int) (Geo.edges b).length/\(¬Geo.dR (bC (Geo.edges a) x) (bC (Geo.edges b) x_1)=0->true=Geo.iG a b)/\
     (¬(¬Geo.dR (bC (Geo.edges a) x) (bC (Geo.edges b) x_1)=0)->aE ((x_1:Int)+1)/\(x_1:Int)+1=((x_1+1:Nat):Int)/\x_1+1<=(Geo.edges b).length/\bH (fun j=>Geo.dR (bC (Geo.edges a) x) (bC (Geo.edges b) j)=0) (x_1+1)/\(Geo.edges b).length-(x_1+1)<(Geo.edges b).length-x_1))/\
    (¬(x_1:Int)<(Geo.edges b).length->aE ((x:Int)+1)/\(x:Int)+1=((x+1:Nat):Int)/\x+1<=(Geo.edges a).length/\bH (Yn a b) (x+1)/\(Geo.edges a).length-(x+1)<(Geo.edges a).length-x)))/\
  (¬(x:Int)<(Geo.edges a).length->false=Geo.iG a b))) (by kernel_rfl) (by
  change a.length<=100000/\b.length<=100000 at hp;have ha:=uJ a;have hb:=uJ b
  repeat' first|with_reducible apply And.intro|with_reducible intro
  all_goals repeat with_reducible cases‹_/\_›
  all_goals first|assumption|rfl|exact trivial|exact nb ‹_› |exact nb' ‹_› |omega|exact cV (by omega)|(unfold ix;omega)|(unfold aE;omega)|exact bG _|exact aA ‹_› ‹_› |(refine aA ‹_› ?_;simp_all;done)|exact aCC ‹¬Geo.dR _ _=0› (by omega) (by omega)|exact aCB ‹_› ‹_› |exact aA ‹_› (aEt ‹_› ‹_›)|(refine aA ‹_› ?_;exact Decidable.of_not_not ‹¬¬_›)|grind)
def aKz:Tab:=cK [(128,aLP)] t33
theorem aGS:aKz.Ok Tryz.prog:=aH aJq ⟨aNL,trivial⟩
def inQ(a b:Geo.aC)(al:Bool)(j:Nat):Prop:=(Geo.dN b (nth a j)==2)=al
def aLO:Con:=con (ac (aL .V) (ac (aL .V) (a1 aB))) (fun(a,b,_)=>[a.length<=100000,b.length<=100000]) (fun(a,b,al)=> .bool (fP a b al))
theorem aNK:aLO.Ok Tryz.prog 129:=aR (bO aGS) (raw:=bT) (fun(a,b,al)=>[cnt 2 7 a.length (bH (inQ a b al))]
  ) (fun(_,_,_)=>⟨_,rfl⟩) fun(a,b,al) hp=>bP (q:=(0=(0:Int)/\(0:Nat)<=a.length/\bH (inQ a b al) 0)/\
 (∀x:Nat,x<=a.length/\bH (inQ a b al) x->((x:Int)<a.length->ix (x:Int) a.length/\b.length<=100000/\((decide (Geo.dN b (nth a x)=2) !=al)=true->(!al)=fP a b al)/\
   ((decide (Geo.dN b (nth a x)=2) !=al)=false->aE ((x:Int)+1)/\(x:Int)+1=((x+1:Nat):Int)/\x+1<=a.length/\bH (inQ a b al) (x+1)/\a.length-(x+1)<a.length-x))/\
  (¬(x:Int)<a.length->al=fP a b al))) (by kernel_rfl) (by
  change a.length<=100000/\b.length<=100000 at hp;have c1:∀j:Nat,(decide (Geo.dN b (nth a j)=2) !=al)=true->j<a.length->(!al)=fP a b al:=fun j h hj=>(Uu hj (bne_iff_ne.1 h)).symm
  have c2:∀j:Nat,(decide (Geo.dN b (nth a j)=2) !=al)=false->inQ a b al j:=fun j h=>bne_eq_false_iff_eq.1 h
  have e2:∀k:Nat,¬(k:Int)<a.length->bH (inQ a b al) k->fP a b al=al:=fun k h1 h2=>Rs fun j hj=>h2 j (by omega)
  repeat' first|with_reducible apply And.intro|with_reducible intro
  all_goals repeat with_reducible cases‹_/\_›
  all_goals first|assumption|rfl|exact trivial|exact nb ‹_› |exact nb' ‹_› |omega|exact cV (by omega)|(unfold ix;omega)|(unfold aE;omega)|exact bG _|exact aA ‹_› ‹_› |(refine aA ‹_› ?_;simp_all;done)|exact(e2 _ ‹_› ‹_›).symm|exact c1 _ ‹_› (by omega)|exact aA ‹_› (c2 _ ‹_›)|grind)
def aKy:Tab:=cK [(129,aLO)] aKz
theorem aGR:aKy.Ok Tryz.prog:=aH aGS ⟨aNK,trivial⟩
def c58:Con:=con (a1 aSh) (fun s=>[Fit s]) (fun s=> .bool (Geo.bD s))
set_option maxHeartbeats 1000000 in
theorem k58:c58.Ok Tryz.prog 58:=aR (bO aGR) (raw:=bT) (fun s=>[jP 3 [s.holes.length<=6,Geo.dS s.outer=true],lp 5 4 s.holes.length (fun k=>[bH (fun i=>kG s i=true/\∀k,k<i->jA s i k=true) k]) [] (fun k=>[(3,.int .i64 (jB s k:Int))]) (fun _=>[]) fun i=>[jP 11 [kG s i=true],cnt 12 6 i (bH fun k=>jA s i k=true)]]
  ) (fun _=>⟨_,rfl⟩) fun s hp=>bP (q:=((6<(s.holes.length:Int)->false=Geo.bD s)/\
  (¬6<(s.holes.length:Int)->s.outer.length<=100000/\((!Geo.dS s.outer)=true->false=Geo.bD s)/\
   ((!Geo.dS s.outer)=false->s.holes.length<=6/\Geo.dS s.outer=true)))/\
 (∀y:Unit,s.holes.length<=6/\Geo.dS s.outer=true->(0=(0:Int)/\(s.outer.length:Int)=jB s 0/\(0:Nat)<=s.holes.length/\bH (fun i=>kG s i=true/\(∀k:Nat,k<i->jA s i k=true)) 0)/\
  (∀x:Nat,x<=s.holes.length/\bH (fun i=>kG s i=true/\(∀k:Nat,k<i->jA s i k=true)) x->((x:Int)<s.holes.length->ix (x:Int) s.holes.length/\aE ((jB s x:Int)+(aD s.holes x).length)/\((aD s.holes x).length<=100000/\((!Geo.dS (aD s.holes x))=true->false=Geo.bD s)/\
     ((!Geo.dS (aD s.holes x))=false->(aD s.holes x).length<=100000/\s.outer.length<=100000/\(Geo.iG (aD s.holes x) s.outer=true->false=Geo.bD s)/\
      (Geo.iG (aD s.holes x) s.outer=false->(aD s.holes x).length<=100000/\s.outer.length<=100000/\((!fP (aD s.holes x) s.outer true)=true->false=Geo.bD s)/\
       ((!fP (aD s.holes x) s.outer true)=false->kG s x=true))))/\
    (∀y_1:Unit,kG s x=true->(0=(0:Int)/\(0:Nat)<=x/\bH (fun k=>jA s x k=true) 0)/\
     (∀x_1:Nat,x_1<=x/\bH (fun k=>jA s x k=true) x_1->((x_1:Int)<x->ix (x_1:Int) s.holes.length/\(aD s.holes x).length<=100000/\(aD s.holes x_1).length<=100000/\(Geo.iG (aD s.holes x) (aD s.holes x_1)=true->false=Geo.bD s)/\
       (Geo.iG (aD s.holes x) (aD s.holes x_1)=false->ix (x_1:Int) s.holes.length/\(aD s.holes x).length<=100000/\(aD s.holes x_1).length<=100000/\(fP (aD s.holes x) (aD s.holes x_1) false=true->false=Geo.bD s)/\
        (fP (aD s.holes x) (aD s.holes x_1) false=false->ix (x_1:Int) s.holes.length/\(aD s.holes x_1).length<=100000/\(aD s.holes x).length<=100000/\(fP (aD s.holes x_1) (aD s.holes x) false=true->false=Geo.bD s)/\
         (fP (aD s.holes x_1) (aD s.holes x) false=false->aE ((x_1:Int)+1)/\(x_1:Int)+1=((x_1+1:Nat):Int)/\x_1+1<=x/\bH (fun k=>jA s x k=true) (x_1+1)/\x-(x_1+1)<x-x_1))))/\
      (¬(x_1:Int)<x->aE ((x:Int)+1)/\(x:Int)+1=((x+1:Nat):Int)/\(jB s x:Int)+(aD s.holes x).length=jB s (x+1)/\x+1<=s.holes.length/\bH (fun i=>kG s i=true/\(∀k:Nat,k<i->jA s i k=true)) (x+1)/\s.holes.length-(x+1)<s.holes.length-x))))/\
   (¬(x:Int)<s.holes.length->decide ((jB s x:Int)<=80)=Geo.bD s)))) (by kernel_rfl) (by
  change Fit s at hp;have hf:(Geo.bD s=true->False)->false=Geo.bD s:=fun h=>by cases e:Geo.bD s;rfl;exact(h e).elim
  have n1:∀i,kG s i=false->i<s.holes.length->false=Geo.bD s:=fun i h hi=>hf fun hv=>by rw[(((nW s).1 hv).2.2.1 i hi).1]at h;cases h
  have n2:∀i k,jA s i k=false->k<i->i<s.holes.length->false=Geo.bD s:=fun i k h hk hi=>hf fun hv=>by rw[(((nW s).1 hv).2.2.1 i hi).2 k hk]at h;cases h
  have a1:∀i,(!Geo.dS (aD s.holes i))=true->i<s.holes.length->false=Geo.bD s:=fun i h=>n1 i (by unfold kG;rw[nb' h];rfl)
  have a2:∀i,Geo.iG (aD s.holes i) s.outer=true->i<s.holes.length->false=Geo.bD s:=fun i h=>n1 i (by unfold kG;rw[h];simp)
  have a3:∀i,(!fP (aD s.holes i) s.outer true)=true->i<s.holes.length->false=Geo.bD s:=fun i h=>n1 i (by unfold kG;rw[show Geo.jD (aD s.holes i) s.outer=false from nb' h];simp)
  have a4:∀i,(!Geo.dS (aD s.holes i))=false->Geo.iG (aD s.holes i) s.outer=false->(!fP (aD s.holes i) s.outer true)=false->kG s i=true:=fun i h1 h2 h3=>by
   unfold kG;rw[nb h1,h2,show Geo.jD (aD s.holes i) s.outer=true from nb h3];rfl
  have b1:∀i k,Geo.iG (aD s.holes i) (aD s.holes k)=true->k<i->i<s.holes.length->false=Geo.bD s:=fun i k h=>n2 i k (by unfold jA;rw[h];rfl)
  have b2:∀i k,fP (aD s.holes i) (aD s.holes k) false=true->k<i->i<s.holes.length->false=Geo.bD s:=fun i k h=>n2 i k (by unfold jA;rw[show Geo.fO (aD s.holes i) (aD s.holes k)=true from h];simp)
  have b3:∀i k,fP (aD s.holes k) (aD s.holes i) false=true->k<i->i<s.holes.length->false=Geo.bD s:=fun i k h=>n2 i k (by unfold jA;rw[show Geo.fO (aD s.holes k) (aD s.holes i)=true from h];simp)
  have b4:∀i k,Geo.iG (aD s.holes i) (aD s.holes k)=false->fP (aD s.holes i) (aD s.holes k) false=false->fP (aD s.holes k) (aD s.holes i) false=false->jA s i k=true:=fun i k h1 h2 h3=>by
   unfold jA;rw[h1,show Geo.fO (aD s.holes i) (aD s.holes k)=false from h2,show Geo.fO (aD s.holes k) (aD s.holes i)=false from h3];rfl
  have b5:∀i k:Nat,¬(k:Int)<i->bH (fun k=>jA s i k=true) k->∀k,k<i->jA s i k=true:=fun i k h1 h2 j hj=>h2 j (by omega)
  have e0:=uV s;have es:∀k,k<s.holes.length->(jB s k:Int)+(aD s.holes k).length=jB s (k+1):=fun k h=>by rw[uX h];rfl
  have el:∀k,k<s.holes.length->aE ((jB s k:Int)+(aD s.holes k).length):=fun k h=>by rw[es k h];exact eC (by have:=aAF hp (k+1) (by omega);have:=hp.2.1;omega)
  have ef:s.holes.length<=6->Geo.dS s.outer=true->∀k:Nat,¬(k:Int)<s.holes.length->k<=s.holes.length->bH (fun i=>kG s i=true/\∀k,k<i->jA s i k=true) k->decide ((jB s k:Int)<=80)=Geo.bD s:=fun h1 h2 k h3 h4 h5=>by
   obtain rfl:k=s.holes.length:=by omega
   rw[Hd,Bool.eq_iff_iff,nW,decide_eq_true_eq];exact⟨fun h=>⟨h1,h2,h5,by omega⟩,fun h=>by have:=h.2.2.2;omega⟩
  have ho:=hp.1;have hh:= @Fit.hole s hp
  repeat' first|with_reducible apply And.intro|with_reducible intro
  all_goals repeat with_reducible cases‹_/\_›
  all_goals first|assumption|rfl|exact trivial|exact nb ‹_› |exact nb' ‹_› |omega|exact cV (by omega)|(unfold ix;omega)|(unfold aE;omega)|exact bG _|exact aA ‹_› ‹_› |(refine aA ‹_› ?_;simp_all;done)|exact Nat.le_trans (hh (by omega)) (by decide)|exact el _ (by omega)|exact es _ (by omega)|exact ef ‹_› ‹_› _ ‹_› ‹_› ‹_› |exact a1 _ ‹_› (by omega)|exact a2 _ ‹_› (by omega)|exact a3 _ ‹_› (by omega)|exact a4 _ ‹_› ‹_› ‹_› |exact b1 _ _ ‹_› (by omega) (by omega)|exact b2 _ _ ‹_› (by omega) (by omega)|exact b3 _ _ ‹_› (by omega) (by omega)|exact aA ‹_› (b4 _ _ ‹_› ‹_› ‹_›)|exact aA ‹_› ⟨‹_›,b5 _ _ ‹_› ‹_›⟩|exact hf fun h=>by have h:=(nW s).1 h;first|omega|(simp_all;done)|grind)
def t58:Tab:=cK [(58,c58)] aKy
theorem aJn:t58.Ok Tryz.prog:=aH aGR ⟨k58,trivial⟩
theorem Jy{p:Geo.Pt}{l:List Geo.aC}{w:Int}{k:Nat}(hk:k<l.length)(h:∀j,j<k->Geo.dY (aD l j) p≠2/\Geo.dY (aD l j) p≠1):Geo.nC p l w=if Geo.dY (aD l k) p=2 then 0 else if Geo.dY (aD l k) p=1 then 1 else Geo.nC p (l.drop (k+1)) w:=by
 induction l generalizing k with
 |nil=>simp at hk
 |cons r l ih=>
  cases k with
  |zero=>rfl
  |succ k=>
   have h0:=h 0 (by omega)
   have e:aD (r::l) 0=r:=rfl;rw[e]at h0;have e1:Geo.nC p (r::l) w=(if Geo.dY r p=2 then 0 else if Geo.dY r p=1 then 1 else Geo.nC p l w):=rfl
   rw[e1,if_neg h0.1,if_neg h0.2];exact ih (k:=k) (by simpa using hk) (fun j hj=>h (j+1) (by omega))
theorem Ux{p:Geo.Pt}{l:List Geo.aC}{w:Int}(h:∀j,j<l.length->Geo.dY (aD l j) p≠2/\Geo.dY (aD l j) p≠1):Geo.nC p l w=w:=by
 induction l with
 |nil=>rfl
 |cons r l ih=>
  have h0:=h 0 (by simp)
  have e:aD (r::l) 0=r:=rfl;rw[e]at h0;unfold Geo.nC;rw[if_neg h0.1,if_neg h0.2];exact ih (fun j hj=>h (j+1) (by simpa using hj))
theorem Ya{X:List Geo.aC}{h:Geo.aC}:∀{k:Nat},k<=X.length->(∀j,j<k->Geo.bX (nth (aD X j) 0) (nth h 0)=true)->(k<X.length->Geo.bX (nth (aD X k) 0) (nth h 0)=false)->Geo.xR X h=X.take k++[h] ++X.drop k:=by
 induction X with
 |nil=>intro k hk _ _;simp[Geo.xR]
 |cons q r ih=>
  intro k hk h1 h2;cases k with
  |zero=>
   unfold Geo.xR;rw[if_neg (by rw[show Geo.bX (nth q 0) (nth h 0)=false from h2 (by simp)];simp)];rfl
  |succ k=>
   unfold Geo.xR;rw[if_pos (show Geo.bX (nth q 0) (nth h 0)=true from h1 0 (by omega)),ih (k:=k) (by simpa using hk) (fun j hj=>h1 (j+1) (by omega)) (fun hh=>h2 (by simpa using hh))];rfl
def bQ(s:Geo.Shape)(i:Nat):List Geo.aC:=Geo.xX ((s.holes.take i).map Geo.dP)
theorem Bs{s:Geo.Shape}{i:Nat}(h:i<s.holes.length):bQ s (i+1)=Geo.xR (bQ s i) (Geo.dP (aD s.holes i)):=by
 unfold bQ Geo.xX;rw[List.take_add_one,List.getElem?_eq_getElem h,List.map_append,List.foldl_append,jY h];rfl
theorem Bt(s:Geo.Shape)(i:Nat):(bQ s i).Perm ((s.holes.take i).map Geo.dP):=Geo.iH _
theorem wN(s:Geo.Shape)(i:Nat):(bQ s i).length<=s.holes.length:=by
 rw[(Bt s i).length_eq,List.length_map,List.length_take];exact Nat.min_le_right _ _
theorem Fy{s:Geo.Shape}{i:Nat}{r:Geo.aC}(h:r∈bQ s i):∃q∈s.holes,r=Geo.dP q:=by
 have:=(Bt s i).mem_iff.1 h;obtain⟨q,hq,rfl⟩:=List.mem_map.1 this;exact⟨q,List.mem_of_mem_take hq,rfl⟩
theorem Ua{s:Geo.Shape}(hp:∀r∈s.holes,0<r.length){i j:Nat}(h:j<(bQ s i).length):0<(aD (bQ s i) j).length:=by
 obtain⟨q,hq,e⟩:=Fy (Geo.fQ h);rw[e,Geo.eH];exact hp q hq
def hQ(s:Geo.Shape)(p:Geo.Pt)(j:Nat):Prop:=Geo.dY (aD s.holes j) p≠2/\Geo.dY (aD s.holes j) p≠1
def c73:Con:=con (ac aSh (a1 aT)) (fun(s,_)=>[Fit s]) (fun(s,p)=> .int .i64 (Geo.eJ s p))
theorem k73:c73.Ok Tryz.prog 73:=aR (bO aJn) (raw:=bT) (fun(s,p)=>[cnt 5 6 s.holes.length (bH (hQ s p))]
  ) (fun(_,_)=>⟨_,rfl⟩) fun(s,p) hp=>bP (q:=Fit s/\((!Geo.bD s)=true->0=Geo.eJ s p)/\
 ((!Geo.bD s)=false->s.outer.length<=100000/\(0=(0:Int)/\(0:Nat)<=s.holes.length/\bH (hQ s p) 0)/\
  (∀x:Nat,x<=s.holes.length/\bH (hQ s p) x->((x:Int)<s.holes.length->ix (x:Int) s.holes.length/\(aD s.holes x).length<=100000/\(Geo.dY (aD s.holes x) p=2->0=Geo.eJ s p)/\
    (¬Geo.dY (aD s.holes x) p=2->(Geo.dY (aD s.holes x) p=1->1=Geo.eJ s p)/\
     (¬Geo.dY (aD s.holes x) p=1->aE ((x:Int)+1)/\(x:Int)+1=((x+1:Nat):Int)/\x+1<=s.holes.length/\bH (hQ s p) (x+1)/\s.holes.length-(x+1)<s.holes.length-x)))/\
   (¬(x:Int)<s.holes.length->Geo.dY s.outer p=Geo.eJ s p)))) (by kernel_rfl) (by
  change Fit s at hp;have h0:(!Geo.bD s)=true->0=Geo.eJ s p:=fun h=>by unfold Geo.eJ;rw[if_pos h]
  have h1:(!Geo.bD s)=false->Geo.eJ s p=Geo.nC p s.holes (Geo.dY s.outer p):=fun h=>by unfold Geo.eJ;rw[if_neg (by rw[h];simp)]
  have c1:∀k,bH (hQ s p) k->Geo.dY (aD s.holes k) p=2->(!Geo.bD s)=false->k<s.holes.length->0=Geo.eJ s p:=fun k h h2 h3 hk=>by rw[h1 h3,Jy hk h,if_pos h2]
  have c2:∀k,bH (hQ s p) k->¬Geo.dY (aD s.holes k) p=2->Geo.dY (aD s.holes k) p=1->(!Geo.bD s)=false->k<s.holes.length->1=Geo.eJ s p:=fun k h h2 h3 h4 hk=>by rw[h1 h4,Jy hk h,if_neg h2,if_pos h3]
  have c3:∀k:Nat,¬(k:Int)<s.holes.length->bH (hQ s p) k->(!Geo.bD s)=false->Geo.dY s.outer p=Geo.eJ s p:=fun k hk h h2=>by rw[h1 h2,Ux fun j hj=>h j (by omega)]
  have ho:=hp.1;have hl:=hp.2.1;have hh:= @Fit.hole s hp
  repeat' first|with_reducible apply And.intro|with_reducible intro
  all_goals repeat with_reducible cases‹_/\_›
  all_goals first|assumption|rfl|exact trivial|exact nb ‹_› |exact nb' ‹_› |omega|exact cV (by omega)|(unfold ix;omega)|(unfold aE;omega)|exact bG _|exact aA ‹_› ‹_› |(refine aA ‹_› ?_;simp_all;done)|exact Nat.le_trans (hh (by omega)) (by decide)|exact h0 ‹_› |exact c1 _ ‹_› ‹_› ‹_› (by omega)|exact c2 _ ‹_› ‹_› ‹_› ‹_› (by omega)|exact c3 _ ‹_› ‹_› ‹_› |exact aA ‹_› ⟨‹_›,‹_›⟩|grind)
def t73:Tab:=cK [(73,c73)] t58
theorem aJb:t73.Ok Tryz.prog:=aH aJn ⟨k73,trivial⟩
def aLz:Con:=con (ac aI (a1 aI)) (fun(a,b)=>[-9000000000000000000<=a,a<=9000000000000000000,-9000000000000000000<=b,b<=9000000000000000000]) (fun(a,b)=> .int .i64 ((Nat.gcd a.natAbs b.natAbs:Nat):Int))
theorem aNv:aLz.Ok Tryz.prog 147:=aR (bO aJb) (raw:=bT) (fun(a,b)=>[jU 3 [(0,.int .i64 (a.natAbs:Int))],jU 5 [(1,.int .i64 (b.natAbs:Int))],(5,.mk (Int×Int) (fun F _=>aHu F 0 1) [] (fun p=>[0<=p.1,0<=p.2,Nat.gcd p.1.natAbs p.2.natAbs=Nat.gcd a.natAbs b.natAbs]) (fun p=>[(0,.int .i64 p.1),(1,.int .i64 p.2)]) (fun _=>[]) (fun p=>p.2.natAbs) (fun _=>[]))]
  ) (fun(_,_)=>⟨_,rfl⟩) fun(a,b) hp=>bP (q:=((a<0->aE (0-a)/\0-a=Int.natAbs a)/\
  (¬a<0->a=Int.natAbs a))/\
 (∀y:Unit,((b<0->aE (0-b)/\0-b=Int.natAbs b)/\
   (¬b<0->b=Int.natAbs b))/\
  (∀y_1:Unit,((Int.natAbs a:Int)=Int.natAbs a/\(Int.natAbs b:Int)=Int.natAbs b/\0<=(Int.natAbs a:Int)/\0<=(Int.natAbs b:Int)/\Nat.gcd (Int.natAbs (Int.natAbs a:Int)) (Int.natAbs (Int.natAbs b:Int))=Nat.gcd (Int.natAbs a) (Int.natAbs b))/\
   (∀x:Prod Int Int,0<=x.1/\0<=x.2/\Nat.gcd (Int.natAbs x.1) (Int.natAbs x.2)=Nat.gcd (Int.natAbs a) (Int.natAbs b)->(¬x.2=0->x.2≠0/\x.2=x.2/\Int.tmod x.1 x.2=Int.tmod x.1 x.2/\0<=x.2/\0<=Int.tmod x.1 x.2/\Nat.gcd (Int.natAbs x.snd) (Int.natAbs (Int.tmod x.1 x.2))=Nat.gcd (Int.natAbs a) (Int.natAbs b)/\Int.natAbs (Int.tmod x.1 x.2)<Int.natAbs x.2)/\
    (¬(¬x.2=0)->x.1=Nat.gcd (Int.natAbs a) (Int.natAbs b)))))) (by kernel_rfl) (by
  change-9000000000000000000<=a/\a<=9000000000000000000/\ -9000000000000000000<=b/\b<=9000000000000000000 at hp;have e1:∀x y:Int,0<=x->0<=y->Nat.gcd y.natAbs (Int.tmod x y).natAbs=Nat.gcd x.natAbs y.natAbs:=fun x y _ _=>by
   rw[Int.natAbs_tmod,Nat.gcd_comm,<-Nat.gcd_rec,Nat.gcd_comm]
  have e2:∀x y:Int,0<=x->¬y=0->(Int.tmod x y).natAbs<y.natAbs:=fun x y _ h=>by
   rw[Int.natAbs_tmod];exact Nat.mod_lt _ (by omega)
  have e3:∀x y:Int,0<=x->0<=Int.tmod x y:=fun x y h=>Int.tmod_nonneg _ h
  repeat' first|with_reducible apply And.intro|with_reducible intro
  all_goals repeat with_reducible cases‹_/\_›
  all_goals first|assumption|rfl|exact trivial|exact nb ‹_› |exact nb' ‹_› |omega|exact cV (by omega)|(unfold ix;omega)|(unfold aE;omega)|exact bG _|exact aA ‹_› ‹_› |(refine aA ‹_› ?_;simp_all;done)|exact e3 _ _ ‹_› |exact e2 _ _ (by assumption) ‹_› |(rw[e1 _ _ (by assumption) (by assumption)];assumption)|(have h0:=Decidable.of_not_not ‹¬¬_›;simp_all;omega)|grind)
def aKk:Tab:=cK [(147,aLz)] t73
theorem aGE:aKk.Ok Tryz.prog:=aH aJb ⟨aNv,trivial⟩
theorem Ak{l:List Geo.V}{k:Nat}(h:k<l.length):Geo.jG (l.take (k+1))=Geo.jG (l.take k)+(nth l k).x:=by
 unfold Geo.jG;rw[List.take_add_one,List.getElem?_eq_getElem h,List.map_append,List.sum_append,nth_eq h];simp
theorem Aj{l:List Geo.V}{k:Nat}(h:k<l.length):Geo.jF (l.take (k+1))=Geo.jF (l.take k)+(nth l k).y:=by
 unfold Geo.jF;rw[List.take_add_one,List.getElem?_eq_getElem h,List.map_append,List.sum_append,nth_eq h];simp
theorem Wo{x:Int}{g:Nat}{B:Int}(h: -B<=x/\x<=B): -B<=x.tdiv (g:Int)/\x.tdiv (g:Int)<=B:=by
 have h1:(x.tdiv (g:Int)).natAbs<=x.natAbs:=by rw[Int.natAbs_tdiv];exact Nat.div_le_self _ _
 omega
theorem Ws{l:List Geo.V}(hm:∀v∈l,bd 10000 v):∀k:Nat,k<=l.length->(-(10000*(k:Int))<=Geo.jG (l.take k)/\Geo.jG (l.take k)<=10000*(k:Int))/\(-(10000*(k:Int))<=Geo.jF (l.take k)/\Geo.jF (l.take k)<=10000*(k:Int))
 |0,_=>by simp[Geo.jG,Geo.jF]
 |k+1,h=>by
  have:=Ws hm k (by omega)
  have h2:=hm _ (Geo.gT (show k<l.length by omega))
  rw[Ak (by omega),Aj (by omega)];unfold bd at h2;omega
def c74:Con:=con (a1 (aL .V)) (fun l=>[0<l.length,l.length<=1000,(∀v∈l,bd 10000 v)]) (fun l=>aT.enc (Geo.lR l))
theorem k74:c74.Ok Tryz.prog 74:=aR (bO aGE) (raw:=bT) (fun l=>[lp 3 4 l.length (fun _=>[]) [] (fun _=>[]) (fun k=>[(4,.box 74 [.int .i64 (Geo.jG (l.take k)),.int .i64 (Geo.jF (l.take k)),.int .i64 (l.length:Int)])])]
  ) (fun _=>⟨_,rfl⟩) fun l hp=>bP (q:=(0=(0:Int)/\0=Geo.jG (List.take 0 l)/\0=Geo.jF (List.take 0 l)/\(l.length:Int)=l.length/\(0:Nat)<=l.length)/\
 (∀x:Nat,x<=l.length->((x:Int)<l.length->ix (x:Int) l.length/\aE (Geo.jG (List.take x l)+(nth l x).x)/\ix (x:Int) l.length/\aE (Geo.jF (List.take x l)+(nth l x).y)/\aE ((x:Int)+1)/\(x:Int)+1=((x+1:Nat):Int)/\Geo.jG (List.take x l)+(nth l x).x=Geo.jG (List.take (x+1) l)/\Geo.jF (List.take x l)+(nth l x).y=Geo.jF (List.take (x+1) l)/\(l.length:Int)=l.length/\x+1<=l.length/\l.length-(x+1)<l.length-x)/\
  (¬(x:Int)<l.length-> -9000000000000000000<=Geo.jG (List.take x l)/\Geo.jG (List.take x l)<=9000000000000000000/\ -9000000000000000000<=Geo.jF (List.take x l)/\Geo.jF (List.take x l)<=9000000000000000000/\ -9000000000000000000<=(Nat.gcd (Int.natAbs (Geo.jG (List.take x l))) (Int.natAbs (Geo.jF (List.take x l))):Int)/\(Nat.gcd (Int.natAbs (Geo.jG (List.take x l))) (Int.natAbs (Geo.jF (List.take x l))):Int)<=9000000000000000000/\ -9000000000000000000<=(l.length:Int)/\(l.length:Int)<=9000000000000000000/\(Nat.gcd (Int.natAbs (Nat.gcd (Int.natAbs (Geo.jG (List.take x l))) (Int.natAbs (Geo.jF (List.take x l))):Int)) (Int.natAbs (l.length:Int)):Int)≠0/\aE (Int.tdiv (Geo.jG (List.take x l)) (Nat.gcd (Int.natAbs (Nat.gcd (Int.natAbs (Geo.jG (List.take x l))) (Int.natAbs (Geo.jF (List.take x l))):Int)) (Int.natAbs (l.length:Int)):Int))/\(Nat.gcd (Int.natAbs (Nat.gcd (Int.natAbs (Geo.jG (List.take x l))) (Int.natAbs (Geo.jF (List.take x l))):Int)) (Int.natAbs (l.length:Int)):Int)≠0/\aE (Int.tdiv (Geo.jF (List.take x l)) (Nat.gcd (Int.natAbs (Nat.gcd (Int.natAbs (Geo.jG (List.take x l))) (Int.natAbs (Geo.jF (List.take x l))):Int)) (Int.natAbs (l.length:Int)):Int))/\(Nat.gcd (Int.natAbs (Nat.gcd (Int.natAbs (Geo.jG (List.take x l))) (Int.natAbs (Geo.jF (List.take x l))):Int)) (Int.natAbs (l.length:Int)):Int)≠0/\aE ((l.length/Nat.gcd (Int.natAbs (Nat.gcd (Int.natAbs (Geo.jG (List.take x l))) (Int.natAbs (Geo.jF (List.take x l))):Int)) (Int.natAbs (l.length:Int)):Nat):Int)/\Int.tdiv (Geo.jG (List.take x l)) (Nat.gcd (Int.natAbs (Nat.gcd (Int.natAbs (Geo.jG (List.take x l))) (Int.natAbs (Geo.jF (List.take x l))):Int)) (Int.natAbs (l.length:Int)):Int)=(Geo.lR l).x/\Int.tdiv (Geo.jF (List.take x l)) (Nat.gcd (Int.natAbs (Nat.gcd (Int.natAbs (Geo.jG (List.take x l))) (Int.natAbs (Geo.jF (List.take x l))):Int)) (Int.natAbs (l.length:Int)):Int)=(Geo.lR l).y/\((l.length/Nat.gcd (Int.natAbs (Nat.gcd (Int.natAbs (Geo.jG (List.take x l))) (Int.natAbs (Geo.jF (List.take x l))):Int)) (Int.natAbs (l.length:Int)):Nat):Int)=(Geo.lR l).den))) (by kernel_rfl) (by
  change 0<l.length/\l.length<=1000/\((∀v∈l,bd 10000 v))at hp;obtain⟨h0,h1,hm⟩:=hp;simp only[Int.natAbs_natCast];have et:∀x:Nat,¬(x:Int)<l.length->x<=l.length->List.take x l=l:=fun x h1 h2=>List.take_of_length_le (by omega)
  have hg:∀n m,((Nat.gcd (Nat.gcd n m) l.length:Nat):Int)≠0:=fun n m=>by have:=Nat.gcd_pos_of_pos_right (Nat.gcd n m) h0;omega
  have hs:=Ws hm;have hd:∀x n m,x<=l.length->aE (Int.tdiv (Geo.jG (List.take x l)) (Nat.gcd (Nat.gcd n m) l.length:Int))/\aE (Int.tdiv (Geo.jF (List.take x l)) (Nat.gcd (Nat.gcd n m) l.length:Int)):=fun x n m h=>by
   have:=hs x h;exact⟨eC (by have:=Wo (x:=Geo.jG (List.take x l)) (g:=Nat.gcd (Nat.gcd n m) l.length) (B:=10000*x) this.1;omega),eC (by have:=Wo (x:=Geo.jF (List.take x l)) (g:=Nat.gcd (Nat.gcd n m) l.length) (B:=10000*x) this.2;omega)⟩
  have ha:∀x,x<l.length->aE (Geo.jG (List.take x l)+(nth l x).x)/\aE (Geo.jF (List.take x l)+(nth l x).y):=fun x h=>by
   rw[<-Ak h,<-Aj h];have:=hs (x+1) (by omega);exact⟨eC (by omega),eC (by omega)⟩
  have hq:∀n m,aE ((l.length/Nat.gcd (Nat.gcd n m) l.length:Nat):Int):=fun n m=>eC (by have:=Nat.div_le_self l.length (Nat.gcd (Nat.gcd n m) l.length);generalize l.length/Nat.gcd (Nat.gcd n m) l.length=q at*;omega)
  have hn:∀n m B:Nat,n<=B->m<=B->Nat.gcd n m<=B:=fun n m B h1 h2=>by
   rcases Nat.eq_zero_or_pos n with e|e
   ·rw[e,Nat.gcd_zero_left];exact h2
   ·exact Nat.le_trans (Nat.gcd_le_left m e) h1
  have hk:∀x,x<=l.length->((Nat.gcd (Geo.jG (List.take x l)).natAbs (Geo.jF (List.take x l)).natAbs:Nat):Int)<=9000000000000000000:=fun x h=>by
   have:=hn (Geo.jG (List.take x l)).natAbs (Geo.jF (List.take x l)).natAbs 10000000 (by have:=hs x h;omega) (by have:=hs x h;omega)
   omega
  repeat' first|with_reducible apply And.intro|with_reducible intro
  all_goals repeat with_reducible cases‹_/\_›
  all_goals first|assumption|rfl|exact trivial|exact nb ‹_› |exact nb' ‹_› |omega|exact cV (by omega)|(unfold ix;omega)|(unfold aE;omega)|exact bG _|exact aA ‹_› ‹_› |(refine aA ‹_› ?_;simp_all;done)|exact hk _ ‹_› |exact(ha _ (by omega)).1|exact(ha _ (by omega)).2|exact hg _ _|exact(hd _ _ _ ‹_›).1|exact(hd _ _ _ ‹_›).2|exact hq _ _|exact(Ak (by omega)).symm|exact(Aj (by omega)).symm|(have:=hs _ ‹_›;omega)|(rw[et _ ‹_› ‹_›];rfl)|grind)
def t74:Tab:=cK [(74,c74)] aKk
theorem aMz:t74.Ok Tryz.prog:=aH aGE ⟨k74,trivial⟩
def t27:Tab:=t74
theorem aJt:t27.Ok Tryz.prog:=aMz
theorem Re{s:Geo.Shape}(hv:Geo.bD s=true):0<s.outer.length/\∀r∈s.holes,0<r.length:=by
 have h:=(nW s).1 hv;refine⟨by have:=((sO s.outer).1 h.2.1).1;omega,fun r hr=> ?_⟩
 obtain⟨i,hi,rfl⟩:=Geo.mQ hr;have h2:=(h.2.2.1 i hi).1;unfold kG at h2;simp only[BI]at h2;have:=((sO _).1 h2.1.1).1;omega
theorem Kh(s:Geo.Shape):Geo.cD s=⟨Geo.dP s.outer,bQ s s.holes.length⟩:=by unfold Geo.cD bQ;rw[List.take_length]
theorem Az{s:Geo.Shape}(hf:Fit s):Fit (Geo.cD s):=by
 rw[Kh];refine⟨by dsimp only;rw[Geo.eH];exact hf.1,?_,fun r hr=> ?_⟩
 ·have:=wN s s.holes.length;have:=hf.2.1;dsimp only;omega
 ·obtain⟨q,hq,rfl⟩:=Fy hr;rw[Geo.eH];exact hf.2.2 q hq
theorem Gy{L:List Geo.aC}{k:Nat}(hk:k<L.length):(L.take (k+1)).flatten=(L.take k).flatten++aD L k:=by
 rw[List.take_add_one,List.flatten_append,List.getElem?_eq_getElem hk,jY hk];simp
theorem aCQ{L:List Geo.aC}(h:∀r∈L,r.length<=1000)(k:Nat)(hk:k<=L.length):((L.take k).flatten).length<=1000*k:=by
 induction k with
 |zero=>simp
 |succ k ih=>
  rw[Gy (by omega),List.length_append]
  have h1:=ih (by omega)
  have h3:=h _ (Geo.fQ (show k<L.length by omega))
  omega
def qSU(s:Geo.Shape)(i j:Nat):Prop:=Geo.bX (nth (aD (bQ s i) j) 0) (nth (Geo.dP (aD s.holes i)) 0)=true
def jSU(s:Geo.Shape)(i j:Nat):List Geo.aC:=(bQ s i).take j++[Geo.dP (aD s.holes i)] ++(bQ s i).drop j
theorem aBG{s:Geo.Shape}{i j:Nat}(h:bQ s (i+1)=jSU s i j):([] :List (List Geo.V))++List.take j (List.drop 0 (bQ s i))++[Geo.dP (aD s.holes i)] ++List.take ((bQ s i).length-j) (List.drop j (bQ s i))=bQ s (i+1):=by
 have e:List.take ((bQ s i).length-j) (List.drop j (bQ s i))=List.drop j (bQ s i):=List.take_of_length_le (by simp)
 rw[h,e];unfold jSU;simp
def aLN:Con:=con (a1 aSh) (fun s=>[Fit s,0<s.outer.length,(∀r∈s.holes,0<r.length)]) (fun s=> .agg [.lst .V (Geo.dP s.outer),.lst .R (bQ s s.holes.length)])
theorem aNJ:aLN.Ok Tryz.prog 130:=aR (bO aJt) (raw:=bT) (fun s=>[lp 3 4 s.holes.length (fun _=>[]) [900] (fun _=>[]) (fun k=>[(6,.box 26 [.lst .V (Geo.dP s.outer),.own 900 .R (bQ s k).length]),(900,.row 23 .R (bQ s k))]) fun i=>[cnt 7 6 (bQ s i).length (bH (qSU s i)),jN 9 6 fun j=>[j<=(bQ s i).length,bQ s (i+1)=jSU s i j]]]
  ) (fun _=>⟨_,rfl⟩) fun s hp=>bP (q:=s.outer.length<=100000/\(0=(0:Int)/\Geo.dP s.outer=Geo.dP s.outer/\(bQ s 0).length=0/\bQ s 0=([] :List (List Geo.V))/\(0:Nat)<=s.holes.length)/\
 (∀x:Nat,x<=s.holes.length->((x:Int)<s.holes.length->ix (x:Int) s.holes.length/\(aD s.holes x).length<=100000/\((0=(0:Int)/\(0:Nat)<=(bQ s x).length/\bH (qSU s x) 0)/\
    (∀x_1:Nat,x_1<=(bQ s x).length/\bH (qSU s x) x_1->((x_1:Int)<(bQ s x).length->ix (x_1:Int) (bQ s x).length/\x_1<(bQ s x).length/\ix 0 (aD (bQ s x) x_1).length/\ix 0 (Geo.dP (aD s.holes x)).length/\(Geo.bX (nth (aD (bQ s x) x_1) 0) (nth (Geo.dP (aD s.holes x)) 0)=true->aE ((x_1:Int)+1)/\(x_1:Int)+1=((x_1+1:Nat):Int)/\x_1+1<=(bQ s x).length/\bH (qSU s x) (x_1+1)/\(bQ s x).length-(x_1+1)<(bQ s x).length-x_1)/\
      (Geo.bX (nth (aD (bQ s x) x_1) 0) (nth (Geo.dP (aD s.holes x)) 0)=false->(x_1:Int)=x_1/\x_1<=(bQ s x).length/\bQ s (x+1)=jSU s x x_1))/\
     (¬(x_1:Int)<(bQ s x).length->(x_1:Int)=x_1/\x_1<=(bQ s x).length/\bQ s (x+1)=jSU s x x_1)))/\
   (∀y:Nat,y<=(bQ s x).length/\bQ s (x+1)=jSU s x y->(0<=(y:Int)/\(y:Int)<=(bQ s x).length)/\0+y<=(bQ s x).length/\([] :List (List Geo.V)).length+(List.take y (List.drop 0 (bQ s x))).length<=1000000/\(([] :List (List Geo.V))++List.take y (List.drop 0 (bQ s x))).length=(([] :List (List Geo.V))++List.take y (List.drop 0 (bQ s x))).length/\(([] :List (List Geo.V))++List.take y (List.drop 0 (bQ s x))).length+[Geo.dP (aD s.holes x)].length<=1000000/\(0<=(y:Int)/\(y:Int)<=(bQ s x).length)/\(([] :List (List Geo.V))++List.take y (List.drop 0 (bQ s x))++[Geo.dP (aD s.holes x)]).length=(([] :List (List Geo.V))++List.take y (List.drop 0 (bQ s x))++[Geo.dP (aD s.holes x)]).length/\y+((bQ s x).length-y)<=(bQ s x).length/\(([] :List (List Geo.V))++List.take y (List.drop 0 (bQ s x))++[Geo.dP (aD s.holes x)]).length+(List.take ((bQ s x).length-y) (List.drop y (bQ s x))).length<=1000000/\aE ((x:Int)+1)/\(x:Int)+1=((x+1:Nat):Int)/\Geo.dP s.outer=Geo.dP s.outer/\(([] :List (List Geo.V))++List.take y (List.drop 0 (bQ s x))++[Geo.dP (aD s.holes x)] ++List.take ((bQ s x).length-y) (List.drop y (bQ s x))).length=(bQ s (x+1)).length/\([] :List (List Geo.V))++List.take y (List.drop 0 (bQ s x))++[Geo.dP (aD s.holes x)] ++List.take ((bQ s x).length-y) (List.drop y (bQ s x))=bQ s (x+1)/\x+1<=s.holes.length/\s.holes.length-(x+1)<s.holes.length-x))/\
  (¬(x:Int)<s.holes.length->(bQ s x).length=(bQ s x).length/\Geo.dP s.outer=Geo.dP s.outer/\bQ s x=bQ s s.holes.length))) (by kernel_rfl) (by
  change Fit s/\0<s.outer.length/\((∀r∈s.holes,0<r.length))at hp;obtain⟨hf,hpo,hph⟩:=hp;have h1:=hf.1;have h2:=hf.2.1;have hh:= @Fit.hole s hf;have i0:bQ s 0=[] :=rfl;have hl:=wN s;have kf:∀k:Nat,¬(k:Int)<s.holes.length->k<=s.holes.length->bQ s k=bQ s s.holes.length:=fun k h1 h2=>by rw[show k=s.holes.length by omega]
  have kl:∀i j:Nat,(j:Int)<(bQ s i).length->aE ((j:Int)+1):=fun i j h=>eC (by have:=hl i;omega)
  have hb:∀i,i<s.holes.length->ix 0 (Geo.dP (aD s.holes i)).length:=fun i h=>nB (by rw[Geo.eH];exact hph _ (Geo.fQ h))
  have hq:∀i j,j<(bQ s i).length->ix 0 (aD (bQ s i) j).length:=fun i j h=>nB (Ua hph h)
  have hj1:∀i j:Nat,¬(j:Int)<(bQ s i).length->j<=(bQ s i).length->bH (qSU s i) j->i<s.holes.length->bQ s (i+1)=jSU s i j:=fun i j h1 h2 h3 h=>by rw[Bs h];exact Ya h2 h3 (fun h=>by omega)
  have hj2:∀i j:Nat,Geo.bX (nth (aD (bQ s i) j) 0) (nth (Geo.dP (aD s.holes i)) 0)=false->j<=(bQ s i).length->bH (qSU s i) j->i<s.holes.length->bQ s (i+1)=jSU s i j:=fun i j h1 h2 h3 h=>by rw[Bs h];exact Ya h2 h3 (fun _=>h1)
  repeat' first|with_reducible apply And.intro|with_reducible intro
  all_goals repeat with_reducible cases‹_/\_›
  all_goals first|assumption|rfl|exact trivial|exact nb ‹_› |exact nb' ‹_› |omega|exact cV (by omega)|(unfold ix;omega)|(unfold aE;omega)|exact bG _|exact aA ‹_› ‹_› |(refine aA ‹_› ?_;simp_all;done)|exact kf _ ‹_› ‹_› |exact kl _ _ ‹_› |exact Nat.le_trans (hh (by omega)) (by decide)|exact hb _ (by omega)|exact hq _ _ (by omega)|exact hj1 _ _ ‹_› ‹_› ‹_› (by omega)|exact hj2 _ _ ‹_› ‹_› ‹_› (by omega)|exact aBG ‹_› |exact congrArg List.length (aBG ‹_›)|(simp;omega)|grind)
def aKx:Tab:=cK [(130,aLN)] t27
theorem aGQ:aKx.Ok Tryz.prog:=aH aJt ⟨aNJ,trivial⟩
def c59:Con:=con (a1 aSh) (fun s=>[Fit s,Geo.bD s=true]) (fun s=>aSh.enc (Geo.cD s)
 )
theorem k59:c59.Ok Tryz.prog 59:=aR (bO aGQ) (raw:=bT) (fun _=>[]) (fun _=>⟨_,rfl⟩) fun s hp=>bP (q:=Fit s/\((!Geo.bD s)=true->(Geo.cD s).outer=([] :List Geo.V)/\(Geo.cD s).holes=([] :List (List Geo.V)))/\
 ((!Geo.bD s)=false->Fit s/\(0:Nat)<s.outer.length/\(∀r:Geo.aC,r∈s.holes->(0:Nat)<r.length)/\Geo.dP s.outer=(Geo.cD s).outer/\bQ s s.holes.length=(Geo.cD s).holes)) (by kernel_rfl) (by
  change Fit s/\Geo.bD s=true at hp;have h:=Re hp.2;have e:=Kh s;refine⟨hp.1,fun hh=> ?_,fun _=>⟨hp.1,h.1,h.2,by rw[e],by rw[e]⟩⟩
  rw[hp.2]at hh;cases hh)
def t59:Tab:=cK [(59,c59)] aKx
theorem aJm:t59.Ok Tryz.prog:=aH aGQ ⟨k59,trivial⟩
def vOf(s:Geo.Shape):List Geo.V:=if Geo.bD s=true then Geo.bJ (Geo.cD s)else []
def eOf(s:Geo.Shape):Int:=if Geo.bD s=true then 0 else 11
def vU(s:Geo.Shape)(k:Nat):List Geo.V:=((Geo.aG (Geo.cD s)).take (k+1)).flatten
theorem Ln{s:Geo.Shape}{k:Nat}(h:k<(Geo.cD s).holes.length):vU s k++aD (Geo.cD s).holes k=vU s (k+1):=by
 unfold vU;rw[Gy (L:=Geo.aG (Geo.cD s)) (k:=k+1) (by simp[Geo.aG];omega)];rfl
def c18:Con:=con (a1 aSh) (fun s=>[Fit s]) (fun s=> .tup [.lst .V (vOf s),.int .i64 (eOf s)])
theorem k18:c18.Ok Tryz.prog 18:=aR (bO aJm) (raw:=bT) (fun s=>[lp 6 6 (Geo.cD s).holes.length (fun _=>[]) [13] (fun k=>[(5,.own 13 .V (vU s k).length)]) (fun k=>[(13,.row 44 .V (vU s k))])]
  ) (fun _=>⟨_,rfl⟩) fun s hp=>bP (q:=Fit s/\((!Geo.bD s)=true->vOf s=([] :List Geo.V)/\11=eOf s)/\
 ((!Geo.bD s)=false->Fit s/\Geo.bD s=true/\([] :List Geo.V).length+(Geo.cD s).outer.length<=1000000/\(0=(0:Int)/\(([] :List Geo.V)++(Geo.cD s).outer).length=(vU s 0).length/\([] :List Geo.V)++(Geo.cD s).outer=vU s 0/\(0:Nat)<=(Geo.cD s).holes.length)/\
  (∀x:Nat,x<=(Geo.cD s).holes.length->((x:Int)<(Geo.cD s).holes.length->ix (x:Int) (Geo.cD s).holes.length/\(vU s x).length=(vU s x).length/\(vU s x).length+(aD (Geo.cD s).holes x).length<=1000000/\aE ((x:Int)+1)/\(x:Int)+1=((x+1:Nat):Int)/\(vU s x++aD (Geo.cD s).holes x).length=(vU s (x+1)).length/\vU s x++aD (Geo.cD s).holes x=vU s (x+1)/\x+1<=(Geo.cD s).holes.length/\(Geo.cD s).holes.length-(x+1)<(Geo.cD s).holes.length-x)/\
   (¬(x:Int)<(Geo.cD s).holes.length->(vU s x).length=(vU s x).length/\vU s x=vOf s/\0=eOf s)))) (by kernel_rfl) (by
  change Fit s at hp;have hc:=Az hp;have h1:=hc.1;have h2:=hc.2.1;have e0:vU s 0=[] ++(Geo.cD s).outer:=by simp[vU,Geo.aG]
  have el:∀k,k<(Geo.cD s).holes.length->(vU s k).length+(aD (Geo.cD s).holes k).length<=1000000:=fun k h=>by
   have:=aCQ hc.rings (k+2) (by simp[Geo.aG];omega)
   rw[<-List.length_append,Ln h];exact Nat.le_trans this (by omega)
  have ea:∀k:Nat,¬(k:Int)<(Geo.cD s).holes.length->k<=(Geo.cD s).holes.length->(!Geo.bD s)=false->vU s k=vOf s:=fun k h1 h2 h3=>by
   obtain rfl:k=(Geo.cD s).holes.length:=by omega
   unfold vOf;rw[nb h3,if_pos rfl];unfold vU Geo.bJ;rw[List.take_of_length_le (by simp[Geo.aG])]
  have hv0:(!Geo.bD s)=true->vOf s=[]/\eOf s=11:=fun h=>by unfold vOf eOf;rw[nb' h];exact⟨rfl,rfl⟩
  have hv1:(!Geo.bD s)=false->eOf s=0:=fun h=>by unfold eOf;rw[nb h];rfl
  repeat' first|with_reducible apply And.intro|with_reducible intro
  all_goals repeat with_reducible cases‹_/\_›
  all_goals first|assumption|rfl|exact trivial|exact nb ‹_› |exact nb' ‹_› |omega|exact cV (by omega)|(unfold ix;omega)|(unfold aE;omega)|exact bG _|exact aA ‹_› ‹_› |(refine aA ‹_› ?_;simp_all;done)|exact Ln (by omega)|exact congrArg List.length (Ln (by omega))|exact el _ (by omega)|exact ea _ ‹_› ‹_› ‹_› |exact(hv0 ‹_›).1.symm|exact(hv0 ‹_›).1|exact(hv0 ‹_›).2.symm|exact(hv1 ‹_›).symm|(rw[e0];done)|(simp;omega)|grind)
def t18:Tab:=cK [(18,c18)] t59
theorem aMI:t18.Ok Tryz.prog:=aH aJm ⟨k18,trivial⟩
end
end Go.Proofs.YtdaeofhdgabhjaaGreat
namespace Go.Proofs.YtdaeofhdgabhjaaGreat
open Go.RowKit
noncomputable section
def t31:Tab:=t18
theorem aMF:t31.Ok Tryz.prog:=aMI
def t69:Tab:=t31
theorem aMB:t69.Ok Tryz.prog:=aMF
def t75:Tab:=t69
theorem aMy:t75.Ok Tryz.prog:=aMB
def t72:Tab:=t75
theorem aMA:t72.Ok Tryz.prog:=aMy
theorem Ee{s:Geo.Shape}(h:Geo.VS s):(Geo.bJ (Geo.cD s)).length<=80:=by
 have h1:=(Geo.kO s).length_eq;have h2:=h.corners;unfold Geo.dL at h2;rw[h1];unfold Geo.bJ;rw[List.length_flatten];exact h2
theorem aD3{s:Geo.Shape}(h:Geo.VS s):∀x∈Geo.bJ (Geo.cD s),Geo.aJ x 2000=true:=by
 intro x hx;have hx:=(Geo.kO s).subset hx;unfold Geo.bJ at hx;obtain⟨r,hr,hxr⟩:=List.mem_flatten.1 hx;have hn:=(h.ring hr).near;unfold Geo.near at hn;rw[List.all_eq_true]at hn;exact hn x hxr
theorem vsR{s:Geo.Shape}(hv:Geo.bD s=true):Geo.VS s:=(Geo.fR s).1 (by rw[Geo.mB];exact hv)
def aId(c:Bool)(out:List Geo.S)(d:Geo.S)(k:Nat):Bool:=c&&(out.take k).all fun e=>Geo.dR e d !=2
def dOf(s:Geo.Shape):List Geo.S:=if Geo.bD s=true then Geo.rI s (vOf s)else []
def dJ(s:Geo.Shape)(v:List Geo.V)(i j:Nat):List Geo.S:=Geo.Yk s v (Geo.Ad s v i) i (j-(i+1))
def dW(s:Geo.Shape)(v:List Geo.V)(i j:Nat)(k:Nat):Bool:=aId (Geo.sG s ⟨Geo.nth v i,Geo.nth v j⟩) (dJ s v i j) ⟨Geo.nth v i,Geo.nth v j⟩ k
theorem Kt(s:Geo.Shape):(vOf s).length<=80:=by
 unfold vOf;split
 ·exact Ee (vsR ‹_›)
 ·simp
theorem Ss{s:Geo.Shape}{i:Nat}(h:i<(vOf s).length){M:Int}(hM:2000<=M:=by decide):bd M (Geo.nth (vOf s) i):=by
 by_cases hv:Geo.bD s=true
 ·have e:vOf s=Geo.bJ (Geo.cD s):=if_pos hv;rw[e]at h|-;exact rJ (aD3 (vsR hv) _ (Geo.gT h)) hM
 ·have e:vOf s=[] :=if_neg hv;rw[e]at h;simp at h
theorem aIh{s:Geo.Shape}(h:¬eOf s=0):dOf s=[]/\vOf s=[] :=by
 unfold eOf at h;split at h
 ·exact(h rfl).elim
 ·exact⟨if_neg ‹_›,if_neg ‹_›⟩
theorem Mj{s:Geo.Shape}(h:¬¬eOf s=0):Geo.bD s=true:=by
 unfold eOf at h;split at h
 ·assumption
 ·exact(h (by decide)).elim
def t20:Tab:=t72
theorem aMH:t20.Ok Tryz.prog:=aMA
end
end Go.Proofs.YtdaeofhdgabhjaaGreat
namespace Go.Proofs.YtdaeofhdgabhjaaGreat
open Go.RowKit
section
def Id(s:Geo.Shape)(v:List Geo.V)(T:Geo.Tab)(i j:Nat)(acc:List Geo.aC)(k:Nat):List Geo.aC:=
 if T i k&&(T j k&&Geo.gZ s v i j k)then acc++[Geo.kA (Geo.nth v i) (Geo.nth v j) (Geo.nth v k)]else acc
def Di(s:Geo.Shape)(v:List Geo.V)(T:Geo.Tab)(i j:Nat)(acc:List Geo.aC):Nat->List Geo.aC
 |0=>acc
 |m+1=>Id s v T i j (Di s v T i j acc m) (j+1+m)
def Ch(s:Geo.Shape)(v:List Geo.V)(T:Geo.Tab)(i:Nat)(acc:List Geo.aC):Nat->List Geo.aC
 |0=>acc
 |m+1=>if T i (i+1+m)then Di s v T i (i+1+m) (Ch s v T i acc m) (v.length-(i+1+m+1))else Ch s v T i acc m
def kC(s:Geo.Shape)(v:List Geo.V)(T:Geo.Tab):Nat->List Geo.aC
 |0=>[]
 |i+1=>Ch s v T i (kC s v T i) (v.length-(i+1))
def aA6(s:Geo.Shape)(v:List Geo.V)(T:Geo.Tab):List Geo.aC:=kC s v T v.length
variable (s:Geo.Shape) (v:List Geo.V) (T:Geo.Tab)
theorem Ft(a b c:Geo.V):(Geo.kA a b c).length<=1000:=by
 unfold Geo.kA Geo.cX;split<;>split<;>first|(rw[Geo.eH];simp)|simp
theorem uS(i j:Nat)(acc:List Geo.aC):∀m,(Di s v T i j acc m).length<=acc.length+m
 |0=>Nat.le_refl _
 |m+1=>by
  have:=uS i j acc m;unfold Di Id;split
  ·simp;omega
  ·omega
theorem uT(i:Nat)(acc:List Geo.aC):∀m,(Ch s v T i acc m).length<=acc.length+m*v.length
 |0=>by simp[Ch]
 |m+1=>by
  have h1:=uT i acc m;have h2:=uS s v T i (i+1+m) (Ch s v T i acc m) (v.length-(i+1+m+1));unfold Ch;rw[Nat.add_mul];split<;>omega
theorem qT:∀i,(kC s v T i).length<=i*(v.length*v.length)
 |0=>by simp[kC]
 |i+1=>by
  have h1:=qT i;have h2:=uT s v T i (kC s v T i) (v.length-(i+1));have h3:(v.length-(i+1))*v.length<=v.length*v.length:=Nat.mul_le_mul_right _ (by omega)
  unfold kC;rw[Nat.add_mul];omega
theorem Gr(i j:Nat)(acc:List Geo.aC)(h:∀r∈acc,r.length<=1000):∀m,∀r∈Di s v T i j acc m,r.length<=1000
 |0=>h
 |m+1=>by
  have h1:=Gr i j acc h m;unfold Di Id;split
  ·intro r hr;rcases List.mem_append.1 hr with hr|hr
   ·exact h1 r hr
   ·rw[List.mem_singleton.1 hr];exact Ft _ _ _
  ·exact h1
theorem Gs(i:Nat)(acc:List Geo.aC)(h:∀r∈acc,r.length<=1000):∀m,∀r∈Ch s v T i acc m,r.length<=1000
 |0=>h
 |m+1=>by
  have h1:=Gs i acc h m;unfold Ch;split
  ·exact Gr s v T i _ _ h1 _
  ·exact h1
theorem Gu:∀i,∀r∈kC s v T i,r.length<=1000
 |0=>by simp[kC]
 |i+1=>Gs s v T i _ (Gu i) _
end
def tJ(s:Geo.Shape)(v:List Geo.V)(T:Geo.Tab)(i j:Nat):List Geo.aC:=Ch s v T i (kC s v T i) (j-(i+1))
def tK(s:Geo.Shape)(v:List Geo.V)(T:Geo.Tab)(i j k:Nat):List Geo.aC:=Di s v T i j (tJ s v T i j) (k-(j+1))
section
variable {s:Geo.Shape} {v:List Geo.V} {T:Geo.Tab} {i j k:Nat}
theorem aEa:tJ s v T i (i+1)=kC s v T i:=by unfold tJ;rw[Nat.sub_self];rfl
theorem aHJ(hj:¬(j:Int)<v.length)(h:j<=v.length):tJ s v T i j=kC s v T (i+1):=by
 obtain rfl:j=v.length:=by omega
 rfl
theorem Wp:tK s v T i j (j+1)=tJ s v T i j:=by unfold tK;rw[Nat.sub_self];rfl
theorem aD9(h:j<k):tK s v T i j (k+1)=Id s v T i j (tK s v T i j k) k:=by
 unfold tK;rw[show k+1-(j+1)=(k-(j+1))+1 by omega]
 show Id s v T i j _ (j+1+(k-(j+1)))=_;rw[show j+1+(k-(j+1))=k by omega]
theorem Wq(h:i<j):tJ s v T i (j+1)=if T i j then Di s v T i j (tJ s v T i j) (v.length-(j+1))else tJ s v T i j:=by
 unfold tJ;rw[show j+1-(i+1)=(j-(i+1))+1 by omega]
 show(if T i (i+1+(j-(i+1)))=true then Di s v T i (i+1+(j-(i+1))) _ (v.length-(i+1+(j-(i+1))+1))else _)=_
 rw[show i+1+(j-(i+1))=j by omega]
theorem aL7(hT:T i j=false)(h:i<j):tJ s v T i j=tJ s v T i (j+1):=by rw[Wq h,hT];rfl
theorem aHI(hk:¬(k:Int)<v.length)(hT:T i j=true)(h:i<j)(h2:k<=v.length):tK s v T i j k=tJ s v T i (j+1):=by
 obtain rfl:k=v.length:=by omega
 rw[Wq h,hT];rfl
theorem aHH(hv:v.length<=80)(hi:i<v.length)(hj:j<v.length)(hk:k<=v.length):(Geo.xV (tK s v T i j k)).length<=600000:=by
 rw[(Geo.lV _).length_eq];have h1:=uS s v T i j (tJ s v T i j) (k-(j+1));have h2:=uT s v T i (kC s v T i) (j-(i+1));have h3:=qT s v T i;have h4:v.length*v.length<=80*80:=Nat.mul_le_mul hv hv;have h5:i*(v.length*v.length)<=80*(80*80):=Nat.mul_le_mul (by omega) h4
 have h6:(j-(i+1))*v.length<=80*80:=Nat.mul_le_mul (by omega) hv
 unfold tK;unfold tJ at h1|-;omega
end
def tri(a b c:Geo.V):Geo.aC:=if Geo.turn a b c<0 then [a,c,b]else [a,b,c]
def tT(s:Geo.Shape):Geo.Tab:=Geo.gU s (vOf s)
def tOf(s:Geo.Shape):List Geo.aC:=if Geo.bD s=true then Geo.xV (aA6 s (vOf s) (tT s))else []
theorem Lo{s:Geo.Shape}(h:Geo.bD s=true):vOf s=Geo.bJ (Geo.cD s):=if_pos h
theorem yQ{s:Geo.Shape}(h:Geo.bD s=true):dOf s=Geo.rI s (vOf s):=if_pos h
theorem aL6{s:Geo.Shape}(h:Geo.bD s=true){i k:Nat}(hi:i<(vOf s).length)(hk:k<(vOf s).length):Geo.yL (dOf s++Geo.aQ s) (Geo.nth (vOf s) i) (Geo.nth (vOf s) k)=tT s i k:=by
 unfold tT;rw[yQ h];rw[Lo h]at hi hk|-;exact(Geo.aAk (vsR h) hi hk).symm
noncomputable def t22:Tab:=t20
theorem aJx:t22.Ok Tryz.prog:=aMH
end Go.Proofs.YtdaeofhdgabhjaaGreat
namespace Go.Proofs.YtdaeofhdgabhjaaGreat
open Go.RowKit
set_option maxRecDepth 100000
noncomputable section
open Geo (aD)
theorem aCy{a b:List Geo.aC}(hl:a.length=b.length)(h:∀j,j<a.length->aD a j=aD b j):a=b:=List.ext_getElem hl fun i h1 h2=>by rw[<-jY h1,<-jY h2];exact h i h1
theorem aCw{a b:List Geo.S}(hl:a.length=b.length)(h:∀j,j<a.length->bC a j=bC b j):a=b:=List.ext_getElem hl fun i h1 h2=>by rw[<-gA h1,<-gA h2];exact h i h1
def wH(s:Geo.Shape):Nat->Int
 |0=>s.outer.length
 |k+1=>IntKind.i64.wrap (wH s k+((aD s.holes k).length:Int))
theorem Gm:∀{l:List Nat} {x:Nat},x∈l->x<=l.sum
 |y::l,x,h=>by
  rcases List.mem_cons.1 h with rfl|h
  ·simp
  ·have:=Gm h;simp;omega
def qD(s:Geo.Shape):Bool:=decide (wH s s.holes.length<=20)&&decide ((s.holes.length:Int)<=3)
def tG(s:Geo.Shape):Prop:=s.outer.length<=1000000000000000000/\s.holes.length<=1000000000000000000/\∀r∈s.holes,r.length<=1000000000000000000
theorem Gz{s:Geo.Shape}(hB:tG s):∀k,k<=s.holes.length->k<=3->wH s k=(jB s k:Int)/\wH s k<=1000000000000000000*((k:Int)+1)
 |0,_,_=>by have:=hB.1;rw[uV];exact⟨rfl,by show(s.outer.length:Int)<=_;omega⟩
 |k+1,h1,h2=>by
  obtain⟨g1,g2⟩:=Gz hB k (by omega) (by omega)
  have h3:=hB.2.2 _ (Geo.fQ (show k<s.holes.length by omega))
  have h4:wH s (k+1)=IntKind.i64.wrap (wH s k+((aD s.holes k).length:Int)):=rfl;rw[h4,IntWalk.i64_in _ (by omega),uX (by omega)]
  omega
theorem Qj{s:Geo.Shape}(hB:tG s)(h:qD s=true):Fit s:=by
 unfold qD at h;simp only[BI]at h;have h1:=(Gz hB s.holes.length (Nat.le_refl _) (by omega)).1
 rw[h1,Hd]at h;have h2:Geo.dL s<=20:=by omega
 unfold Geo.dL at h2;have h3:∀r∈Geo.aG s,r.length<=20:=fun r hr=>Nat.le_trans (Gm (List.mem_map.2 ⟨r,hr,rfl⟩)) h2
 exact⟨by have:=h3 s.outer (by simp[Geo.aG]);omega,by omega,fun r hr=>by have:=h3 r (by simp[Geo.aG,hr]);omega⟩
def c24:Con:=con (ac (aL .S) (a1 (aL .S))) (fun(a,_)=>[a.length<=1000000]) (fun(a,b)=> .bool (a==b))
theorem k24:c24.Ok Tryz.prog 24:=aR (bO aJx) (raw:=bT) (fun(a,b)=>[cnt 4 5 a.length (bH fun j=>bC a j=bC b j)]
  ) (fun(_,_)=>⟨_,rfl⟩) fun(a,b) hp=>bP (q:=(¬(a.length:Int)=b.length->false=(a==b))/\
 (¬(¬(a.length:Int)=b.length)->(0=(0:Int)/\(0:Nat)<=a.length/\bH (fun j=>bC a j=bC b j) 0)/\
  (∀x:Nat,x<=a.length/\bH (fun j=>bC a j=bC b j) x->((x:Int)<a.length->ix (x:Int) a.length/\ix (x:Int) b.length/\(¬(bC a x)=(bC b x)->false=(a==b))/\
    (¬(¬(bC a x)=(bC b x))->aE ((x:Int)+1)/\(x:Int)+1=((x+1:Nat):Int)/\x+1<=a.length/\bH (fun j=>bC a j=bC b j) (x+1)/\a.length-(x+1)<a.length-x))/\
   (¬(x:Int)<a.length->true=(a==b))))) (by kernel_rfl) (by
  change a.length<=1000000 at hp;have h1:¬(a.length:Int)=b.length->false=(a==b):=fun h=>by symm;rw[beq_eq_false_iff_ne];intro e;subst e;omega
  have h2:∀{x},¬bC a x=bC b x->false=(a==b):=fun h=>by symm;rw[beq_eq_false_iff_ne];intro e;subst e;exact h rfl
  have h3:∀x:Nat,¬(x:Int)<a.length->bH (fun j=>bC a j=bC b j) x->¬¬(a.length:Int)=b.length->true=(a==b):=fun x h1 h2 h3=>by symm;rw[beq_iff_eq];exact aCw (by omega) fun j hj=>h2 j (by omega)
  repeat' first|with_reducible apply And.intro|with_reducible intro
  all_goals repeat with_reducible cases‹_/\_›
  all_goals first|assumption|rfl|exact trivial|exact nb ‹_› |exact nb' ‹_› |omega|exact cV (by omega)|(unfold ix;omega)|(unfold aE;omega)|exact bG _|exact aA ‹_› ‹_› |(refine aA ‹_› ?_;simp_all;done)|exact h1 ‹_› |exact h2 ‹_› |exact h3 _ ‹_› ‹_› ‹_› |exact aA ‹_› (Decidable.of_not_not ‹¬¬bC _ _=_›)|grind)
def t24:Tab:=cK [(24,c24)] t22
theorem aJv:t24.Ok Tryz.prog:=aH aJx ⟨k24,trivial⟩
def c25:Con:=con (ac (aL .R) (a1 (aL .R))) (fun(a,_)=>[a.length<=1000000,(∀r∈a,r.length<=100000)]) (fun(a,b)=> .bool (a==b))
theorem k25:c25.Ok Tryz.prog 25:=aR (bO aJv) (raw:=bT) (fun(a,b)=>[cnt 4 5 a.length (bH fun j=>aD a j=aD b j)]
  ) (fun(_,_)=>⟨_,rfl⟩) fun(a,b) hp=>bP (q:=(¬(a.length:Int)=b.length->false=(a==b))/\
 (¬(¬(a.length:Int)=b.length)->(0=(0:Int)/\(0:Nat)<=a.length/\bH (fun j=>aD a j=aD b j) 0)/\
  (∀x:Nat,x<=a.length/\bH (fun j=>aD a j=aD b j) x->((x:Int)<a.length->ix (x:Int) a.length/\ix (x:Int) b.length/\(aD a x).length<=1000000/\((!aD a x==aD b x)=true->false=(a==b))/\
    ((!aD a x==aD b x)=false->aE ((x:Int)+1)/\(x:Int)+1=((x+1:Nat):Int)/\x+1<=a.length/\bH (fun j=>aD a j=aD b j) (x+1)/\a.length-(x+1)<a.length-x))/\
   (¬(x:Int)<a.length->true=(a==b))))) (by kernel_rfl) (by
  change a.length<=1000000/\((∀r∈a,r.length<=100000))at hp;have h0:∀x,x<a.length->(aD a x).length<=1000000:=fun x h=>Nat.le_trans (hp.2 _ (Geo.fQ h)) (by decide)
  have h1:¬(a.length:Int)=b.length->false=(a==b):=fun h=>by symm;rw[beq_eq_false_iff_ne];intro e;subst e;omega
  have h2:∀{x},(!aD a x==aD b x)=true->false=(a==b):=fun h=>by symm;rw[beq_eq_false_iff_ne];intro e;subst e;simp at h
  have h3:∀x:Nat,¬(x:Int)<a.length->bH (fun j=>aD a j=aD b j) x->¬¬(a.length:Int)=b.length->true=(a==b):=fun x h1 h2 h3=>by symm;rw[beq_iff_eq];exact aCy (by omega) fun j hj=>h2 j (by omega)
  have h4:∀{x},(!aD a x==aD b x)=false->aD a x=aD b x:=fun h=>by simpa using h
  repeat' first|with_reducible apply And.intro|with_reducible intro
  all_goals repeat with_reducible cases‹_/\_›
  all_goals first|assumption|rfl|exact trivial|exact nb ‹_› |exact nb' ‹_› |omega|exact cV (by omega)|(unfold ix;omega)|(unfold aE;omega)|exact bG _|exact aA ‹_› ‹_› |(refine aA ‹_› ?_;simp_all;done)|exact h0 _ (by omega)|exact h1 ‹_› |exact h2 ‹_› |exact h3 _ ‹_› ‹_› ‹_› |exact aA ‹_› (h4 ‹_›)|grind)
def t25:Tab:=cK [(25,c25)] t24
theorem aJu:t25.Ok Tryz.prog:=aH aJv ⟨k25,trivial⟩
def c16:Con:=con (a1 aSh) (fun s=>[tG s]) (fun s=> .bool (qD s))
theorem k16:c16.Ok Tryz.prog 16:=aR (bO aJu) (raw:=fun r i=>Nat.beq r 5&&Nat.beq i 7) (fun s=>[lp 3 4 s.holes.length (fun _=>[]) [] (fun k=>[(3,.int .i64 (wH s k))]) (fun _=>[])]
  ) (fun _=>⟨_,rfl⟩) fun s hp=>bP (q:=(0=(0:Int)/\(s.outer.length:Int)=wH s 0/\(0:Nat)<=s.holes.length)/\
 (∀x:Nat,x<=s.holes.length->((x:Int)<s.holes.length->ix (x:Int) s.holes.length/\aE ((x:Int)+1)/\(x:Int)+1=((x+1:Nat):Int)/\IntKind.wrap IntKind.i64 (wH s x+(aD s.holes x).length)=wH s (x+1)/\x+1<=s.holes.length/\s.holes.length-(x+1)<s.holes.length-x)/\
  (¬(x:Int)<s.holes.length->(wH s x<=20->decide ((s.holes.length:Int)<=3)=qD s)/\
   (¬wH s x<=20->false=qD s)))) (by kernel_rfl) (by
  change tG s at hp;have hh:=hp.2.1;have e1:∀k:Nat,¬(k:Int)<s.holes.length->k<=s.holes.length->wH s k=wH s s.holes.length:=fun k h1 h2=>by rw[show k=s.holes.length by omega]
  have e2:∀k:Nat,wH s k<=20->¬(k:Int)<s.holes.length->k<=s.holes.length->decide ((s.holes.length:Int)<=3)=qD s:=fun k h h1 h2=>by
   unfold qD;rw[e1 k h1 h2]at h;rw[decide_eq_true h,Bool.true_and]
  have e3:∀k:Nat,¬wH s k<=20->¬(k:Int)<s.holes.length->k<=s.holes.length->false=qD s:=fun k h h1 h2=>by
   unfold qD;rw[e1 k h1 h2]at h;rw[decide_eq_false h,Bool.false_and]
  repeat' first|with_reducible apply And.intro|with_reducible intro
  all_goals repeat with_reducible cases‹_/\_›
  all_goals first|assumption|rfl|exact trivial|exact nb ‹_› |exact nb' ‹_› |omega|exact cV (by omega)|(unfold ix;omega)|(unfold aE;omega)|exact bG _|exact aA ‹_› ‹_› |(refine aA ‹_› ?_;simp_all;done)|exact e2 _ ‹_› ‹_› ‹_› |exact e3 _ ‹_› ‹_› ‹_› |grind)
def t16:Tab:=cK [(16,c16)] t25
theorem aJ0:t16.Ok Tryz.prog:=aH aJu ⟨k16,trivial⟩
end
end Go.Proofs.YtdaeofhdgabhjaaGreat
namespace Go.Proofs.YtdaeofhdgabhjaaGreat
open Go.RowKit
set_option maxRecDepth 100000
noncomputable section
open Geo (nth)
def aLb:Con:=con (a1 aI) (fun _=>[]) (fun _=> .bool false
 )
theorem aM7:aLb.Ok Tryz.prog 184:=aR (bO aJ0) (raw:=bT) (fun _=>[]) (fun _=>⟨_,rfl⟩) fun x _=>bP (q:=decide (¬x=x)=false) (by kernel_rfl) (by
 repeat' first|with_reducible apply And.intro|with_reducible intro
 all_goals repeat with_reducible cases‹_/\_›
 all_goals first|assumption|rfl|exact trivial|exact nb ‹_› |exact nb' ‹_› |omega|exact cV (by omega)|(unfold ix;omega)|(unfold aE;omega)|exact bG _|exact aA ‹_› ‹_› |(refine aA ‹_› ?_;simp_all;done)|simp|grind)
def aJS:Tab:=cK [(184,aLb)] t16
theorem aGe:aJS.Ok Tryz.prog:=aH aJ0 ⟨aM7,trivial⟩
def aLH:Con:=con (ac aI (a1 aI)) (fun(_,_)=>[]) (fun(x,y)=> .int .i64 (Geo.fV x y)
 )
theorem aND:aLH.Ok Tryz.prog 137:=aR (bO aGe) (raw:=bT) (fun(_,_)=>[]) (fun(_,_)=>⟨_,rfl⟩) fun(x,y) _=>bP (q:=(false=true->(false=true->0=Geo.fV x y)/\
  (false=false-> -1=Geo.fV x y))/\
 (false=false->(false=true->1=Geo.fV x y)/\
  (false=false->(x<y-> -1=Geo.fV x y)/\
   (¬x<y->(y<x->1=Geo.fV x y)/\
    (¬y<x->0=Geo.fV x y))))) (by kernel_rfl) (by
  unfold Geo.fV;grind)
def aKs:Tab:=cK [(137,aLH)] aJS
theorem aGL:aKs.Ok Tryz.prog:=aH aGe ⟨aND,trivial⟩
def orU(l:List Int)(k:Nat):Prop:=∀j,j<k->Ns l j=0
def orL:List Int->Int
 |[] =>0
 |x::l=>if x=0 then orL l else x
theorem aBy:∀{l:List Int} {k:Nat},¬Ns l k=0->orU l k->k<l.length->Ns l k=orL l
 |[],k,_,_,h=>by simp at h
 |x::l,0,h,_,_=>by
  have h:¬x=0:=h;show x=orL (x::l);unfold orL;rw[if_neg h]
 |x::l,k+1,h,h2,h3=>by
  have h0:x=0:=h2 0 (by omega)
  show Ns l k=orL (x::l);unfold orL;rw[if_pos h0];exact aBy h (fun j hj=>h2 (j+1) (by omega)) (by simpa using h3)
theorem Xi:∀{l:List Int},orU l l.length->0=orL l
 |[],_=>rfl
 |x::l,h=>by
  have h0:x=0:=h 0 (by simp)
  unfold orL;rw[if_pos h0];exact Xi fun j hj=>h (j+1) (by simpa using hj)
def aLy:Con:=con (a1 (aL .I)) (fun l=>[l.length<=1000]) (fun l=> .int .i64 (orL l))
theorem aNu:aLy.Ok Tryz.prog 148:=aR (bO aGL) (raw:=bT) (fun l=>[cnt 3 8 l.length (orU l)]
  ) (fun _=>⟨_,rfl⟩) fun l hp=>bP (q:=(0=(0:Int)/\(0:Nat)<=l.length/\orU l 0)/\
 (∀x:Nat,x<=l.length/\orU l x->((x:Int)<l.length->ix (x:Int) l.length/\(¬Ns l x=0->Ns l x=orL l)/\
   (¬(¬Ns l x=0)->aE ((x:Int)+1)/\(x:Int)+1=((x+1:Nat):Int)/\x+1<=l.length/\orU l (x+1)/\l.length-(x+1)<l.length-x))/\
  (¬(x:Int)<l.length->0=orL l))) (by kernel_rfl) (by
  change l.length<=1000 at hp
  repeat' first|with_reducible apply And.intro|with_reducible intro
  all_goals repeat with_reducible cases‹_/\_›
  all_goals first|assumption|rfl|exact trivial|exact nb ‹_› |exact nb' ‹_› |omega|exact cV (by omega)|(unfold ix;omega)|(unfold aE;omega)|exact bG _|exact aA ‹_› ‹_› |(refine aA ‹_› ?_;simp_all;done)|exact aBy ‹_› ‹_› (by omega)|(obtain rfl:_=l.length:=Nat.le_antisymm ‹_› (by omega);exact Xi ‹_›)|(refine aA ‹_› ?_;exact Decidable.of_not_not ‹¬¬_›)|grind)
def aKj:Tab:=cK [(148,aLy)] aKs
theorem aGD:aKj.Ok Tryz.prog:=aH aGL ⟨aNu,trivial⟩
def c78:Con:=con (ac aV (a1 aV)) (fun(_,_)=>[]) (fun(a,b)=> .int .i64 (Geo.fF a b)
 )
theorem k78:c78.Ok Tryz.prog 78:=aR (bO aGD) (raw:=bT) (fun(_,_)=>[]) (fun(_,_)=>⟨_,rfl⟩) fun(a,b) _=>bP (q:=[Geo.fV a.y b.y,Geo.fV a.x b.x].length<=1000/\orL [Geo.fV a.y b.y,Geo.fV a.x b.x] =Geo.fF a b) (by kernel_rfl) (by
 refine⟨by simp,?_⟩
 unfold Geo.fF;simp only[orL];grind)
def t78:Tab:=cK [(78,c78)] aKj
theorem aI9:t78.Ok Tryz.prog:=aH aGD ⟨k78,trivial⟩
def aKV:Con:=con (ac aV (a1 aV)) (fun(_,_)=>[]) (fun(a,b)=> .bool (Geo.bX a b)
 )
theorem aMR:aKV.Ok Tryz.prog 220:=aR (bO aI9) (raw:=bT) (fun(_,_)=>[]) (fun(_,_)=>⟨_,rfl⟩) fun(a,b) _=>bP (q:=decide (Geo.fF a b<0)=Geo.bX a b) (by kernel_rfl) (by
 unfold Geo.bX Geo.fF Geo.fV;grind)
def aJA:Tab:=cK [(220,aKV)] t78
theorem aFY:aJA.Ok Tryz.prog:=aH aI9 ⟨aMR,trivial⟩
def aLS:Con:=con (ac aV (a1 aV)) (fun(a,b)=>[bd 2000000000 a,bd 2000000000 b]) (fun(a,b)=> .int .i64 (Geo.cross a b)
 )
theorem aNO:aLS.Ok Tryz.prog 111:=aR (bO aFY) (raw:=bT) (fun(_,_)=>[]) (fun(_,_)=>⟨_,rfl⟩) fun(a,b) hp=>bP (q:=aE (a.x*b.y)/\aE (a.y*b.x)/\aE (a.x*b.y-a.y*b.x)/\a.x*b.y-a.y*b.x=Geo.cross a b) (by kernel_rfl) (by
 change bd 2000000000 a/\bd 2000000000 b at hp;have:=mR hp.1 hp.2;exact⟨eC (by omega),eC (by omega),eC (by omega),rfl⟩)
def aKE:Tab:=cK [(111,aLS)] aJA
theorem aGW:aKE.Ok Tryz.prog:=aH aFY ⟨aNO,trivial⟩
def aLG:Con:=con (ac aV (a1 aV)) (fun(a,b)=>[bd 1000000000 a,bd 1000000000 b]) (fun(a,b)=>aV.enc (Geo.sub a b)
 )
theorem aNC:aLG.Ok Tryz.prog 138:=aR (bO aGW) (raw:=bT) (fun(_,_)=>[]) (fun(_,_)=>⟨_,rfl⟩) fun(a,b) hp=>bP (q:=aE (a.x-b.x)/\aE (a.y-b.y)/\a.x-b.x=(Geo.sub a b).x/\a.y-b.y=(Geo.sub a b).y) (by kernel_rfl) (by
 change bd 1000000000 a/\bd 1000000000 b at hp;unfold bd at hp;exact⟨eC (by omega),eC (by omega),rfl,rfl⟩)
def aKr:Tab:=cK [(138,aLG)] aKE
theorem aGK:aKr.Ok Tryz.prog:=aH aGW ⟨aNC,trivial⟩
def c63:Con:=con (ac aV (ac aV (a1 aV))) (fun(a,b,c)=>[bd 1000000000 a,bd 1000000000 b,bd 1000000000 c]) (fun(a,b,c)=> .int .i64 (Geo.turn a b c)
 )
theorem k63:c63.Ok Tryz.prog 63:=aR (bO aGK) (raw:=bT) (fun(_,_,_)=>[]) (fun(_,_,_)=>⟨_,rfl⟩) fun(a,b,c) hp=>bP (q:=bd 1000000000 b/\bd 1000000000 a/\bd 1000000000 c/\bd 1000000000 a/\bd 2000000000 (Geo.sub b a)/\bd 2000000000 (Geo.sub c a)/\Geo.fV (Geo.cross (Geo.sub b a) (Geo.sub c a)) 0=Geo.turn a b c) (by kernel_rfl) (by
 change bd 1000000000 a/\bd 1000000000 b/\bd 1000000000 c at hp;have e:∀n,Geo.fV n 0=Geo.sgn n:=fun n=>by unfold Geo.fV Geo.sgn;grind
 exact⟨hp.2.1,hp.1,hp.2.2,hp.1,jR hp.2.1 hp.1,jR hp.2.2 hp.1,e _⟩)
def t63:Tab:=cK [(63,c63)] aKr
theorem aJj:t63.Ok Tryz.prog:=aH aGK ⟨k63,trivial⟩
def aLF:Con:=con (ac aV (a1 aI)) (fun(_,m)=>[0<=m,m<=9000000000000000000]) (fun(a,m)=> .bool (Geo.aJ a m)
 )
theorem aNB:aLF.Ok Tryz.prog 139:=aR (bO aJj) (raw:=bT) (fun(_,_)=>[]) (fun(_,_)=>⟨_,rfl⟩) fun(a,m) hp=>bP (q:=aE (0-m)/\(0-m<=a.x->(a.x<=m->aE (0-m)/\(0-m<=a.y->decide (a.y<=m)=Geo.aJ a m)/\
   (¬0-m<=a.y->false=Geo.aJ a m))/\
  (¬a.x<=m->false=Geo.aJ a m))/\
 (¬0-m<=a.x->false=Geo.aJ a m)) (by kernel_rfl) (by
  change 0<=m/\m<=9000000000000000000 at hp;unfold Geo.aJ;have:= @aE;grind[aE])
def aKq:Tab:=cK [(139,aLF)] t63
theorem aGJ:aKq.Ok Tryz.prog:=aH aJj ⟨aNB,trivial⟩
def aLD:Con:=con (a1 aV) (fun _=>[]) (fun a=>aT.enc (Geo.iD a)
 )
theorem aNz:aLD.Ok Tryz.prog 141:=aR (bO aGJ) (raw:=bT) (fun _=>[]) (fun _=>⟨_,rfl⟩) fun a _=>bP (q:=a.x=(Geo.iD a).x/\a.y=(Geo.iD a).y/\1=(Geo.iD a).den) (by kernel_rfl) (by
 exact⟨rfl,rfl,rfl⟩)
def aKo:Tab:=cK [(141,aLD)] aKq
theorem aGH:aKo.Ok Tryz.prog:=aH aGJ ⟨aNz,trivial⟩
def Kr(b:Geo.S)(p:Geo.V):Bool:=decide (b.a.x<=p.x)&&decide (p.x<=b.b.x)&&decide (b.a.y<=p.y)&&decide (p.y<=b.b.y)
def bU(l:List Geo.V):Nat->Geo.S
 |0=>⟨nth l 0,nth l 0⟩
 |k+1=>⟨⟨min (bU l k).a.x (nth l k).x,min (bU l k).a.y (nth l k).y⟩,⟨max (bU l k).b.x (nth l k).x,max (bU l k).b.y (nth l k).y⟩⟩
def aKT:Con:=con (ac aS (a1 aV)) (fun(_,_)=>[]) (fun(b,p)=> .bool (Kr b p)
 )
theorem aMP:aKT.Ok Tryz.prog 228:=aR (bO aGH) (raw:=bT) (fun(_,_)=>[]) (fun(_,_)=>⟨_,rfl⟩) fun(b,p) _=>bP (q:=(b.a.x<=p.x->(p.x<=b.b.x->(b.a.y<=p.y->decide (p.y<=b.b.y)=Kr b p)/\
   (¬b.a.y<=p.y->false=Kr b p))/\
  (¬p.x<=b.b.x->false=Kr b p))/\
 (¬b.a.x<=p.x->false=Kr b p)) (by kernel_rfl) (by
  unfold Kr;grind)
def aJy:Tab:=cK [(228,aKT)] aKo
theorem aFW:aJy.Ok Tryz.prog:=aH aGH ⟨aMP,trivial⟩
def aKU:Con:=con (a1 (aL .V)) (fun l=>[l.length<=1000]) (fun l=> .tup [aS.enc (bU l l.length),.bool (decide (0<l.length))])
theorem aMQ:aKU.Ok Tryz.prog 227:=aR (bO aFW) (raw:=bT) (fun l=>[lp 5 19 l.length (fun _=>[]) [] (fun _=>[]) (fun k=>[(12,.box 196 [.int .i64 (bU l k).a.x,.int .i64 (bU l k).a.y,.int .i64 (bU l k).b.x,.int .i64 (bU l k).b.y])])]
  ) (fun _=>⟨_,rfl⟩) fun l hp=>bP (q:=((l.length:Int)=0->0=(bU l l.length).a.x/\0=(bU l l.length).a.y/\0=(bU l l.length).b.x/\0=(bU l l.length).b.y/\false=decide ((0:Nat)<l.length))/\
 (¬(l.length:Int)=0->ix 0 l.length/\ix 0 l.length/\(0=(0:Int)/\(nth l 0).x=(bU l 0).a.x/\(nth l 0).y=(bU l 0).a.y/\(nth l 0).x=(bU l 0).b.x/\(nth l 0).y=(bU l 0).b.y/\(0:Nat)<=l.length)/\
  (∀x:Nat,x<=l.length->((x:Int)<l.length->ix (x:Int) l.length/\ix (x:Int) l.length/\ix (x:Int) l.length/\ix (x:Int) l.length/\aE ((x:Int)+1)/\(x:Int)+1=((x+1:Nat):Int)/\Min.min (bU l x).a.x (nth l x).x=(bU l (x+1)).a.x/\Min.min (bU l x).a.y (nth l x).y=(bU l (x+1)).a.y/\Max.max (bU l x).b.x (nth l x).x=(bU l (x+1)).b.x/\Max.max (bU l x).b.y (nth l x).y=(bU l (x+1)).b.y/\x+1<=l.length/\l.length-(x+1)<l.length-x)/\
   (¬(x:Int)<l.length->(bU l x).a.x=(bU l l.length).a.x/\(bU l x).a.y=(bU l l.length).a.y/\(bU l x).b.x=(bU l l.length).b.x/\(bU l x).b.y=(bU l l.length).b.y/\true=decide ((0:Nat)<l.length))))) (by kernel_rfl) (by
  change l.length<=1000 at hp;have eU:∀x:Nat,¬(x:Int)<l.length->x<=l.length->bU l x=bU l l.length:=fun x h1 h2=>by rw[show x=l.length by omega]
  repeat' first|with_reducible apply And.intro|with_reducible intro
  all_goals repeat with_reducible cases‹_/\_›
  all_goals first|assumption|rfl|exact trivial|exact nb ‹_› |exact nb' ‹_› |omega|exact cV (by omega)|(unfold ix;omega)|(unfold aE;omega)|exact bG _|exact aA ‹_› ‹_› |(refine aA ‹_› ?_;simp_all;done)|(have h0:l=[] :=List.length_eq_zero_iff.1 (by omega);subst h0;rfl)|(rw[eU _ ‹_› ‹_›])|(symm;rw[decide_eq_true_eq];omega)|(symm;rw[decide_eq_false_iff_not];omega)|grind)
def aJz:Tab:=cK [(227,aKU)] aJy
theorem aFX:aJz.Ok Tryz.prog:=aH aFW ⟨aMQ,trivial⟩
def aK1:Con:=con (ac aI (a1 aI)) (fun(a,b)=>[-9000000000000000000<=a,a<=9000000000000000000,-9000000000000000000<=b,b<=9000000000000000000]) (fun(a,b)=> .int .i64 ((Nat.gcd a.natAbs b.natAbs:Nat):Int))
theorem aMX:aK1.Ok Tryz.prog 209:=aR (bO aFX) (raw:=bT) (fun(a,b)=>[(1,.mk (Int×Int) (fun F _=>aHu F 0 1) [] (fun p=>[p.1.natAbs<=9000000000000000000,p.2.natAbs<=9000000000000000000,Nat.gcd p.1.natAbs p.2.natAbs=Nat.gcd a.natAbs b.natAbs]) (fun p=>[(0,.int .i64 p.1),(1,.int .i64 p.2)]) (fun _=>[]) (fun p=>p.2.natAbs) (fun _=>[]))]
  ) (fun(_,_)=>⟨_,rfl⟩) fun(a,b) hp=>bP (q:=(a=a/\b=b/\Int.natAbs a<=9000000000000000000/\Int.natAbs b<=9000000000000000000/\Nat.gcd (Int.natAbs a) (Int.natAbs b)=Nat.gcd (Int.natAbs a) (Int.natAbs b))/\
 (∀x:Prod Int Int,Int.natAbs x.1<=9000000000000000000/\Int.natAbs x.2<=9000000000000000000/\Nat.gcd (Int.natAbs x.1) (Int.natAbs x.2)=Nat.gcd (Int.natAbs a) (Int.natAbs b)->(¬x.2=0->x.2≠0/\x.2=x.2/\Int.tmod x.1 x.2=Int.tmod x.1 x.2/\Int.natAbs x.snd<=9000000000000000000/\Int.natAbs (Int.tmod x.1 x.2)<=9000000000000000000/\Nat.gcd (Int.natAbs x.snd) (Int.natAbs (Int.tmod x.1 x.2))=Nat.gcd (Int.natAbs a) (Int.natAbs b)/\Int.natAbs (Int.tmod x.1 x.2)<Int.natAbs x.2)/\
  (¬(¬x.2=0)->aE (0-x.1)/\Max.max x.1 (0-x.1)=Nat.gcd (Int.natAbs a) (Int.natAbs b)))) (by kernel_rfl) (by
  change-9000000000000000000<=a/\a<=9000000000000000000/\ -9000000000000000000<=b/\b<=9000000000000000000 at hp;have e1:∀x y:Int,Nat.gcd y.natAbs (Int.tmod x y).natAbs=Nat.gcd x.natAbs y.natAbs:=fun x y=>by
   rw[Int.natAbs_tmod,Nat.gcd_comm,<-Nat.gcd_rec,Nat.gcd_comm]
  have e2:∀x y:Int,¬y=0->(Int.tmod x y).natAbs<y.natAbs:=fun x y h=>by
   rw[Int.natAbs_tmod];exact Nat.mod_lt _ (by omega)
  have e3:∀(x y:Int) (g:Nat),Nat.gcd x.natAbs y.natAbs=g->¬¬y=0->max x (0-x)=(g:Int):=fun x y g h h2=>by
   rw[Decidable.of_not_not h2]at h;rw[<-h];simp;omega
  repeat' first|with_reducible apply And.intro|with_reducible intro
  all_goals repeat with_reducible cases‹_/\_›
  all_goals first|assumption|rfl|exact trivial|exact nb ‹_› |exact nb' ‹_› |omega|exact cV (by omega)|(unfold ix;omega)|(unfold aE;omega)|exact bG _|exact aA ‹_› ‹_› |(refine aA ‹_› ?_;simp_all;done)|exact e2 _ _ ‹_› |exact e3 _ _ _ ‹_› ‹_› |(rw[e1];assumption)|exact Nat.le_trans (Nat.le_of_lt (e2 _ _ ‹_›)) ‹_› |grind)
def aJH:Tab:=cK [(209,aK1)] aJz
theorem aF4:aJH.Ok Tryz.prog:=aH aFX ⟨aMX,trivial⟩
def aK2:Con:=con (ac aT (a1 aI)) (fun(_,m)=>[0<=m,m<=1000000]) (fun(p,m)=> .bool (Geo.dI p m)
 )
theorem aMY:aK2.Ok Tryz.prog 208:=aR (bO aF4) (raw:=bT) (fun(_,_)=>[]) (fun(_,_)=>⟨_,rfl⟩) fun(p,m) hp=>bP (q:=(p.den<1->false=Geo.dI p m)/\
 (¬p.den<1->(134217728<p.den->false=Geo.dI p m)/\
  (¬134217728<p.den->aE (m*p.den)/\0<=m*p.den/\m*p.den<=9000000000000000000/\Geo.aJ ⟨p.x,p.y⟩ (m*p.den)=Geo.dI p m))) (by kernel_rfl) (by
  change 0<=m/\m<=1000000 at hp;unfold Geo.dI;have hm:¬p.den<1->¬134217728<p.den->aE (m*p.den)/\0<=m*p.den/\m*p.den<=9000000000000000000:=fun h1 h2=>by
   have:=iF (x:=m) (y:=p.den) (A:=1000000) (B:=134217728) (by omega) (by omega)
   exact⟨eC (by omega),Int.mul_nonneg hp.1 (by omega),by omega⟩
  repeat' first|with_reducible apply And.intro|with_reducible intro
  all_goals repeat with_reducible cases‹_/\_›
  all_goals first|assumption|rfl|exact trivial|exact nb ‹_› |exact nb' ‹_› |omega|exact cV (by omega)|(unfold ix;omega)|(unfold aE;omega)|exact bG _|exact aA ‹_› ‹_› |(refine aA ‹_› ?_;simp_all;done)|exact(hm ‹_› ‹_›).1|exact(hm ‹_› ‹_›).2.1|exact(hm ‹_› ‹_›).2.2|grind)
def aJI:Tab:=cK [(208,aK2)] aJH
theorem aF5:aJI.Ok Tryz.prog:=aH aF4 ⟨aMY,trivial⟩
def aLa:Con:=con (a1 aT) (fun _=>[]) (fun p=> .bool (Geo.cF p)
 )
theorem aM6:aLa.Ok Tryz.prog 185:=aR (bO aF5) (raw:=bT) (fun _=>[]) (fun _=>⟨_,rfl⟩) fun p _=>bP (q:=(0:Int)<=4000/\(4000:Int)<=1000000/\(Geo.dI p 4000=true-> -9000000000000000000<=p.x/\p.x<=9000000000000000000/\ -9000000000000000000<=p.y/\p.y<=9000000000000000000/\ -9000000000000000000<=(Nat.gcd (Int.natAbs p.x) (Int.natAbs p.y):Int)/\(Nat.gcd (Int.natAbs p.x) (Int.natAbs p.y):Int)<=9000000000000000000/\ -9000000000000000000<=p.den/\p.den<=9000000000000000000/\decide ((Nat.gcd (Int.natAbs (Nat.gcd (Int.natAbs p.x) (Int.natAbs p.y):Int)) (Int.natAbs p.den):Int)=1)=Geo.cF p)/\
 (Geo.dI p 4000=false->false=Geo.cF p)) (by kernel_rfl) (by
  have hB:Geo.dI p 4000=true->PtB p:=fun h=>by
   unfold Geo.dI Geo.aJ at h;simp only[Bool.and_eq_true,decide_eq_true_eq]at h;unfold PtB;omega
  have hn:∀n m B:Nat,n<=B->m<=B->Nat.gcd n m<=B:=fun n m B h1 h2=>by
   rcases Nat.eq_zero_or_pos n with e|e
   ·rw[e,Nat.gcd_zero_left];exact h2
   ·exact Nat.le_trans (Nat.gcd_le_left m e) h1
  have hg:PtB p->Nat.gcd p.x.natAbs p.y.natAbs<=600000000000:=fun h=>hn _ _ _ (by unfold PtB at h;omega) (by unfold PtB at h;omega)
  have ht:Geo.dI p 4000=true->decide ((Nat.gcd (Int.natAbs (Nat.gcd (Int.natAbs p.x) (Int.natAbs p.y):Int)) (Int.natAbs p.den):Int)=1)=Geo.cF p:=fun h=>by
   unfold Geo.cF;rw[h,Bool.true_and,Int.natAbs_natCast,Bool.eq_iff_iff,decide_eq_true_eq,beq_iff_eq];omega
  repeat' first|with_reducible apply And.intro|with_reducible intro
  all_goals repeat with_reducible cases‹_/\_›
  all_goals first|assumption|rfl|exact trivial|exact nb ‹_› |exact nb' ‹_› |omega|exact cV (by omega)|(unfold ix;omega)|(unfold aE;omega)|exact bG _|exact aA ‹_› ‹_› |(refine aA ‹_› ?_;simp_all;done)|exact ht ‹_› |(have h1:=hB ‹_›;have h2:=hg h1;unfold PtB at h1;omega)|(unfold Geo.cF;rw[‹Geo.dI p 4000=false›,Bool.false_and])|grind)
def aJR:Tab:=cK [(185,aLa)] aJI
theorem aGd:aJR.Ok Tryz.prog:=aH aF5 ⟨aM6,trivial⟩
def aKZ:Con:=con (a1 aS) (fun _=>[]) (fun s=> .bool (Geo.aK s)
 )
theorem aMV:aKZ.Ok Tryz.prog 216:=aR (bO aGd) (raw:=bT) (fun _=>[]) (fun _=>⟨_,rfl⟩) fun s _=>bP (q:=(0:Int)<=4000/\(4000:Int)<=9000000000000000000/\(Geo.aJ s.a 4000=true->(0:Int)<=4000/\(4000:Int)<=9000000000000000000/\Geo.aJ s.b 4000=Geo.aK s)/\
 (Geo.aJ s.a 4000=false->false=Geo.aK s)) (by kernel_rfl) (by
  unfold Geo.aK;grind)
def aJF:Tab:=cK [(216,aKZ)] aJR
theorem aF2:aJF.Ok Tryz.prog:=aH aGd ⟨aMV,trivial⟩
def aKX:Con:=con (ac aS (a1 aV)) (fun(_,_)=>[]) (fun(s,p)=> .bool (Geo.onS s p)
 )
theorem aMT:aKX.Ok Tryz.prog 218:=aR (bO aF2) (raw:=bT) (fun(_,_)=>[]) (fun(_,_)=>⟨_,rfl⟩) fun(s,p) _=>bP (q:=[s.a,s.b].length<=1000/\(Geo.aK s=true->(Kr (bU [s.a,s.b] [s.a,s.b].length) p=true->bd 1000000000 s.a/\bd 1000000000 s.b/\bd 1000000000 p/\decide (Geo.turn s.a s.b p=0)=Geo.onS s p)/\
  (Kr (bU [s.a,s.b] [s.a,s.b].length) p=false->false=Geo.onS s p))/\
 (Geo.aK s=false->false=Geo.onS s p)) (by kernel_rfl) (by
  have e0:Kr (bU [s.a,s.b] [s.a,s.b].length) p=Geo.gJ s p:=by
   show(decide (min (min s.a.x s.a.x) s.b.x<=p.x)&&decide (p.x<=max (max s.a.x s.a.x) s.b.x)&&decide (min (min s.a.y s.a.y) s.b.y<=p.y)&&decide (p.y<=max (max s.a.y s.a.y) s.b.y))=_;rw[Int.min_self,Int.min_self,Int.max_self,Int.max_self];rfl
  rw[e0];have hv:∀{M:Int},Geo.aK s=true->4000<=M->bd M s.a/\bd M s.b:=fun h hM=>tU (by rw[h];rfl) hM
  refine⟨by simp,fun h=>⟨fun h2=>⟨(hv h (by decide)).1,(hv h (by decide)).2,aBI (hv h (by decide)) h2,?_⟩,fun h2=>by unfold Geo.onS;rw[h2];simp⟩,fun h=>by unfold Geo.onS;rw[h];rfl⟩
  unfold Geo.onS;rw[h,h2];rfl)
def aJD:Tab:=cK [(218,aKX)] aJF
theorem aF0:aJD.Ok Tryz.prog:=aH aF2 ⟨aMT,trivial⟩
def aKW:Con:=con (a1 aV) (fun _=>[]) (fun p=> .agg [.int .i64 1,.int .i64 p.x,.int .i64 p.y,.int .i64 1,.int .i64 0,.int .i64 0,.int .i64 0,.int .i64 0]
 )
theorem aMS:aKW.Ok Tryz.prog 219:=aR (bO aF0) (raw:=bT) (fun _=>[]) (fun _=>⟨_,rfl⟩) fun p _=>bP (q:=(1:Int)=1/\(Geo.iD p).x=p.x/\(Geo.iD p).y=p.y/\(Geo.iD p).den=1/\(0:Int)=0/\(0:Int)=0/\(0:Int)=0/\(0:Int)=0) (by kernel_rfl) (by
 repeat' first|with_reducible apply And.intro|with_reducible intro
 all_goals repeat with_reducible cases‹_/\_›
 all_goals first|assumption|rfl|exact trivial|exact nb ‹_› |exact nb' ‹_› |omega|exact cV (by omega)|(unfold ix;omega)|(unfold aE;omega)|exact bG _|exact aA ‹_› ‹_› |(refine aA ‹_› ?_;simp_all;done)|grind)
def aJC:Tab:=cK [(219,aKW)] aJD
theorem aFZ:aJC.Ok Tryz.prog:=aH aF0 ⟨aMS,trivial⟩
end
end Go.Proofs.YtdaeofhdgabhjaaGreat
namespace Go.Proofs.YtdaeofhdgabhjaaGreat
open Go.RowKit
set_option maxRecDepth 100000
noncomputable section
structure Com where
 k:Int
 p:Geo.Pt
 s:Geo.S
def aL0(c:Com):SV:= .agg [.int .i64 c.k,.int .i64 c.p.x,.int .i64 c.p.y,.int .i64 c.p.den,.int .i64 c.s.a.x,.int .i64 c.s.a.y,.int .i64 c.s.b.x,.int .i64 c.s.b.y]
def cz:Com:=⟨0,⟨0,0,0⟩,⟨⟨0,0⟩,⟨0,0⟩⟩⟩
def lA(s t:Geo.S)(d:Int):Int:=if d<0 then-Geo.cross (Geo.sub t.a s.a) (Geo.sub t.b t.a)else Geo.cross (Geo.sub t.a s.a) (Geo.sub t.b t.a)
def lB(s t:Geo.S)(d:Int):Int:=if d<0 then-Geo.cross (Geo.sub t.a s.a) (Geo.sub s.b s.a)else Geo.cross (Geo.sub t.a s.a) (Geo.sub s.b s.a)
def lE(d:Int):Int:=if d<0 then-d else d
def lX(s t:Geo.S)(d:Int):Int:=s.a.x*lE d+lA s t d*(Geo.sub s.b s.a).x
def lY(s t:Geo.S)(d:Int):Int:=s.a.y*lE d+lA s t d*(Geo.sub s.b s.a).y
def lG(s t:Geo.S)(d:Int):Int:=((Nat.gcd (Nat.gcd (lX s t d).natAbs (lY s t d).natAbs:Int).natAbs (lE d).natAbs:Nat):Int)
def aW(s t:Geo.S)(d:Int):Com:=if Geo.pH s t d=0 then cz else⟨Geo.pH s t d,⟨(lX s t d).tdiv (lG s t d),(lY s t d).tdiv (lG s t d),(lE d).tdiv (lG s t d)⟩,cz.s⟩
def jO(key:Nat)(obs:List (Nat×SOb)):Nat×Ann:=(key+10000,.mk Unit (fun _ _=>some ()) [] (fun _=>[]) (fun _=>[]) (fun _=>obs) (fun _=>0) (fun _=>[]))
def aNU(c:Com):List SV:=[.int .i64 c.k,.int .i64 c.p.x,.int .i64 c.p.y,.int .i64 c.p.den,.int .i64 c.s.a.x,.int .i64 c.s.a.y,.int .i64 c.s.b.x,.int .i64 c.s.b.y]
theorem pO{x g B:Int}(h: -B<=x/\x<=B): -B<=x.tdiv g/\x.tdiv g<=B:=by
 have:=Int.natAbs_tdiv_le_natAbs x g;omega
theorem aIc{n m B:Nat}(h1:n<=B)(h2:m<=B):Nat.gcd n m<=B:=by
 rcases Nat.eq_zero_or_pos n with e|e
 ·rw[e,Nat.gcd_zero_left];exact h2
 ·exact Nat.le_trans (Nat.gcd_le_left m e) h1
theorem vX{s t:Geo.S}{d:Int}(h:lA s t d<0\/lE d<lA s t d\/lB s t d<0\/lE d<lB s t d):aW s t d=cz:=if_pos (if_pos h)
theorem Gp{s t:Geo.S}{d:Int}(h1:¬lA s t d<0)(h2:¬lE d<lA s t d)(h3:¬lB s t d<0)(h4:¬lE d<lB s t d):Geo.pH s t d=if lA s t d=0\/lA s t d=lE d\/lB s t d=0\/lB s t d=lE d then 1 else 2:=if_neg (by simp only[not_or];exact⟨h1,h2,h3,h4⟩)
theorem Gq{s t:Geo.S}{d k:Int}(h:Geo.pH s t d=k)(hk:k≠0):aW s t d=⟨k,⟨(lX s t d).tdiv (lG s t d),(lY s t d).tdiv (lG s t d),(lE d).tdiv (lG s t d)⟩,cz.s⟩:=by
 unfold aW;rw[h,if_neg hk]
def aKY:Con:=con (ac aS (ac aS (a1 aI))) (fun(s,t,d)=>[Geo.aK s=true,Geo.aK t=true,d≠0,-200000000<=d/\d<=200000000]) (fun(s,t,d)=>aL0 (aW s t d))
set_option maxHeartbeats 2000000 in
theorem aMU:aKY.Ok Tryz.prog 217:=aR (bO aFZ) (raw:=bT) (fun(s,t,d)=>[jU 6 [(10,.int .i64 (lA s t d)),(11,.int .i64 (lB s t d)),(2,.int .i64 (lE d))],(9+10000,.mk Unit (fun _ _=>some ()) [] (fun _=>[¬lA s t d<0,¬lE d<lA s t d,¬lB s t d<0,¬lE d<lB s t d]) (fun _=>[(12,.int .i64 (lX s t d)),(13,.int .i64 (lY s t d))]) (fun _=>[]) (fun _=>0) (fun _=>[])),
  jU 10 [(14,.int .i64 (lG s t d))],jO 13 [(59,.box 175 (aNU (aW s t d)))]]
  ) (fun(_,_,_)=>⟨_,rfl⟩) fun(s,t,d) hp=>bP (q:=bd 1000000000 s.b/\bd 1000000000 s.a/\bd 1000000000 t.b/\bd 1000000000 t.a/\bd 1000000000 t.a/\bd 1000000000 s.a/\bd 2000000000 (Geo.sub t.a s.a)/\bd 2000000000 (Geo.sub t.b t.a)/\bd 2000000000 (Geo.sub t.a s.a)/\bd 2000000000 (Geo.sub s.b s.a)/\((d<0->aE (0-Geo.cross (Geo.sub t.a s.a) (Geo.sub t.b t.a))/\aE (0-Geo.cross (Geo.sub t.a s.a) (Geo.sub s.b s.a))/\aE (0-d)/\0-Geo.cross (Geo.sub t.a s.a) (Geo.sub t.b t.a)=lA s t d/\0-Geo.cross (Geo.sub t.a s.a) (Geo.sub s.b s.a)=lB s t d/\0-d=lE d)/\
  (¬d<0->Geo.cross (Geo.sub t.a s.a) (Geo.sub t.b t.a)=lA s t d/\Geo.cross (Geo.sub t.a s.a) (Geo.sub s.b s.a)=lB s t d/\d=lE d))/\
 (∀y:Unit,(lA s t d<0->0=(aW s t d).k/\0=(aW s t d).p.x/\0=(aW s t d).p.y/\0=(aW s t d).p.den/\0=(aW s t d).s.a.x/\0=(aW s t d).s.a.y/\0=(aW s t d).s.b.x/\0=(aW s t d).s.b.y)/\
  (¬lA s t d<0->(lE d<lA s t d->0=(aW s t d).k/\0=(aW s t d).p.x/\0=(aW s t d).p.y/\0=(aW s t d).p.den/\0=(aW s t d).s.a.x/\0=(aW s t d).s.a.y/\0=(aW s t d).s.b.x/\0=(aW s t d).s.b.y)/\
   (¬lE d<lA s t d->(lB s t d<0->0=(aW s t d).k/\0=(aW s t d).p.x/\0=(aW s t d).p.y/\0=(aW s t d).p.den/\0=(aW s t d).s.a.x/\0=(aW s t d).s.a.y/\0=(aW s t d).s.b.x/\0=(aW s t d).s.b.y)/\
    (¬lB s t d<0->(lE d<lB s t d->0=(aW s t d).k/\0=(aW s t d).p.x/\0=(aW s t d).p.y/\0=(aW s t d).p.den/\0=(aW s t d).s.a.x/\0=(aW s t d).s.a.y/\0=(aW s t d).s.b.x/\0=(aW s t d).s.b.y)/\
     (¬lE d<lB s t d->(aE (s.a.x*lE d)/\aE (lA s t d*(Geo.sub s.b s.a).x)/\aE (s.a.x*lE d+lA s t d*(Geo.sub s.b s.a).x)/\aE (s.a.y*lE d)/\aE (lA s t d*(Geo.sub s.b s.a).y)/\aE (s.a.y*lE d+lA s t d*(Geo.sub s.b s.a).y)/\s.a.x*lE d+lA s t d*(Geo.sub s.b s.a).x=lX s t d/\s.a.y*lE d+lA s t d*(Geo.sub s.b s.a).y=lY s t d/\¬lA s t d<0/\¬lE d<lA s t d/\¬lB s t d<0/\¬lE d<lB s t d)/\
      (∀y_1:Unit,¬lA s t d<0/\¬lE d<lA s t d/\¬lB s t d<0/\¬lE d<lB s t d->(-9000000000000000000<=lX s t d/\lX s t d<=9000000000000000000/\ -9000000000000000000<=lY s t d/\lY s t d<=9000000000000000000/\ -9000000000000000000<=(Nat.gcd (Int.natAbs (lX s t d)) (Int.natAbs (lY s t d)):Int)/\(Nat.gcd (Int.natAbs (lX s t d)) (Int.natAbs (lY s t d)):Int)<=9000000000000000000/\ -9000000000000000000<=lE d/\lE d<=9000000000000000000/\(Nat.gcd (Int.natAbs (Nat.gcd (Int.natAbs (lX s t d)) (Int.natAbs (lY s t d)):Int)) (Int.natAbs (lE d)):Int)=lG s t d)/\
       (∀y_2:Unit,lG s t d≠0/\aE (Int.tdiv (lX s t d) (lG s t d))/\lG s t d≠0/\aE (Int.tdiv (lY s t d) (lG s t d))/\lG s t d≠0/\aE (Int.tdiv (lE d) (lG s t d))/\((lA s t d=0->1=(aW s t d).k/\Int.tdiv (lX s t d) (lG s t d)=(aW s t d).p.x/\Int.tdiv (lY s t d) (lG s t d)=(aW s t d).p.y/\Int.tdiv (lE d) (lG s t d)=(aW s t d).p.den/\0=(aW s t d).s.a.x/\0=(aW s t d).s.a.y/\0=(aW s t d).s.b.x/\0=(aW s t d).s.b.y)/\
         (¬lA s t d=0->(lA s t d=lE d->1=(aW s t d).k/\Int.tdiv (lX s t d) (lG s t d)=(aW s t d).p.x/\Int.tdiv (lY s t d) (lG s t d)=(aW s t d).p.y/\Int.tdiv (lE d) (lG s t d)=(aW s t d).p.den/\0=(aW s t d).s.a.x/\0=(aW s t d).s.a.y/\0=(aW s t d).s.b.x/\0=(aW s t d).s.b.y)/\
          (¬lA s t d=lE d->(lB s t d=0->1=(aW s t d).k/\Int.tdiv (lX s t d) (lG s t d)=(aW s t d).p.x/\Int.tdiv (lY s t d) (lG s t d)=(aW s t d).p.y/\Int.tdiv (lE d) (lG s t d)=(aW s t d).p.den/\0=(aW s t d).s.a.x/\0=(aW s t d).s.a.y/\0=(aW s t d).s.b.x/\0=(aW s t d).s.b.y)/\
           (¬lB s t d=0->(lB s t d=lE d->1=(aW s t d).k/\Int.tdiv (lX s t d) (lG s t d)=(aW s t d).p.x/\Int.tdiv (lY s t d) (lG s t d)=(aW s t d).p.y/\Int.tdiv (lE d) (lG s t d)=(aW s t d).p.den/\0=(aW s t d).s.a.x/\0=(aW s t d).s.a.y/\0=(aW s t d).s.b.x/\0=(aW s t d).s.b.y)/\
            (¬lB s t d=lE d->2=(aW s t d).k/\Int.tdiv (lX s t d) (lG s t d)=(aW s t d).p.x/\Int.tdiv (lY s t d) (lG s t d)=(aW s t d).p.y/\Int.tdiv (lE d) (lG s t d)=(aW s t d).p.den/\0=(aW s t d).s.a.x/\0=(aW s t d).s.a.y/\0=(aW s t d).s.b.x/\0=(aW s t d).s.b.y)))))/\
        (∀y_3:Unit,(aW s t d).k=(aW s t d).k/\(aW s t d).p.x=(aW s t d).p.x/\(aW s t d).p.y=(aW s t d).p.y/\(aW s t d).p.den=(aW s t d).p.den/\(aW s t d).s.a.x=(aW s t d).s.a.x/\(aW s t d).s.a.y=(aW s t d).s.a.y/\(aW s t d).s.b.x=(aW s t d).s.b.x/\(aW s t d).s.b.y=(aW s t d).s.b.y))))))))) (by kernel_rfl) (by
  change Geo.aK s=true/\Geo.aK t=true/\d≠0/\(-200000000<=d/\d<=200000000)at hp;obtain⟨hs,ht,h0,hd⟩:=hp;have bs:bd 4000 s.a/\bd 4000 s.b:=tU (by rw[hs];rfl)
  have bt:bd 4000 t.a/\bd 4000 t.b:=tU (by rw[ht];rfl)
  have u1:=jR bs.2 bs.1;have u2:=jR bt.2 bt.1;have u3:=jR bt.1 bs.1;have c1:=mR u3 u2;have c2:=mR u3 u1;have gM:∀{M:Int} {v:Geo.V},16000<=M->bd 4000 v->bd M v:=fun h1 h2=>by unfold bd at*;omega
  have gN:∀{M:Int} {v:Geo.V},16000<=M->bd (4000+4000) v->bd M v:=fun h1 h2=>by unfold bd at*;omega
  have a1: -128000000<=lA s t d/\lA s t d<=128000000:=by unfold lA Geo.cross;split<;>omega
  have e1: -200000000<=lE d/\lE d<=200000000:=by unfold lE;split<;>omega
  have e2:lE d≠0:=by unfold lE;split<;>omega
  have k1:aE (0-Geo.cross (Geo.sub t.a s.a) (Geo.sub t.b t.a)):=eC (by unfold Geo.cross;omega)
  have k2:aE (0-Geo.cross (Geo.sub t.a s.a) (Geo.sub s.b s.a)):=eC (by unfold Geo.cross;omega)
  have x1:=iF (A:=4000) (B:=200000000) bs.1.1 e1;have x2:=iF (A:=128000000) (B:=8000) a1 u1.1;have y1:=iF (A:=4000) (B:=200000000) bs.1.2 e1;have y2:=iF (A:=128000000) (B:=8000) a1 u1.2;have xB: -2000000000000<=lX s t d/\lX s t d<=2000000000000:=by unfold lX;omega
  have yB: -2000000000000<=lY s t d/\lY s t d<=2000000000000:=by unfold lY;omega
  have g1:Nat.gcd (lX s t d).natAbs (lY s t d).natAbs<=2000000000000:=aIc (by omega) (by omega)
  have g2:lG s t d≠0:=by
   unfold lG;have:=Nat.gcd_pos_of_pos_right (Nat.gcd (lX s t d).natAbs (lY s t d).natAbs:Int).natAbs (show 0<(lE d).natAbs by omega)
   omega
  have q1:=pO (g:=lG s t d) xB;have q2:=pO (g:=lG s t d) yB;have q3:=pO (g:=lG s t d) e1;have r1:aE (s.a.x*lE d):=eC (by omega)
  have r2:aE (lA s t d*(Geo.sub s.b s.a).x):=eC (by omega)
  have r3:aE (s.a.x*lE d+lA s t d*(Geo.sub s.b s.a).x):=eC (by omega)
  have r4:aE (s.a.y*lE d):=eC (by omega)
  have r5:aE (lA s t d*(Geo.sub s.b s.a).y):=eC (by omega)
  have r6:aE (s.a.y*lE d+lA s t d*(Geo.sub s.b s.a).y):=eC (by omega)
  have r7:aE ((lX s t d).tdiv (lG s t d)):=eC (by omega)
  have r8:aE ((lY s t d).tdiv (lG s t d)):=eC (by omega)
  have r9:aE ((lE d).tdiv (lG s t d)):=eC (by omega)
  have r10:aE (0-d):=eC (by omega)
  have f1:d<0->0-Geo.cross (Geo.sub t.a s.a) (Geo.sub t.b t.a)=lA s t d:=fun h=>by unfold lA;rw[if_pos h];omega
  have f2:d<0->0-Geo.cross (Geo.sub t.a s.a) (Geo.sub s.b s.a)=lB s t d:=fun h=>by unfold lB;rw[if_pos h];omega
  have f3:d<0->0-d=lE d:=fun h=>by unfold lE;rw[if_pos h];omega
  have f4:¬d<0->Geo.cross (Geo.sub t.a s.a) (Geo.sub t.b t.a)=lA s t d:=fun h=>by unfold lA;rw[if_neg h]
  have f5:¬d<0->Geo.cross (Geo.sub t.a s.a) (Geo.sub s.b s.a)=lB s t d:=fun h=>by unfold lB;rw[if_neg h]
  have f6:¬d<0->d=lE d:=fun h=>by unfold lE;rw[if_neg h]
  have n1:lA s t d<0->aW s t d=cz:=fun h=>vX (.inl h)
  have n2:lE d<lA s t d->aW s t d=cz:=fun h=>vX (.inr (.inl h))
  have n3:lB s t d<0->aW s t d=cz:=fun h=>vX (.inr (.inr (.inl h)))
  have n4:lE d<lB s t d->aW s t d=cz:=fun h=>vX (.inr (.inr (.inr h)))
  have t0:¬lA s t d<0->¬lE d<lA s t d->¬lB s t d<0->¬lE d<lB s t d->lA s t d=0\/lA s t d=lE d\/lB s t d=0\/lB s t d=lE d->aW s t d=⟨1,⟨(lX s t d).tdiv (lG s t d),(lY s t d).tdiv (lG s t d),(lE d).tdiv (lG s t d)⟩,cz.s⟩:=fun h1 h2 h3 h4 h=>Gq (by rw[Gp h1 h2 h3 h4,if_pos h]) (by decide)
  have t1:¬lA s t d<0->¬lE d<lA s t d->¬lB s t d<0->¬lE d<lB s t d->¬(lA s t d=0\/lA s t d=lE d\/lB s t d=0\/lB s t d=lE d)->aW s t d=⟨2,⟨(lX s t d).tdiv (lG s t d),(lY s t d).tdiv (lG s t d),(lE d).tdiv (lG s t d)⟩,cz.s⟩:=fun h1 h2 h3 h4 h=>Gq (by rw[Gp h1 h2 h3 h4,if_neg h]) (by decide)
  have b1:=gM (M:=1000000000) (by decide) bs.1
  have b2:=gM (M:=1000000000) (by decide) bs.2
  have b3:=gM (M:=1000000000) (by decide) bt.1
  have b4:=gM (M:=1000000000) (by decide) bt.2
  have b5:=gN (M:=2000000000) (by decide) u1
  have b6:=gN (M:=2000000000) (by decide) u2
  have b7:=gN (M:=2000000000) (by decide) u3
  have hX: -9000000000000000000<=lX s t d/\lX s t d<=9000000000000000000:=by omega
  have hY: -9000000000000000000<=lY s t d/\lY s t d<=9000000000000000000:=by omega
  have hE: -9000000000000000000<=lE d/\lE d<=9000000000000000000:=by omega
  have hG1: -9000000000000000000<=((Nat.gcd (lX s t d).natAbs (lY s t d).natAbs:Nat):Int):=by omega
  have hG2:((Nat.gcd (lX s t d).natAbs (lY s t d).natAbs:Nat):Int)<=9000000000000000000:=by omega
  clear hs ht h0 hd bs bt u1 u2 u3 c1 c2 gM gN a1 e1 e2 x1 x2 y1 y2 xB yB g1 q1 q2 q3;obtain⟨hX1,hX2⟩:=hX;obtain⟨hY1,hY2⟩:=hY;obtain⟨hE1,hE2⟩:=hE
  repeat' first|with_reducible apply And.intro|with_reducible intro
  all_goals repeat with_reducible cases‹_/\_›
  all_goals first|assumption|rfl|exact f1 ‹_› |exact f2 ‹_› |exact f3 ‹_› |exact f4 ‹_› |exact f5 ‹_› |exact f6 ‹_› |(rw[n1 ‹_›];rfl)|(rw[n2 ‹_›];rfl)|(rw[n3 ‹_›];rfl)|(rw[n4 ‹_›];rfl)|(rw[t0 ‹_› ‹_› ‹_› ‹_› (.inl ‹_›)] <;>rfl)|(rw[t0 ‹_› ‹_› ‹_› ‹_› (.inr (.inl ‹_›))] <;>rfl)|(rw[t0 ‹_› ‹_› ‹_› ‹_› (.inr (.inr (.inl ‹_›)))] <;>rfl)|(rw[t0 ‹_› ‹_› ‹_› ‹_› (.inr (.inr (.inr ‹_›)))] <;>rfl)|(rw[t1 ‹_› ‹_› ‹_› ‹_› (fun h=>h.elim ‹_› fun h=>h.elim ‹_› fun h=>h.elim ‹_› ‹_›)] <;>rfl))
def aJE:Tab:=cK [(217,aKY)] aJC
theorem aF1:aJE.Ok Tryz.prog:=aH aFZ ⟨aMU,trivial⟩
def v2(v:Geo.V):List SV:=[.int .i64 v.x,.int .i64 v.y]
def Sm(v:Geo.V):Com:=⟨1,Geo.iD v,cz.s⟩
def tC(s t:Geo.S):Int:=Geo.cross (Geo.sub s.b s.a) (Geo.sub t.b t.a)
def tX(s t:Geo.S):Com:=
 if Geo.fF (Geo.cM s t) (Geo.cT s t)=0 then Sm (Geo.cM s t)
 else if Geo.fF (Geo.cM s t) (Geo.cT s t)= -1 then⟨3,⟨0,0,0⟩,⟨Geo.cM s t,Geo.cT s t⟩⟩
 else cz
def mb1(s t:Geo.S):Bool:=decide (s.a=s.b)&&Geo.onS t s.a
def mb3(s t:Geo.S):Bool:=decide (s.a=s.b)||(decide (t.a=t.b)||decide (¬Geo.turn s.a s.b t.a=0))
def bW(s t:Geo.S):Com:=
 if(!Geo.aK s)=true then cz
 else if(!Geo.aK t)=true then cz
 else if¬tC s t=0 then aW s t (tC s t)
 else if mb1 s t=true then Sm s.a
 else if mb1 t s=true then Sm t.a
 else if mb3 s t=true then cz
 else tX s t
def aK6:Con:=con (ac aS (a1 aS)) (fun(_,_)=>[]) (fun(s,t)=>aL0 (bW s t))
set_option maxHeartbeats 2000000 in
theorem aM2:aK6.Ok Tryz.prog 199:=aR (bO aF1) (raw:=bT) (fun(s,t)=>[jb 7 36 (mb1 s t),jb 9 51 (mb1 t s),jb 11 66 (mb3 s t),jP 12 [bW s t=tX s t],lU 14 3,jO 18 [(34,.box 189 (v2 (Geo.loS s)++v2 (Geo.hiS s)++v2 (Geo.loS t)++v2 (Geo.hiS t)))],jO 21 [(40,.box 44 (v2 (Geo.cM s t)))],jO 23 [(41,.box 44 (v2 (Geo.cT s t)))]]
  ) (fun(_,_)=>⟨_,rfl⟩) fun(s,t) _=>bP (q:=((!Geo.aK s)=true->0=(bW s t).k/\0=(bW s t).p.x/\0=(bW s t).p.y/\0=(bW s t).p.den/\0=(bW s t).s.a.x/\0=(bW s t).s.a.y/\0=(bW s t).s.b.x/\0=(bW s t).s.b.y)/\
 ((!Geo.aK s)=false->((!Geo.aK t)=true->0=(bW s t).k/\0=(bW s t).p.x/\0=(bW s t).p.y/\0=(bW s t).p.den/\0=(bW s t).s.a.x/\0=(bW s t).s.a.y/\0=(bW s t).s.b.x/\0=(bW s t).s.b.y)/\
  ((!Geo.aK t)=false->bd 1000000000 s.b/\bd 1000000000 s.a/\bd 1000000000 t.b/\bd 1000000000 t.a/\bd 2000000000 (Geo.sub s.b s.a)/\bd 2000000000 (Geo.sub t.b t.a)/\(¬Geo.cross (Geo.sub s.b s.a) (Geo.sub t.b t.a)=0->Geo.aK s=true/\Geo.aK t=true/\Geo.cross (Geo.sub s.b s.a) (Geo.sub t.b t.a)≠0/\(-200000000<=Geo.cross (Geo.sub s.b s.a) (Geo.sub t.b t.a)/\Geo.cross (Geo.sub s.b s.a) (Geo.sub t.b t.a)<=200000000)/\(aW s t (Geo.cross (Geo.sub s.b s.a) (Geo.sub t.b t.a))).k=(bW s t).k/\(aW s t (Geo.cross (Geo.sub s.b s.a) (Geo.sub t.b t.a))).p.x=(bW s t).p.x/\(aW s t (Geo.cross (Geo.sub s.b s.a) (Geo.sub t.b t.a))).p.y=(bW s t).p.y/\(aW s t (Geo.cross (Geo.sub s.b s.a) (Geo.sub t.b t.a))).p.den=(bW s t).p.den/\(aW s t (Geo.cross (Geo.sub s.b s.a) (Geo.sub t.b t.a))).s.a.x=(bW s t).s.a.x/\(aW s t (Geo.cross (Geo.sub s.b s.a) (Geo.sub t.b t.a))).s.a.y=(bW s t).s.a.y/\(aW s t (Geo.cross (Geo.sub s.b s.a) (Geo.sub t.b t.a))).s.b.x=(bW s t).s.b.x/\(aW s t (Geo.cross (Geo.sub s.b s.a) (Geo.sub t.b t.a))).s.b.y=(bW s t).s.b.y)/\
   (¬(¬Geo.cross (Geo.sub s.b s.a) (Geo.sub t.b t.a)=0)->(((s.a=s.b->Geo.onS t s.a=mb1 s t)/\
      (¬s.a=s.b->false=mb1 s t))/\
     (∀y:Unit,(mb1 s t=true->1=(bW s t).k/\s.a.x=(bW s t).p.x/\s.a.y=(bW s t).p.y/\1=(bW s t).p.den/\0=(bW s t).s.a.x/\0=(bW s t).s.a.y/\0=(bW s t).s.b.x/\0=(bW s t).s.b.y)/\
      (mb1 s t=false->((t.a=t.b->Geo.onS s t.a=mb1 t s)/\
        (¬t.a=t.b->false=mb1 t s))/\
       (∀y_1:Unit,(mb1 t s=true->1=(bW s t).k/\t.a.x=(bW s t).p.x/\t.a.y=(bW s t).p.y/\1=(bW s t).p.den/\0=(bW s t).s.a.x/\0=(bW s t).s.a.y/\0=(bW s t).s.b.x/\0=(bW s t).s.b.y)/\
        (mb1 t s=false->((s.a=s.b->true=mb3 s t)/\
          (¬s.a=s.b->(t.a=t.b->true=mb3 s t)/\
           (¬t.a=t.b->bd 1000000000 s.a/\bd 1000000000 s.b/\bd 1000000000 t.a/\decide (¬Geo.turn s.a s.b t.a=0)=mb3 s t)))/\
         (∀y_2:Unit,(mb3 s t=true->0=(bW s t).k/\0=(bW s t).p.x/\0=(bW s t).p.y/\0=(bW s t).p.den/\0=(bW s t).s.a.x/\0=(bW s t).s.a.y/\0=(bW s t).s.b.x/\0=(bW s t).s.b.y)/\
          (mb3 s t=false->bW s t=tX s t)))))))/\
    (∀y:Unit,bW s t=tX s t->(((0:Int)<4->aE (0+1)/\ix (0+1) 4/\ix 0 4/\(Geo.bX s.b s.a=true->aE (0+1)/\aE (0+1)/\ix (0+1) 4/\ix 0 4/\ix 0 4/\ix (0+1) 4/\aE (0+2)/\((0+2:Int)<4->aE (0+2+1)/\ix (0+2+1) 4/\ix (0+2) 4/\(Geo.bX t.b t.a=true->aE (0+2+1)/\aE (0+2+1)/\ix (0+2+1) 4/\ix (0+2) 4/\ix (0+2) 4/\ix (0+2+1) 4/\aE (0+2+2)/\((0+2+2:Int)<4->aE (0+2+2+1)/\ix (0+2+2+1) 4/\False)/\
          (¬(0+2+2:Int)<4->s.b.x=(Geo.loS s).x/\s.b.y=(Geo.loS s).y/\s.a.x=(Geo.hiS s).x/\s.a.y=(Geo.hiS s).y/\t.b.x=(Geo.loS t).x/\t.b.y=(Geo.loS t).y/\t.a.x=(Geo.hiS t).x/\t.a.y=(Geo.hiS t).y))/\
         (Geo.bX t.b t.a=false->aE (0+2+2)/\((0+2+2:Int)<4->aE (0+2+2+1)/\ix (0+2+2+1) 4/\False)/\
          (¬(0+2+2:Int)<4->s.b.x=(Geo.loS s).x/\s.b.y=(Geo.loS s).y/\s.a.x=(Geo.hiS s).x/\s.a.y=(Geo.hiS s).y/\t.a.x=(Geo.loS t).x/\t.a.y=(Geo.loS t).y/\t.b.x=(Geo.hiS t).x/\t.b.y=(Geo.hiS t).y)))/\
        (¬(0+2:Int)<4->s.b.x=(Geo.loS s).x/\s.b.y=(Geo.loS s).y/\s.a.x=(Geo.hiS s).x/\s.a.y=(Geo.hiS s).y/\t.a.x=(Geo.loS t).x/\t.a.y=(Geo.loS t).y/\t.b.x=(Geo.hiS t).x/\t.b.y=(Geo.hiS t).y))/\
       (Geo.bX s.b s.a=false->aE (0+2)/\((0+2:Int)<4->aE (0+2+1)/\ix (0+2+1) 4/\ix (0+2) 4/\(Geo.bX t.b t.a=true->aE (0+2+1)/\aE (0+2+1)/\ix (0+2+1) 4/\ix (0+2) 4/\ix (0+2) 4/\ix (0+2+1) 4/\aE (0+2+2)/\((0+2+2:Int)<4->aE (0+2+2+1)/\ix (0+2+2+1) 4/\False)/\
          (¬(0+2+2:Int)<4->s.a.x=(Geo.loS s).x/\s.a.y=(Geo.loS s).y/\s.b.x=(Geo.hiS s).x/\s.b.y=(Geo.hiS s).y/\t.b.x=(Geo.loS t).x/\t.b.y=(Geo.loS t).y/\t.a.x=(Geo.hiS t).x/\t.a.y=(Geo.hiS t).y))/\
         (Geo.bX t.b t.a=false->aE (0+2+2)/\((0+2+2:Int)<4->aE (0+2+2+1)/\ix (0+2+2+1) 4/\False)/\
          (¬(0+2+2:Int)<4->s.a.x=(Geo.loS s).x/\s.a.y=(Geo.loS s).y/\s.b.x=(Geo.hiS s).x/\s.b.y=(Geo.hiS s).y/\t.a.x=(Geo.loS t).x/\t.a.y=(Geo.loS t).y/\t.b.x=(Geo.hiS t).x/\t.b.y=(Geo.hiS t).y)))/\
        (¬(0+2:Int)<4->s.a.x=(Geo.loS s).x/\s.a.y=(Geo.loS s).y/\s.b.x=(Geo.hiS s).x/\s.b.y=(Geo.hiS s).y/\t.a.x=(Geo.loS t).x/\t.a.y=(Geo.loS t).y/\t.b.x=(Geo.hiS t).x/\t.b.y=(Geo.hiS t).y)))/\
      (¬(0:Int)<4->s.a.x=(Geo.loS s).x/\s.a.y=(Geo.loS s).y/\s.b.x=(Geo.hiS s).x/\s.b.y=(Geo.hiS s).y/\t.a.x=(Geo.loS t).x/\t.a.y=(Geo.loS t).y/\t.b.x=(Geo.hiS t).x/\t.b.y=(Geo.hiS t).y))/\
     (∀y_1:Unit,ix 0 4/\ix 1 4/\(ix 2 4/\(Geo.bX (Geo.loS s) (Geo.loS t)=true->ix 2 4/\(Geo.loS t).x=(Geo.cM s t).x/\(Geo.loS t).y=(Geo.cM s t).y)/\
       (Geo.bX (Geo.loS s) (Geo.loS t)=false->(Geo.loS s).x=(Geo.cM s t).x/\(Geo.loS s).y=(Geo.cM s t).y))/\
      (∀y_2:Unit,(ix 3 4/\(Geo.bX (Geo.hiS t) (Geo.hiS s)=true->ix 3 4/\(Geo.hiS t).x=(Geo.cT s t).x/\(Geo.hiS t).y=(Geo.cT s t).y)/\
        (Geo.bX (Geo.hiS t) (Geo.hiS s)=false->(Geo.hiS s).x=(Geo.cT s t).x/\(Geo.hiS s).y=(Geo.cT s t).y))/\
       (∀y_3:Unit,(Geo.fF (Geo.cM s t) (Geo.cT s t)=0->1=(bW s t).k/\(Geo.cM s t).x=(bW s t).p.x/\(Geo.cM s t).y=(bW s t).p.y/\1=(bW s t).p.den/\0=(bW s t).s.a.x/\0=(bW s t).s.a.y/\0=(bW s t).s.b.x/\0=(bW s t).s.b.y)/\
        (¬Geo.fF (Geo.cM s t) (Geo.cT s t)=0->(Geo.fF (Geo.cM s t) (Geo.cT s t)= -1->3=(bW s t).k/\0=(bW s t).p.x/\0=(bW s t).p.y/\0=(bW s t).p.den/\(Geo.cM s t).x=(bW s t).s.a.x/\(Geo.cM s t).y=(bW s t).s.a.y/\(Geo.cT s t).x=(bW s t).s.b.x/\(Geo.cT s t).y=(bW s t).s.b.y)/\
         (¬Geo.fF (Geo.cM s t) (Geo.cT s t)= -1->0=(bW s t).k/\0=(bW s t).p.x/\0=(bW s t).p.y/\0=(bW s t).p.den/\0=(bW s t).s.a.x/\0=(bW s t).s.a.y/\0=(bW s t).s.b.x/\0=(bW s t).s.b.y)))))))))) (by kernel_rfl) (by
  have gB:(!Geo.aK s)=false->(!Geo.aK t)=false-> -200000000<=tC s t/\tC s t<=200000000:=fun h1 h2=>by
   have bs:bd 4000 s.a/\bd 4000 s.b:=tU h1;have bt:bd 4000 t.a/\bd 4000 t.b:=tU h2;have c1:=mR (jR bs.2 bs.1) (jR bt.2 bt.1);unfold tC Geo.cross;omega
  have gM:∀{r:Geo.S} {M:Int},8000<=M->(!Geo.aK r)=false->bd M r.a/\bd M r.b/\bd M (Geo.sub r.b r.a):=fun hM h=>by
   have b:=tU h (M:=4000);have c:=jR b.2 b.1;unfold bd at*;omega
  have e1:(!Geo.aK s)=true->bW s t=cz:=fun h=>if_pos h
  have e2:(!Geo.aK t)=true->bW s t=cz:=fun h=>by unfold bW;rw[h];split<;>rfl
  have e3:(!Geo.aK s)=false->(!Geo.aK t)=false->¬tC s t=0->bW s t=aW s t (tC s t):=fun h1 h2 h3=>by unfold bW;rw[h1,h2];exact if_pos h3
  have e4:(!Geo.aK s)=false->(!Geo.aK t)=false->¬¬tC s t=0->mb1 s t=true->bW s t=Sm s.a:=fun h1 h2 h3 h4=>by unfold bW;rw[h1,h2,if_neg h3,h4];rfl
  have e5:(!Geo.aK s)=false->(!Geo.aK t)=false->¬¬tC s t=0->mb1 s t=false->mb1 t s=true->bW s t=Sm t.a:=fun h1 h2 h3 h4 h5=>by unfold bW;rw[h1,h2,if_neg h3,h4,h5];rfl
  have e6:(!Geo.aK s)=false->(!Geo.aK t)=false->¬¬tC s t=0->mb1 s t=false->mb1 t s=false->mb3 s t=true->bW s t=cz:=fun h1 h2 h3 h4 h5 h6=>by unfold bW;rw[h1,h2,if_neg h3,h4,h5,h6];rfl
  have e7:(!Geo.aK s)=false->(!Geo.aK t)=false->¬¬tC s t=0->mb1 s t=false->mb1 t s=false->mb3 s t=false->bW s t=tX s t:=fun h1 h2 h3 h4 h5 h6=>by unfold bW;rw[h1,h2,if_neg h3,h4,h5,h6];rfl
  have e8:bW s t=tX s t->Geo.fF (Geo.cM s t) (Geo.cT s t)=0->bW s t=Sm (Geo.cM s t):=fun h h1=>by rw[h];exact if_pos h1
  have e9:bW s t=tX s t->¬Geo.fF (Geo.cM s t) (Geo.cT s t)=0->Geo.fF (Geo.cM s t) (Geo.cT s t)= -1->bW s t=⟨3,⟨0,0,0⟩,⟨Geo.cM s t,Geo.cT s t⟩⟩:=fun h h1 h2=>by rw[h];unfold tX;rw[if_neg h1,if_pos h2]
  have e10:bW s t=tX s t->¬Geo.fF (Geo.cM s t) (Geo.cT s t)=0->¬Geo.fF (Geo.cM s t) (Geo.cT s t)= -1->bW s t=cz:=fun h h1 h2=>by rw[h];unfold tX;rw[if_neg h1,if_neg h2]
  have q1:s.a=s.b->true=mb3 s t:=fun h=>by unfold mb3;rw[decide_eq_true h];rfl
  have q2:t.a=t.b->true=mb3 s t:=fun h=>by unfold mb3;rw[decide_eq_true h];simp
  have q3:¬s.a=s.b->¬t.a=t.b->decide (¬Geo.turn s.a s.b t.a=0)=mb3 s t:=fun h1 h2=>by unfold mb3;rw[decide_eq_false h1,decide_eq_false h2];simp
  have q4:∀{s t:Geo.S},s.a=s.b->Geo.onS t s.a=mb1 s t:=fun h=>by unfold mb1;rw[decide_eq_true h];rfl
  have q5:∀{s t:Geo.S},¬s.a=s.b->false=mb1 s t:=fun h=>by unfold mb1;rw[decide_eq_false h];rfl
  have w1:∀{r:Geo.S},Geo.bX r.b r.a=true->r.b=Geo.loS r/\r.a=Geo.hiS r:=fun h=>by unfold Geo.loS Geo.hiS;rw[h];exact⟨rfl,rfl⟩
  have w2:∀{r:Geo.S},Geo.bX r.b r.a=false->r.a=Geo.loS r/\r.b=Geo.hiS r:=fun h=>by unfold Geo.loS Geo.hiS;rw[h];exact⟨rfl,rfl⟩
  have w3:Geo.bX (Geo.loS s) (Geo.loS t)=true->Geo.loS t=Geo.cM s t:=fun h=>by unfold Geo.cM;rw[h];rfl
  have w4:Geo.bX (Geo.loS s) (Geo.loS t)=false->Geo.loS s=Geo.cM s t:=fun h=>by unfold Geo.cM;rw[h];rfl
  have w5:Geo.bX (Geo.hiS t) (Geo.hiS s)=true->Geo.hiS t=Geo.cT s t:=fun h=>by unfold Geo.cT;rw[h];rfl
  have w6:Geo.bX (Geo.hiS t) (Geo.hiS s)=false->Geo.hiS s=Geo.cT s t:=fun h=>by unfold Geo.cT;rw[h];rfl
  repeat' first|with_reducible apply And.intro|with_reducible intro
  all_goals repeat with_reducible cases‹_/\_›
  all_goals first|assumption|rfl|(unfold ix;omega)|(unfold aE;omega)|omega|exact nb ‹_› |exact q1 ‹_› |exact q2 ‹_› |exact q3 ‹_› ‹_› |exact q4 ‹_› |exact q5 ‹_› |(rw[e1 ‹_›] <;>rfl)|(rw[e2 ‹_›] <;>rfl)|(rw[e3 ‹_› ‹_› ‹_›] <;>rfl)|(rw[e4 ‹_› ‹_› ‹_› ‹_›] <;>rfl)|(rw[e5 ‹_› ‹_› ‹_› ‹_› ‹_›] <;>rfl)|(rw[e6 ‹_› ‹_› ‹_› ‹_› ‹_› ‹_›] <;>rfl)|exact e7 ‹_› ‹_› ‹_› ‹_› ‹_› ‹_› |(rw[e8 ‹_› ‹_›] <;>rfl)|(rw[e9 ‹_› ‹_› ‹_›] <;>rfl)|(rw[e10 ‹_› ‹_› ‹_›] <;>rfl)|exact(gB ‹_› ‹_›).1|exact(gB ‹_› ‹_›).2|exact(gM (by decide) ‹_›).1|exact(gM (by decide) ‹_›).2.1|exact(gM (by decide) ‹_›).2.2|(rw[<-(w1 ‹_›).1];done)|(rw[<-(w1 ‹_›).2];done)|(rw[<-(w2 ‹_›).1];done)|(rw[<-(w2 ‹_›).2];done)|(rw[w3 ‹_›];done)|(rw[w4 ‹_›];done)|(rw[w5 ‹_›];done)|(rw[w6 ‹_›];done))
def aJN:Tab:=cK [(199,aK6)] aJE
theorem aF9:aJN.Ok Tryz.prog:=aH aF1 ⟨aM2,trivial⟩
theorem aCE(s t:Geo.S)(d:Int):(aW s t d).k=Geo.pH s t d:=by
 unfold aW;split
 ·rename_i h;rw[h];rfl
 ·rfl
theorem aEy(s t:Geo.S):(bW s t).k=Geo.cN s t:=by
 have hc:(cz).k=0:=rfl;have h1:∀v,(Sm v).k=1:=fun _=>rfl
 have e1:mb1 s t=true↔s.a=s.b/\Geo.onS t s.a=true:=by unfold mb1;simp
 have e2:mb1 t s=true↔t.a=t.b/\Geo.onS s t.a=true:=by unfold mb1;simp
 have e3:mb3 s t=true↔s.a=s.b\/t.a=t.b\/Geo.turn s.a s.b t.a≠0:=by unfold mb3;simp
 unfold bW Geo.cN tX;rw[<-tC];simp only[<-e1,<-e2,<-e3];cases Geo.aK s<;>cases Geo.aK t<;>simp only[Bool.not_true,Bool.not_false,Bool.and_true,Bool.and_false,if_true,Bool.false_eq_true,if_false,hc,ne_eq]
 repeat' split
 all_goals first|rfl|exact aCE _ _ _
def aLr:Con:=con (ac aS (a1 aS)) (fun(_,_)=>[]) (fun(s,t)=> .int .i64 (Geo.cN s t)
 )
theorem aNn:aLr.Ok Tryz.prog 156:=aR (bO aF9) (raw:=bT) (fun(_,_)=>[]) (fun(_,_)=>⟨_,rfl⟩) fun(s,t) _=>bP (q:=(bW s t).k=Geo.cN s t) (by kernel_rfl) (by
 exact aEy s t)
def aKb:Tab:=cK [(156,aLr)] aJN
theorem aGv:aKb.Ok Tryz.prog:=aH aF9 ⟨aNn,trivial⟩
end
end Go.Proofs.YtdaeofhdgabhjaaGreat
namespace Go.Proofs.YtdaeofhdgabhjaaGreat
open Go.RowKit
set_option maxRecDepth 100000
noncomputable section
open Geo (nth)
def aLt:Con:=con (ac (aL .V) (a1 aN)) (fun(r,i)=>[i<r.length,r.length<=1000000]) (fun(r,i)=>aV.enc (Geo.prv r i)
 )
theorem aNp:aLt.Ok Tryz.prog 153:=aR (bO aGv) (raw:=bT) (fun(_,_)=>[]) (fun(_,_)=>⟨_,rfl⟩) fun(r,i) hp=>bP (q:=aE ((i:Int)+r.length)/\aE ((i:Int)+r.length-1)/\(r.length:Int)≠0/\ix (Int.tmod ((i:Int)+r.length-1) (r.length:Int)) r.length/\(nth r (Int.tmod ((i:Int)+r.length-1) (r.length:Int)).toNat).x=(Geo.prv r i).x/\(nth r (Int.tmod ((i:Int)+r.length-1) (r.length:Int)).toNat).y=(Geo.prv r i).y) (by kernel_rfl) (by
 change i<r.length/\r.length<=1000000 at hp;have h:Int.tmod ((i:Int)+r.length-1) (r.length:Int)=(((i+r.length-1) % r.length:Nat):Int):=by
  rw[show(i:Int)+r.length-1=((i+r.length-1:Nat):Int) by omega,<-Int.ofNat_tmod]
 rw[h];exact⟨eC (by omega),eC (by omega),by omega,cV (by omega),rfl,rfl⟩)
def aKe:Tab:=cK [(153,aLt)] aKb
theorem aGy:aKe.Ok Tryz.prog:=aH aGv ⟨aNp,trivial⟩
def aLs:Con:=con (ac (aL .V) (a1 aN)) (fun(r,i)=>[i<r.length,r.length<=1000000]) (fun(r,i)=>aV.enc (Geo.nxt r i)
 )
theorem aNo:aLs.Ok Tryz.prog 154:=aR (bO aGy) (raw:=bT) (fun(_,_)=>[]) (fun(_,_)=>⟨_,rfl⟩) fun(r,i) hp=>bP (q:=aE ((i:Int)+1)/\(r.length:Int)≠0/\ix (((i+1) % r.length:Nat):Int) r.length/\(nth r ((i+1) % r.length)).x=(Geo.nxt r i).x/\(nth r ((i+1) % r.length)).y=(Geo.nxt r i).y) (by kernel_rfl) (by
 change i<r.length/\r.length<=1000000 at hp;exact⟨eC (by omega),by omega,cV (by omega),rfl,rfl⟩)
def aKd:Tab:=cK [(154,aLs)] aKe
theorem aGx:aKd.Ok Tryz.prog:=aH aGy ⟨aNo,trivial⟩
def aHy:Con:=aKR (a1 (aL .V)) (fun r=>[r.length<=1000]) 46 .S (fun r=>Geo.edges r) (fun _=>[])
theorem aKN:aHy.Ok Tryz.prog 155:=aEQ (bO aGx) (raw:=bT) (fun r=>[lp 5 11 r.length (fun _=>[]) [21] (fun k=>[(3,.own 21 .S k)]) (fun k=>[(21,.row 46 .S ((Geo.edges r).take k))])]
  ) (fun _=>⟨[],rfl⟩) fun r hp=>bP (q:=((r.length:Int)<2->Geo.edges r=([] :List Geo.S))/\
 (¬(r.length:Int)<2->(0=(0:Int)/\(0:Nat)=0/\List.take 0 (Geo.edges r)=([] :List Geo.S)/\(0:Nat)<=r.length)/\
  (∀x:Nat,x<=r.length->((x:Int)<r.length->ix (x:Int) r.length/\x<r.length/\r.length<=1000000/\x=(List.take x (Geo.edges r)).length/\(List.take x (Geo.edges r)).length+[(⟨(nth r x),(Geo.nxt r x)⟩:Geo.S)].length<=1000000/\aE ((x:Int)+1)/\(x:Int)+1=((x+1:Nat):Int)/\(List.take x (Geo.edges r)++[(⟨(nth r x),(Geo.nxt r x)⟩:Geo.S)]).length=x+1/\List.take x (Geo.edges r)++[(⟨(nth r x),(Geo.nxt r x)⟩:Geo.S)] =List.take (x+1) (Geo.edges r)/\x+1<=r.length/\r.length-(x+1)<r.length-x)/\
   (¬(x:Int)<r.length->List.take x (Geo.edges r)=Geo.edges r/\x=(List.take x (Geo.edges r)).length)))) (by kernel_rfl) (by
  change r.length<=1000 at hp;have e0:(r.length:Int)<2->Geo.edges r=[] :=fun h=>by unfold Geo.edges;rw[if_pos (by omega)]
  have e1:¬(r.length:Int)<2->(Geo.edges r).length=r.length:=fun h=>mW r (by omega)
  have e2:¬(r.length:Int)<2->∀x:Nat,(x:Int)<r.length->List.take x (Geo.edges r)++[⟨nth r x,Geo.nxt r x⟩] =List.take (x+1) (Geo.edges r):=fun h x hx=>by
   have hx':x<(Geo.edges r).length:=by rw[e1 h];omega
   rw[List.take_succ_eq_append_getElem hx',<-gA hx',pU (by omega) (by omega)];rfl
  have e3:¬(r.length:Int)<2->∀x:Nat,x<=r.length->(List.take x (Geo.edges r)).length=x:=fun h x hx=>by
   rw[List.length_take,e1 h];omega
  have e4:¬(r.length:Int)<2->∀x:Nat,¬(x:Int)<r.length->List.take x (Geo.edges r)=Geo.edges r:=fun h x hx=>List.take_of_length_le (by rw[e1 h];omega)
  repeat' first|with_reducible apply And.intro|with_reducible intro
  all_goals repeat with_reducible cases‹_/\_›
  all_goals first|assumption|rfl|exact trivial|exact nb ‹_› |exact nb' ‹_› |omega|exact cV (by omega)|(unfold ix;omega)|(unfold aE;omega)|exact bG _|exact aA ‹_› ‹_› |(refine aA ‹_› ?_;simp_all;done)|exact e0 ‹_› |exact e2 ‹_› _ ‹_› |exact e4 ‹_› _ ‹_› |exact(e3 ‹_› _ ‹_›).symm|(rw[List.length_append,e3 ‹_› _ ‹_›];simp;done)|(rw[e3 ‹_› _ ‹_›];simp;omega)|grind)
def aKc:Tab:=cK [(155,aHy)] aKd
theorem aGw:aKc.Ok Tryz.prog:=aH aGx ⟨aKN,trivial⟩
def aLu:Con:=con (a1 (aL .V)) (fun r=>[Geo.near r=true,r.length<=100000]) (fun r=> .int .i64 (Geo.area r))
theorem aNq:aLu.Ok Tryz.prog 152:=aR (bO aGw) (raw:=bT) (fun r=>[lp 3 8 r.length (fun _=>[]) [] (fun k=>[(3,.int .i64 (ar r k))]) (fun _=>[])]
  ) (fun _=>⟨_,rfl⟩) fun r hp=>bP (q:=(0=(0:Int)/\0=ar r 0/\(0:Nat)<=r.length)/\
 (∀x:Nat,x<=r.length->((x:Int)<r.length->ix (x:Int) r.length/\x<r.length/\r.length<=1000000/\bd 2000000000 (nth r x)/\bd 2000000000 (Geo.nxt r x)/\aE (ar r x+Geo.cross (nth r x) (Geo.nxt r x))/\aE ((x:Int)+1)/\(x:Int)+1=((x+1:Nat):Int)/\ar r x+Geo.cross (nth r x) (Geo.nxt r x)=ar r (x+1)/\x+1<=r.length/\r.length-(x+1)<r.length-x)/\
  (¬(x:Int)<r.length->ar r x=Geo.area r))) (by kernel_rfl) (by
  change Geo.near r=true/\r.length<=100000 at hp;have hn:=fun i hi=> @qM r hp.1 i hi 2000000000
  have ha:=fun k (hk:k<=r.length)=>Wk hp.1 k hk
  have hs:=Mq r;have hE:∀x:Nat,¬(x:Int)<r.length->x<=r.length->ar r x=Geo.area r:=fun x h1 h2=>by rw[show x=r.length by omega];rfl
  have hI:∀x:Nat,(x:Int)<r.length->aE (ar r x+Geo.cross (nth r x) (Geo.nxt r x)):=fun x h=>by
   have h1:=ha (x+1) (by omega)
   rw[hs x]at h1;exact eC (by unfold Geo.nxt;omega)
  repeat' first|with_reducible apply And.intro|with_reducible intro
  all_goals repeat with_reducible cases‹_/\_›
  all_goals first|assumption|rfl|exact trivial|exact nb ‹_› |exact nb' ‹_› |omega|exact cV (by omega)|(unfold ix;omega)|(unfold aE;omega)|exact bG _|exact aA ‹_› ‹_› |(refine aA ‹_› ?_;simp_all;done)|exact hn _ (by omega) (by decide)|exact hn _ (Nat.mod_lt _ (by omega)) (by decide)|exact hI _ ‹_› |exact hE _ ‹_› ‹_› |exact(hs _).symm|grind)
def aKf:Tab:=cK [(152,aLu)] aKc
theorem aGz:aKf.Ok Tryz.prog:=aH aGw ⟨aNq,trivial⟩
def aK7:Con:=con (a1 aV) (fun _=>[]) (fun v=> .bool (!Geo.aJ v 2000)
 )
theorem aM3:aK7.Ok Tryz.prog 198:=aR (bO aGz) (raw:=bT) (fun _=>[]) (fun _=>⟨_,rfl⟩) fun v _=>bP (q:=(0:Int)<=2000/\(2000:Int)<=9000000000000000000/\(!Geo.aJ v 2000)=(!Geo.aJ v 2000)) (by kernel_rfl) (by
 exact⟨by decide,by decide,rfl⟩)
def aJO:Tab:=cK [(198,aK7)] aKf
theorem aGa:aJO.Ok Tryz.prog:=aH aGz ⟨aM3,trivial⟩
def aF(f:Nat):Ar Unit where
 enc _:= .fnp f [] []
 dec s:=match s with
  | .fnp g [] [] =>(match Nat.beq g f with|true=>some ()|false=>none)
  |_=>none
 ok s a h:=by
  split at h
  ·split at h<;>cases h;rename_i e;rw[Nat.eq_of_beq_eq_true e]
  ·cases h
 pl _:=⟨_,rfl⟩
def fI{α:Type}(q:α->Bool)(l:List α):Int:=match l.findIdx? q with
 |some i=>(i:Int)
 |none=> -1
theorem Bl{t:LT}{l:List t.ty}{q:t.ty->Bool}{k:Nat}(hk:k<l.length)(h:q (t.nth l k)=true)(hu:bH (fun j=>q (t.nth l j)=false) k):(k:Int)=fI q l:=by
 have e:l.findIdx? q=some k:=by
  rw[List.findIdx?_eq_some_iff_getElem];refine⟨hk,by rw[<-t.nth_eq l hk];exact h,fun j hj=> ?_⟩
  have:=hu j hj;dsimp only at this;rw[t.nth_eq l (by omega)]at this
  rw[this];simp
 unfold fI;rw[e]
theorem wY{t:LT}{l:List t.ty}{q:t.ty->Bool}(hu:bH (fun j=>q (t.nth l j)=false) l.length): -1=fI q l:=by
 have e:l.findIdx? q=none:=by
  rw[List.findIdx?_eq_none_iff];intro x hx;obtain⟨j,hj,rfl⟩:=List.getElem_of_mem hx;have:=hu j hj;dsimp only at this;rwa[t.nth_eq l hj]at this
 unfold fI;rw[e]
theorem Ac{α:Type}(q:α->Bool)(l:List α):decide (0<=fI q l)=l.any q:=by
 unfold fI;cases e:l.findIdx? q with
 |none=>
  rw[List.findIdx?_eq_none_iff]at e;symm;show l.any q=decide ((0:Int)<= -1);rw[List.any_eq_false.2 (fun x hx=>by rw[e x hx];simp)];rfl
 |some i=>
  obtain⟨h1,h2,_⟩:=List.findIdx?_eq_some_iff_getElem.1 e;show decide (0<=(i:Int))=_;rw[decide_eq_true (by omega),List.any_eq_true.2 ⟨_,List.getElem_mem h1,h2⟩]
def aK0:Con:=con (ac (aL .V) (a1 (aF 198))) (fun(l,_)=>[l.length<=1000000]) (fun(l,_)=> .int .i64 (fI (fun v=> !Geo.aJ v 2000) l))
theorem aMW:aK0.Ok Tryz.prog 215:=aR (bO aGa) (raw:=bT) (fun(l,_)=>[cnt 2 8 l.length (bH fun j=>(!Geo.aJ (nth l j) 2000)=false)]
  ) (fun(_,_)=>⟨_,rfl⟩) fun(l,u) hp=>bP (q:=(0=(0:Int)/\(0:Nat)<=l.length/\bH (fun j=>(!Geo.aJ (nth l j) 2000)=false) 0)/\
 (∀x:Nat,x<=l.length/\bH (fun j=>(!Geo.aJ (nth l j) 2000)=false) x->((x:Int)<l.length->ix (x:Int) l.length/\((!Geo.aJ (nth l x) 2000)=true->(x:Int)=fI (fun v=>(!Geo.aJ v 2000)) l)/\
   ((!Geo.aJ (nth l x) 2000)=false->aE ((x:Int)+1)/\(x:Int)+1=((x+1:Nat):Int)/\x+1<=l.length/\bH (fun j=>(!Geo.aJ (nth l j) 2000)=false) (x+1)/\l.length-(x+1)<l.length-x))/\
  (¬(x:Int)<l.length-> -1=fI (fun v=>(!Geo.aJ v 2000)) l))) (by kernel_rfl) (by
  change l.length<=1000000 at hp
  repeat' first|with_reducible apply And.intro|with_reducible intro
  all_goals repeat with_reducible cases‹_/\_›
  all_goals first|assumption|rfl|exact trivial|exact nb ‹_› |exact nb' ‹_› |omega|exact cV (by omega)|(unfold ix;omega)|(unfold aE;omega)|exact bG _|exact aA ‹_› ‹_› |(refine aA ‹_› ?_;simp_all;done)|exact Bl (t:= .V) (by omega) ‹_› ‹_› |(obtain rfl:_=l.length:=Nat.le_antisymm ‹_› (by omega);exact wY (t:= .V) ‹_›)|grind)
def aJG:Tab:=cK [(215,aK0)] aJO
theorem aF3:aJG.Ok Tryz.prog:=aH aGa ⟨aMW,trivial⟩
def aK8:Con:=con (ac (aL .V) (a1 (aF 198))) (fun(l,_)=>[l.length<=1000000]) (fun(l,_)=> .bool (l.any fun v=> !Geo.aJ v 2000)
 )
theorem aM4:aK8.Ok Tryz.prog 197:=aR (bO aF3) (raw:=bT) (fun(_,_)=>[]) (fun(_,_)=>⟨_,rfl⟩) fun(l,u) hp=>bP (q:=l.length<=1000000/\decide (0<=fI (fun v=>(!Geo.aJ v 2000)) l)=List.any l (fun v=>(!Geo.aJ v 2000))) (by kernel_rfl) (by
 change l.length<=1000000 at hp;exact⟨hp,Ac _ _⟩)
def aJP:Tab:=cK [(197,aK8)] aJG
theorem aGb:aJP.Ok Tryz.prog:=aH aF3 ⟨aM4,trivial⟩
def aLv:Con:=con (a1 (aL .V)) (fun l=>[l.length<=1000000]) (fun l=> .bool (Geo.near l)
 )
theorem aNr:aLv.Ok Tryz.prog 151:=aR (bO aGb) (raw:=bT) (fun _=>[]) (fun _=>⟨_,rfl⟩) fun l hp=>bP (q:=l.length<=1000000/\(!List.any l (fun v=>(!Geo.aJ v 2000)))=Geo.near l) (by kernel_rfl) (by
 change l.length<=1000000 at hp;refine⟨hp,?_⟩;unfold Geo.near;rw[List.any_eq_not_all_not];simp)
def aKg:Tab:=cK [(151,aLv)] aJP
theorem aGA:aKg.Ok Tryz.prog:=aH aGb ⟨aNr,trivial⟩
def tP(r:Geo.aC)(i:Nat):Prop:=¬Geo.turn (Geo.prv r i) (nth r i) (Geo.nxt r i)=0
def iJ(r:Geo.aC)(i k:Nat):Bool:=(decide (¬(k:Int)=i+1)&&(decide (¬(i:Int)=0)||decide (¬(k:Int)=r.length-1)))&&decide (¬Geo.cN (Geo.cO r i) (Geo.cO r k)=0)
theorem up2{p:Nat->Nat->Prop}{i k n:Nat}(h:∀j,i<j->j<k->p i j)(hk:¬(k:Int)<n):∀j,i<j->j<n->p i j:=fun j h1 h2=>h j h1 (by omega)
theorem uO(r:Geo.aC):Geo.cB r=true↔3<=r.length/\r.length<=40/\Geo.near r=true/\0<Geo.area r/\(∀i,i<r.length->tP r i)/\(∀i k,i<k->k<r.length->iJ r i k=false):=by
 unfold Geo.cB tP iJ;simp only[Bool.and_eq_true,decide_eq_true_eq,List.all_eq_true,List.mem_range,Bool.or_eq_true,bne_iff_ne,beq_iff_eq,Bool.and_eq_false_imp,decide_eq_false_iff_not,ne_eq,and_assoc,Decidable.not_not];constructor
 ·rintro⟨h1,h2,h3,h4,h5,h6⟩;refine⟨h1,h2,h3,h4,h5,fun i k hi hk h=> ?_⟩
  rcases h6 i (by omega) k hk with(h7|h7)|h7
  ·rcases h7 with h7|h7<;>omega
  ·omega
  ·exact h7
 ·rintro⟨h1,h2,h3,h4,h5,h6⟩;refine⟨h1,h2,h3,h4,h5,fun i hi k hk=> ?_⟩
  by_cases h7:k<=i
  ·exact .inl (.inl (.inl h7))
  ·by_cases h8:k=i+1
   ·exact .inl (.inl (.inr h8))
   ·by_cases h9:i=0/\k=r.length-1
    ·exact .inl (.inr h9)
    ·exact .inr (h6 i k (by omega) hk ⟨by omega,by omega⟩)
def c83:Con:=con (a1 (aL .V)) (fun r=>[r.length<=1000]) (fun r=> .bool (Geo.cB r))
theorem k83:c83.Ok Tryz.prog 83:=aR (bO aGA) (raw:=bT) (fun r=>[jP 4 [3<=r.length,r.length<=40,Geo.near r=true,0<Geo.area r],cnt 5 29 r.length (bH (tP r)),lp 12 47 r.length (fun i=>[bH (fun i=>∀k,i<k->k<r.length->iJ r i k=false) i]) [] (fun _=>[]) (fun _=>[]) fun i=>[(15,.mk Nat (fun F _=>qI F 8) [] (fun k=>[i<k,k<=r.length,∀j,i<j->j<k->iJ r i j=false]) (fun k=>[(8,.int .i64 (k:Int))]) (fun _=>[]) (fun k=>r.length-k) fun k=>[jb 18 82 (iJ r i k)])]]
  ) (fun _=>⟨_,rfl⟩) fun r hp=>bP (q:=(((r.length:Int)<3->false=Geo.cB r)/\
  (¬(r.length:Int)<3->(40<(r.length:Int)->false=Geo.cB r)/\
   (¬40<(r.length:Int)->r.length<=1000000/\((!Geo.near r)=true->false=Geo.cB r)/\
    ((!Geo.near r)=false->Geo.near r=true/\r.length<=100000/\(Geo.area r<=0->false=Geo.cB r)/\
     (¬Geo.area r<=0->(3:Nat)<=r.length/\r.length<=40/\Geo.near r=true/\0<Geo.area r)))))/\
 (∀y:Unit,(3:Nat)<=r.length/\r.length<=40/\Geo.near r=true/\0<Geo.area r->(0=(0:Int)/\(0:Nat)<=r.length/\bH (tP r) 0)/\
  (∀x:Nat,x<=r.length/\bH (tP r) x->((x:Int)<r.length->ix (x:Int) r.length/\x<r.length/\r.length<=1000000/\x<r.length/\r.length<=1000000/\bd 1000000000 (Geo.prv r x)/\bd 1000000000 (nth r x)/\bd 1000000000 (Geo.nxt r x)/\(Geo.turn (Geo.prv r x) (nth r x) (Geo.nxt r x)=0->false=Geo.cB r)/\
    (¬Geo.turn (Geo.prv r x) (nth r x) (Geo.nxt r x)=0->aE ((x:Int)+1)/\(x:Int)+1=((x+1:Nat):Int)/\x+1<=r.length/\bH (tP r) (x+1)/\r.length-(x+1)<r.length-x))/\
   (¬(x:Int)<r.length->r.length<=1000/\(0=(0:Int)/\(0:Nat)<=r.length/\bH (fun i=>∀k:Nat,i<k->k<r.length->iJ r i k=false) 0)/\
    (∀x_1:Nat,x_1<=r.length/\bH (fun i=>∀k:Nat,i<k->k<r.length->iJ r i k=false) x_1->((x_1:Int)<r.length->aE ((x_1:Int)+1)/\((x_1:Int)+1=((x_1+1:Nat):Int)/\x_1<x_1+1/\x_1+1<=r.length/\(∀j:Nat,x_1<j->j<x_1+1->iJ r x_1 j=false))/\
      (∀x_2:Nat,x_1<x_2/\x_2<=r.length/\(∀j:Nat,x_1<j->j<x_2->iJ r x_1 j=false)->((x_2:Int)<r.length->(aE ((x_1:Int)+1)/\(¬(x_2:Int)=x_1+1->(¬(x_1:Int)=0->ix (x_1:Int) (Geo.edges r).length/\x_1<(Geo.edges r).length/\ix (x_2:Int) (Geo.edges r).length/\x_2<(Geo.edges r).length/\decide (¬Geo.cN (bC (Geo.edges r) x_1) (bC (Geo.edges r) x_2)=0)=iJ r x_1 x_2)/\
          (¬(¬(x_1:Int)=0)->aE ((r.length:Int)-1)/\(¬(x_2:Int)=r.length-1->ix (x_1:Int) (Geo.edges r).length/\x_1<(Geo.edges r).length/\ix (x_2:Int) (Geo.edges r).length/\x_2<(Geo.edges r).length/\decide (¬Geo.cN (bC (Geo.edges r) x_1) (bC (Geo.edges r) x_2)=0)=iJ r x_1 x_2)/\
           (¬(¬(x_2:Int)=r.length-1)->false=iJ r x_1 x_2)))/\
         (¬(¬(x_2:Int)=x_1+1)->false=iJ r x_1 x_2))/\
        (∀y_1:Unit,(iJ r x_1 x_2=true->false=Geo.cB r)/\
         (iJ r x_1 x_2=false->aE ((x_2:Int)+1)/\(x_2:Int)+1=((x_2+1:Nat):Int)/\x_1<x_2+1/\x_2+1<=r.length/\(∀j:Nat,x_1<j->j<x_2+1->iJ r x_1 j=false)/\r.length-(x_2+1)<r.length-x_2)))/\
       (¬(x_2:Int)<r.length->aE ((x_1:Int)+1)/\(x_1:Int)+1=((x_1+1:Nat):Int)/\x_1+1<=r.length/\bH (fun i=>∀k:Nat,i<k->k<r.length->iJ r i k=false) (x_1+1)/\r.length-(x_1+1)<r.length-x_1)))/\
     (¬(x_1:Int)<r.length->true=Geo.cB r)))))) (by kernel_rfl) (by
  change r.length<=1000 at hp;have iff:=uO r;have hf:(Geo.cB r=true->False)->false=Geo.cB r:=fun h=>by cases e:Geo.cB r;rfl;exact(h e).elim
  have el:3<=r.length->(Geo.edges r).length=r.length:=fun h=>mW r (by omega)
  have en:Geo.near r=true->∀i,i<r.length->bd 1000000000 (nth r i):=fun h i hi=>qM h hi
  have ep:3<=r.length->∀i,i<r.length->bC (Geo.edges r) i=Geo.cO r i:=fun h i hi=>pU (by omega) hi
  have hE:3<=r.length->r.length<=40->Geo.near r=true->0<Geo.area r->∀x y:Nat,¬(x:Int)<r.length->¬(y:Int)<r.length->bH (tP r) x->bH (fun i=>∀k:Nat,i<k->k<r.length->iJ r i k=false) y->true=Geo.cB r:=fun h1 h2 h3 h4 x y hx hy h5 h6=>
   (iff.2 ⟨h1,h2,h3,h4,fun i hi=>h5 i (by omega),fun i k hi hk=>h6 i (by omega) k hi hk⟩).symm
  have b0:∀x y:Nat,¬(¬(y:Int)=x+1)->false=iJ r x y:=fun x y h=>by unfold iJ;rw[decide_eq_false h];rfl
  have b1:∀x y:Nat,¬(¬(x:Int)=0)->¬(¬(y:Int)=r.length-1)->false=iJ r x y:=fun x y h1 h2=>by unfold iJ;rw[decide_eq_false h1,decide_eq_false h2];simp
  have b2:∀x y:Nat,3<=r.length->¬(y:Int)=x+1->¬(x:Int)=0->(x:Int)<r.length->(y:Int)<r.length->decide (¬Geo.cN (bC (Geo.edges r) x) (bC (Geo.edges r) y)=0)=iJ r x y:=fun x y h0 h1 h2 h3 h4=>by
   unfold iJ;rw[decide_eq_true h1,decide_eq_true h2,ep h0 x (by omega),ep h0 y (by omega)];rfl
  have b3:∀x y:Nat,3<=r.length->¬(y:Int)=x+1->¬(y:Int)=r.length-1->(x:Int)<r.length->(y:Int)<r.length->decide (¬Geo.cN (bC (Geo.edges r) x) (bC (Geo.edges r) y)=0)=iJ r x y:=fun x y h0 h1 h2 h3 h4=>by
   unfold iJ;rw[decide_eq_true h1,decide_eq_true h2,ep h0 x (by omega),ep h0 y (by omega),Bool.or_true];rfl
  repeat' first|with_reducible apply And.intro|with_reducible intro
  all_goals repeat with_reducible cases‹_/\_›
  all_goals first|assumption|rfl|exact trivial|exact nb ‹_› |exact nb' ‹_› |omega|exact cV (by omega)|(unfold ix;omega)|(unfold aE;omega)|exact bG _|exact aA ‹_› ‹_› |(refine aA ‹_› ?_;simp_all;done)|exact en ‹_› _ (by omega)|exact en ‹_› _ (Nat.mod_lt _ (by omega))|(rw[el ‹_›];exact nB (by omega))|(rw[el ‹_›];omega)|exact b0 _ _ ‹_› |exact b1 _ _ ‹_› ‹_› |exact b2 _ _ ‹_› ‹_› ‹_› ‹_› ‹_› |exact b3 _ _ ‹_› ‹_› ‹_› ‹_› ‹_› |exact hE ‹_› ‹_› ‹_› ‹_› _ _ ‹_› ‹_› ‹_› ‹_› |(refine hf fun h=> ?_;have h:=iff.1 h;first|omega|(have h4:=‹(!Geo.near r)=true›;rw[h.2.2.1]at h4;cases h4)|(exact absurd ‹Geo.turn _ _ _=0› (h.2.2.2.2.1 _ (by omega)))|(have h4:=‹iJ r _ _=true›;rw[h.2.2.2.2.2 _ _ ‹_<_› (by omega)]at h4;cases h4))|exact aA ‹_› (show tP r _ from‹¬Geo.turn _ _ _=0›)|(intro j h1 h2;omega)|exact aA ‹_› (up2 (p:=fun i k=>iJ r i k=false) ‹_› ‹_›)|grind)
def t83:Tab:=cK [(83,c83)] aKg
theorem aI5:t83.Ok Tryz.prog:=aH aGA ⟨k83,trivial⟩
end
end Go.Proofs.YtdaeofhdgabhjaaGreat
namespace Go.Proofs.YtdaeofhdgabhjaaGreat
open Go.RowKit
set_option maxHeartbeats 2000000 in
theorem aCP(n:Nat)(w:World)(h0:0<n)(hn:n<=100000):
  Calls Tryz.prog 207 #[.slice none 0 0,.int .i64 n] w fun e w'=>∃v,e= .returned v/\w'.ownsRow w.heap.size 44 2 v 0 []/\Below w.heap.size w w':=by
 have hinf:(Tryz.prog.info? 44).map (fun i=>(i.zero,i.size,i.bytes))=some (some (.agg #[.int .i64 0,.int .i64 0]),2,16):=by kernel_rfl
 obtain⟨i,hi1,hi2⟩:=Option.map_eq_some_iff.1 hinf;simp only[Prod.mk.injEq]at hi2;obtain⟨i1,i2,i3⟩:=hi2;have hold:(Builtin.firstCells i.size 0 (.slice none 0 0)).run Tryz.prog w.drew= .ok ([] :List Value).toArray w.drew:=run_firstCells_none w.drew i.size 0 0 0;have hrz:∀ty,(Builtin.append_ #[23,3] ty #[.slice none 0 0,.int .i64 n]).run Tryz.prog w= .ok (.slice (some ⟨w.heap.size,0,none⟩) n (grownCap w n 0 44))
   (w.drew.alloc (.cells (#[] ++Builtin.zeroCells #[.int .i64 0,.int .i64 0] n++Builtin.zeroCells #[.int .i64 0,.int .i64 0] (grownCap w n 0 44-n)) 44)):=fun ty=>by
  have h:=Lib.run_append_grow_zeros w 23 3 ty 44 i (.agg #[.int .i64 0,.int .i64 0]) .i64 .i64 Tryz.underlying23 Tryz.underlying3 hi1 i1 none 0 0 [] hold n h0 (by omega) (by omega) (by omega) (by rw[i3];omega)
   (by unfold Builtin.nextslicecap;rw[if_pos (by omega),i3];omega)
  rw[Nat.zero_add]at h;exact h
 have hGn:n<=grownCap w n 0 44:=grownCap_ge w _ _ _;have hGm:=grownCap_le_maxLen w n 0 44 (by unfold maxLen;omega)
 obtain⟨G,hG⟩:∃G,G=grownCap w n 0 44:=⟨_,rfl⟩;rw[<-hG]at hrz hGn hGm;have hG63:G<=9223372036854775807:=by unfold maxLen at hGm;omega
 have hzc:∀m,(Builtin.zeroCells #[.int .i64 0,.int .i64 0] m).size=m*2:=by intro m;unfold Builtin.zeroCells;simp
 obtain⟨cur,hcur⟩:∃cur,cur=(#[] ++Builtin.zeroCells #[.int .i64 0,.int .i64 0] n++Builtin.zeroCells #[.int .i64 0,.int .i64 0] (G-n):Array Value):=⟨_,rfl⟩;have hcs:cur.size=G*2:=by rw[hcur];simp[hzc];omega
 rw[<-hcur]at hrz;have hrow:(w.drew.alloc (.cells cur 44)).ownsRow w.heap.size 44 2 (.slice (some ⟨w.heap.size,0,none⟩) 0 G) 0 [] :=
  ⟨by simp,.inr ⟨w.heap.size,G,cur,rfl,Nat.le_refl _,Blk.new w.drew 44 cur,by omega,hGm,hcs,by simp⟩⟩
 have hbl:Below w.heap.size w (w.drew.alloc (.cells cur 44)):=((Below.refl _ _).drew).alloc (Nat.le_refl _) _;clear hold hinf hi1 i1 i2 i3 hcur hcs hzc hG hGm
 go_enter Tryz.func207,Tryz.ntmps207
 go_wp2_with (at_builtin;refine Lib.wpList_append_run _ rfl _ _ _ _ rfl _ _ rfl rfl _ _ (hrz _) ?_)
 all_goals
  go_ret
  exact⟨_,rfl,hrow,hbl⟩
theorem Zm{n:Nat}(h0:0<n)(hn:n<=100000):aHD Tryz.prog 207 [.int .i64 n] 44 2 [] 0 [] :=by
 refine⟨by kernel_rfl,by decide,fun C w vs hC h=> ?_⟩
 unfold cG at h;obtain⟨v,r,rfl,h1,h2⟩:=h;unfold bF at h1;unfold cG at h2;subst h1 h2;refine(aCP n w h0 hn).mono ?_;rintro e w' ⟨v,rfl,⟨_,h3⟩,hb⟩;rcases h3 with⟨rfl,_⟩|⟨g,cap,cur,rfl,h4,h5,_,h6,h7,_⟩
 ·exact⟨_,[],none,0,rfl,hb,by unfold cG;rfl,.inl ⟨rfl,rfl,rfl,rfl,rfl⟩⟩
 ·exact⟨_,[],some g,cap,rfl,hb,by unfold cG;rfl,.inr ⟨g,cur,rfl,rfl,Nat.zero_le _,h4,h5,h7,Nat.zero_le _,h6,fun i x hi=>by simp at hi⟩⟩
def aHx:List SV->Option Nat
 |[.nil,.int .i64 (.ofNat n)] =>some n
 |_=>none
theorem aAA{s:List SV}{n:Nat}(h:aHx s=some n):s=[.nil,.int .i64 (n:Int)] :=by
 unfold aHx at h;split at h
 ·cases h;rfl
 ·cases h
def aK3:Con:=⟨Nat,aHx,fun n=>[0<n,n<=100000],.ownN 44 .V (fun _=>[])⟩
theorem aMZ:aK3.Ok Tryz.prog 207:=by
 intro s n hd hp;rw[aAA hd];exact⟨[.int .i64 ((show Nat from n:Nat):Int)],rfl,Zm (hp _ List.mem_cons_self) (hp _ (List.mem_cons_of_mem _ List.mem_cons_self))⟩
end Go.Proofs.YtdaeofhdgabhjaaGreat
namespace Go.Proofs.YtdaeofhdgabhjaaGreat
open Go.RowKit
set_option maxRecDepth 100000
noncomputable section
open Geo (nth aD)
def aPt:Ar Geo.Pt where
 enc p:= .pro [.int .i64 p.x,.int .i64 p.y,.int .i64 p.den] 0
 dec s:=match s with
  | .pro [.int .i64 x,.int .i64 y,.int .i64 z] 0=>some ⟨x,y,z⟩
  |_=>none
 ok s a h:=by(split at h<;>cases h;rfl)
 pl _:=⟨_,rfl⟩
def jPU(key:Nat)(I:List Prop)(u:Frm):Nat×Ann:=(key+10000,.mk Unit (fun _ _=>some ()) [] (fun _=>I) (fun _=>u) (fun _=>[]) (fun _=>0) (fun _=>[]))
def aAY(p:Geo.Pt)(l:List Geo.S):Bool:=l.foldl (fun b s=>b !=Geo.gW s p) false
theorem aAa{p:Geo.Pt}{l:List Geo.S}{k:Nat}(h:k<l.length):aAY p (l.take (k+1))=(aAY p (l.take k) !=Geo.gW (bC l k) p):=by
 unfold aAY;rw[List.take_add_one,List.getElem?_eq_getElem h,List.foldl_append,gA h];rfl
theorem Pe{p:Geo.Pt}:∀{l:List Geo.S} {k:Nat} (ins:Bool),k<l.length->(∀j,j<k->Geo.onP (bC l j) p=false)->Geo.onP (bC l k) p=true->Geo.eQ p l ins=1
 |[],k,ins,h,_,_=>by simp at h
 |s::l,0,ins,h,_,h2=>by
  unfold Geo.eQ;rw[show Geo.onP s p=true from h2];rfl
 |s::l,k+1,ins,h,h1,h2=>by
  unfold Geo.eQ;rw[show Geo.onP s p=false from h1 0 (by omega)]
  exact Pe (l:=l) (k:=k) _ (by simpa using h) (fun j hj=>h1 (j+1) (by omega)) h2
theorem Iy{p:Geo.Pt}:∀{l:List Geo.S} (ins:Bool),(∀j,j<l.length->Geo.onP (bC l j) p=false)->Geo.eQ p l ins=if l.foldl (fun b s=>b !=Geo.gW s p) ins=true then 2 else 0
 |[],ins,_=>rfl
 |s::l,ins,h1=>by
  unfold Geo.eQ;rw[show Geo.onP s p=false from h1 0 (by simp)]
  exact Iy (l:=l) _ (fun j hj=>h1 (j+1) (by simpa using hj))
def pb(r:Geo.aC)(p:Geo.Pt)(k:Nat):Bool:=aAY p ((Geo.edges r).take k)
theorem aCV{r:Geo.aC}(h:Geo.cB r=true){j:Nat}(hj:j<(Geo.edges r).length):bd 2000 (bC (Geo.edges r) j).a/\bd 2000 (bC (Geo.edges r) j).b:=Ye (by rw[<-Geo.rL];exact h) hj
def cOK(a b:Geo.V):Prop:=(-4000000000000000000<=a.x*b.y/\a.x*b.y<=4000000000000000000)/\(-4000000000000000000<=a.y*b.x/\a.y*b.x<=4000000000000000000)
def aHf:Con:=con (ac aV (a1 aV)) (fun(a,b)=>[cOK a b]) (fun(a,b)=> .int .i64 (Geo.cross a b)
 )
theorem aMk:aHf.Ok Tryz.prog 111:=aR (bO aI5) (raw:=bT) (fun(_,_)=>[]) (fun(_,_)=>⟨_,rfl⟩) fun(a,b) hp=>bP (q:=aE (a.x*b.y)/\aE (a.y*b.x)/\aE (a.x*b.y-a.y*b.x)/\a.x*b.y-a.y*b.x=Geo.cross a b) (by kernel_rfl) (by
 change cOK a b at hp;unfold cOK at hp;exact⟨eC (by omega),eC (by omega),eC (by omega),rfl⟩)
def aGX:Tab:=cK [(111,aHf)] t83
theorem aBs:aGX.Ok Tryz.prog:=aH aI5 ⟨aMk,trivial⟩
def aK9:Con:=con (ac aV (a1 aPt)) (fun(v,p)=>[PtB p,bd 10000 v]) (fun(v,p)=>aV.enc (Geo.toV p v)
 )
theorem aM5:aK9.Ok Tryz.prog 186:=aR (bO aBs) (raw:=bT) (fun(_,_)=>[]) (fun(_,_)=>⟨_,rfl⟩) fun(v,p) hp=>bP (q:=aE (v.x*p.den)/\aE (p.x-v.x*p.den)/\aE (v.y*p.den)/\aE (p.y-v.y*p.den)/\p.x-v.x*p.den=(Geo.toV p v).x/\p.y-v.y*p.den=(Geo.toV p v).y) (by kernel_rfl) (by
 change PtB p/\bd 10000 v at hp;have h:=hp.1.off hp.2;have h2:(-600000000000<=p.x/\p.x<=600000000000)/\(-600000000000<=p.y/\p.y<=600000000000):=hp.1.2;exact⟨eC (by omega),eC (by omega),eC (by omega),eC (by omega),rfl,rfl⟩)
def aJQ:Tab:=cK [(186,aK9)] aGX
theorem aGc:aJQ.Ok Tryz.prog:=aH aBs ⟨aM5,trivial⟩
def aLE:Con:=con (ac (aL .V) (a1 aT)) (fun(r,_)=>[r.length<=1000]) (fun(r,p)=> .int .i64 (Geo.aP r p))
theorem aNA:aLE.Ok Tryz.prog 140:=aR (bO aGc) (raw:=bT) (fun(r,p)=>[jP 3 [Geo.cB r=true,Geo.cF p=true],lp 6 25 (Geo.edges r).length (fun k=>[bH (fun j=>Geo.onP (nE r j) p=false) k]) [] (fun k=>[(6,.bool (pb r p k))]) (fun _=>[]) fun k=>[jb 11 77 (Geo.onP (nE r k) p),jb 14 91 (Geo.gW (nE r k) p),jPU 15 [Geo.onP (nE r k) p=false] [(6,.bool (pb r p (k+1)))]]]
  ) (fun(_,_)=>⟨_,rfl⟩) fun(r,p) hp=>bP (q:=(r.length<=1000/\((!Geo.cB r)=true->0=Geo.aP r p)/\
  ((!Geo.cB r)=false->((!Geo.cF p)=true->0=Geo.aP r p)/\
   ((!Geo.cF p)=false->Geo.cB r=true/\Geo.cF p=true)))/\
 (∀y:Unit,Geo.cB r=true/\Geo.cF p=true->r.length<=1000/\(0=(0:Int)/\false=pb r p 0/\(0:Nat)<=(Geo.edges r).length/\bH (fun j=>Geo.onP (nE r j) p=false) 0)/\
  (∀x:Nat,x<=(Geo.edges r).length/\bH (fun j=>Geo.onP (nE r j) p=false) x->((x:Int)<(Geo.edges r).length->(ix (x:Int) (Geo.edges r).length/\x<(Geo.edges r).length/\PtB p/\bd 10000 (nE r x).a/\PtB p/\bd 10000 (nE r x).b/\bd 1000000000 (nE r x).b/\bd 1000000000 (nE r x).a/\cOK (Geo.sub (nE r x).b (nE r x).a) (Geo.toV p (nE r x).a)/\((Geo.cross (Geo.sub (nE r x).b (nE r x).a) (Geo.toV p (nE r x).a)=0->(Min.min (Geo.toV p (nE r x).a).x (Geo.toV p (nE r x).b).x<=0->(0<=Max.max (Geo.toV p (nE r x).a).x (Geo.toV p (nE r x).b).x->(Min.min (Geo.toV p (nE r x).a).y (Geo.toV p (nE r x).b).y<=0->decide (0<=Max.max (Geo.toV p (nE r x).a).y (Geo.toV p (nE r x).b).y)=Geo.onP (nE r x) p)/\
         (¬Min.min (Geo.toV p (nE r x).a).y (Geo.toV p (nE r x).b).y<=0->false=Geo.onP (nE r x) p))/\
        (¬0<=Max.max (Geo.toV p (nE r x).a).x (Geo.toV p (nE r x).b).x->false=Geo.onP (nE r x) p))/\
       (¬Min.min (Geo.toV p (nE r x).a).x (Geo.toV p (nE r x).b).x<=0->false=Geo.onP (nE r x) p))/\
      (¬Geo.cross (Geo.sub (nE r x).b (nE r x).a) (Geo.toV p (nE r x).a)=0->false=Geo.onP (nE r x) p))/\
     (∀y_1:Unit,(Geo.onP (nE r x) p=true->1=Geo.aP r p)/\
      (Geo.onP (nE r x) p=false->(((decide (0<=(Geo.toV p (nE r x).a).y) !=decide (0<=(Geo.toV p (nE r x).b).y))=true->(decide (0<=(Geo.toV p (nE r x).a).y)==decide (0<Geo.cross (Geo.sub (nE r x).b (nE r x).a) (Geo.toV p (nE r x).a)))=Geo.gW (nE r x) p)/\
        ((decide (0<=(Geo.toV p (nE r x).a).y) !=decide (0<=(Geo.toV p (nE r x).b).y))=false->false=Geo.gW (nE r x) p))/\
       (∀y_2:Unit,(Geo.gW (nE r x) p=true->(!pb r p x)=pb r p (x+1)/\Geo.onP (nE r x) p=false)/\
        (Geo.gW (nE r x) p=false->pb r p x=pb r p (x+1)/\Geo.onP (nE r x) p=false)))))/\
    (∀y_1:Unit,Geo.onP (nE r x) p=false->aE ((x:Int)+1)/\(x:Int)+1=((x+1:Nat):Int)/\pb r p (x+1)=pb r p (x+1)/\x+1<=(Geo.edges r).length/\bH (fun j=>Geo.onP (nE r j) p=false) (x+1)/\(Geo.edges r).length-(x+1)<(Geo.edges r).length-x))/\
   (¬(x:Int)<(Geo.edges r).length->(pb r p x=true->2=Geo.aP r p)/\
    (pb r p x=false->0=Geo.aP r p))))) (by kernel_rfl) (by
  change r.length<=1000 at hp;have e0:pb r p 0=false:=rfl;have es:∀k:Nat,(k:Int)<(Geo.edges r).length->pb r p (k+1)=(pb r p k !=Geo.gW (nE r k) p):=fun k h=>aAa (by omega)
  have hw0:Geo.cB r=false\/Geo.cF p=false->0=Geo.aP r p:=fun h=>by unfold Geo.aP;rcases h with h|h<;>simp[h]
  have hw:Geo.cB r=true->Geo.cF p=true->Geo.aP r p=Geo.eQ p (Geo.edges r) false:=fun h1 h2=>by unfold Geo.aP;simp[h1,h2]
  have eb:Geo.cB r=true->∀j:Nat,(j:Int)<(Geo.edges r).length->bd 2000 (bC (Geo.edges r) j).a/\bd 2000 (bC (Geo.edges r) j).b:=fun h j hj=>aCV h (by omega)
  have el:(Geo.edges r).length<=1000:=by unfold Geo.edges;split<;>simp<;>omega
  have s1:∀j:Nat,(j:Int)<(Geo.edges r).length->bH (fun j=>Geo.onP (nE r j) p=false) j->Geo.onP (nE r j) p=true->Geo.eQ p (Geo.edges r) false=1:=fun j h1 h2 h3=>Pe false (by omega) h2 h3
  have s2:∀k:Nat,¬(k:Int)<(Geo.edges r).length->k<=(Geo.edges r).length->bH (fun j=>Geo.onP (nE r j) p=false) k->Geo.eQ p (Geo.edges r) false=if pb r p k=true then 2 else 0:=fun k h1 h2 h=>by
   obtain rfl:k=(Geo.edges r).length:=by omega
   rw[Iy false h];unfold pb aAY;rw[List.take_length]
  have gV:Geo.cB r=true->Geo.cF p=true->∀j:Nat,(j:Int)<(Geo.edges r).length->cOK (Geo.sub (bC (Geo.edges r) j).b (bC (Geo.edges r) j).a) (Geo.toV p (bC (Geo.edges r) j).a):=fun h1 h2 j hj=>by
   have b1:=jR (eb h1 j hj).2 (eb h1 j hj).1;have hB:=PtB.of h2;have b2:=hB.off (eb h1 j hj).1.mono;have h2:(-600000000000<=p.x/\p.x<=600000000000)/\(-600000000000<=p.y/\p.y<=600000000000):=hB.2;have b3:bd 2000000000000 (Geo.toV p (bC (Geo.edges r) j).a):=by unfold bd Geo.toV;dsimp only;omega
   exact⟨by have:=iF b1.1 b3.2;omega,by have:=iF b1.2 b3.1;omega⟩
  have oN:∀j:Nat,(¬Geo.fK (nE r j) p=0\/¬Min.min (Geo.toV p (nE r j).a).x (Geo.toV p (nE r j).b).x<=0\/¬0<=Max.max (Geo.toV p (nE r j).a).x (Geo.toV p (nE r j).b).x\/¬Min.min (Geo.toV p (nE r j).a).y (Geo.toV p (nE r j).b).y<=0)->false=Geo.onP (nE r j) p:=fun j h=>by
   symm;unfold Geo.onP;rcases h with h|h|h|h
   ·rw[beq_eq_false_iff_ne.2 h];simp
   ·rw[decide_eq_false h];simp
   ·rw[decide_eq_false h];simp
   ·rw[decide_eq_false h];simp
  have oY:∀j:Nat,Geo.fK (nE r j) p=0->Min.min (Geo.toV p (nE r j).a).x (Geo.toV p (nE r j).b).x<=0->0<=Max.max (Geo.toV p (nE r j).a).x (Geo.toV p (nE r j).b).x->Min.min (Geo.toV p (nE r j).a).y (Geo.toV p (nE r j).b).y<=0->decide (0<=Max.max (Geo.toV p (nE r j).a).y (Geo.toV p (nE r j).b).y)=Geo.onP (nE r j) p:=fun j h1 h2 h3 h4=>by
   unfold Geo.onP;rw[beq_iff_eq.2 h1,decide_eq_true h2,decide_eq_true h3,decide_eq_true h4];simp
  have hN:∀j:Nat,(decide (0<=(Geo.toV p (nE r j).a).y) !=decide (0<=(Geo.toV p (nE r j).b).y))=false->false=Geo.gW (nE r j) p:=fun j h=>by unfold Geo.gW;rw[h];rfl
  have hY:∀j:Nat,(decide (0<=(Geo.toV p (nE r j).a).y) !=decide (0<=(Geo.toV p (nE r j).b).y))=true->(decide (0<=(Geo.toV p (nE r j).a).y)==decide (0<Geo.fK (nE r j) p))=Geo.gW (nE r j) p:=fun j h=>by unfold Geo.gW;rw[h];rfl
  repeat' first|with_reducible apply And.intro|with_reducible intro
  all_goals repeat with_reducible cases‹_/\_›
  all_goals first|assumption|rfl|exact trivial|exact nb ‹_› |exact nb' ‹_› |omega|exact cV (by omega)|(unfold ix;omega)|(unfold aE;omega)|exact bG _|exact aA ‹_› ‹_› |(refine aA ‹_› ?_;simp_all;done)|exact PtB.of ‹_› |exact(eb ‹_› _ ‹_›).1.mono|exact(eb ‹_› _ ‹_›).2.mono|exact gV ‹_› ‹_› _ ‹_› |exact oY _ ‹_› ‹_› ‹_› ‹_› |exact oN _ (.inl ‹_›)|exact oN _ (.inr (.inl ‹_›))|exact oN _ (.inr (.inr (.inl ‹_›)))|exact oN _ (.inr (.inr (.inr ‹_›)))|exact hN _ ‹_› |exact hY _ ‹_› |exact hw0 (.inl (nb' ‹_›))|exact hw0 (.inr (nb' ‹_›))|(rw[hw ‹_› ‹_›,s1 _ ‹_› ‹_› ‹_›];done)|(rw[hw ‹_› ‹_›,s2 _ ‹_› ‹_› ‹_›,‹pb _ _ _=_›];rfl)|(rw[es _ ‹_›,‹Geo.gW _ _=_›];simp;done)|grind)
def aKp:Tab:=cK [(140,aLE)] aJQ
theorem aGI:aKp.Ok Tryz.prog:=aH aGc ⟨aNA,trivial⟩
def c65:Con:=con (ac (aL .V) (a1 aV)) (fun(r,_)=>[r.length<=1000]) (fun(r,v)=> .int .i64 (Geo.bL r v)
 )
theorem k65:c65.Ok Tryz.prog 65:=aR (bO aGI) (raw:=bT) (fun(_,_)=>[]) (fun(_,_)=>⟨_,rfl⟩) fun(r,v) hp=>bP (q:=(0:Int)<=4000/\(4000:Int)<=9000000000000000000/\((!Geo.aJ v 4000)=true->0=Geo.bL r v)/\
 ((!Geo.aJ v 4000)=false->r.length<=1000/\Geo.aP r (Geo.iD v)=Geo.bL r v)) (by kernel_rfl) (by
  change r.length<=1000 at hp;have e:Geo.bL r v=if(!Geo.aJ v 4000)=true then 0 else Geo.aP r (Geo.iD v):=rfl
  exact⟨by decide,by decide,fun h=>by rw[e,if_pos h],fun h=>⟨hp,by rw[e,h];rfl⟩⟩)
def t65:Tab:=cK [(65,c65)] aKp
theorem aJh:t65.Ok Tryz.prog:=aH aGI ⟨k65,trivial⟩
def c89:Con:=con (a1 (aL .V)) (fun r=>[r.length<=1000]) (fun r=> .int .i64 (if Geo.cB r=true then Geo.area r else 0)
 )
theorem k89:c89.Ok Tryz.prog 89:=aR (bO aJh) (raw:=bT) (fun _=>[]) (fun _=>⟨_,rfl⟩) fun r hp=>bP (q:=r.length<=1000/\((!Geo.cB r)=true->0=(if Geo.cB r=true then Geo.area r else 0))/\
 ((!Geo.cB r)=false->Geo.near r=true/\r.length<=100000/\Geo.area r=(if Geo.cB r=true then Geo.area r else 0))) (by kernel_rfl) (by
  change r.length<=1000 at hp;refine⟨hp,fun h=>by rw[nb' h];rfl,fun h=>⟨?_,by omega,by rw[nb h];rfl⟩⟩
  exact((uO r).1 (nb h)).2.2.1)
def t89:Tab:=cK [(89,c89)] t65
theorem aMw:t89.Ok Tryz.prog:=aH aJh ⟨k89,trivial⟩
def aJJ:Tab:=cK [(207,aK3)] t89
theorem aF6:aJJ.Ok Tryz.prog:=aH aMw ⟨aMZ,trivial⟩
def aLe:Con:=con (a1 (aL .R)) (fun l=>[l.length<=1000,0<l.flatten.length,l.flatten.length<=1000]) (fun l=> .lst .V l.flatten)
theorem aNa:aLe.Ok Tryz.prog 181:=aR (bO aF6) (raw:=fun r i=>Nat.beq r 1&&Nat.beq i 0) (fun l=>[lp 3 11 l.length (fun _=>[]) [] (fun k=>[(3,.int .i64 (((l.take k).flatten.length:Nat):Int))]) (fun _=>[]),lp 11 27 l.length (fun _=>[]) [7] (fun k=>[(6,.own 7 .V ((l.take k).flatten.length))]) (fun k=>[(7,.row 44 .V ((l.take k).flatten))])]
  ) (fun _=>⟨_,rfl⟩) fun l hp=>bP (q:=(0=(0:Int)/\0=((List.flatten (List.take 0 l)).length:Int)/\(0:Nat)<=l.length)/\
 (∀x:Nat,x<=l.length->((x:Int)<l.length->ix (x:Int) l.length/\aE (((List.flatten (List.take x l)).length:Int)+(aD l x).length)/\(((List.flatten (List.take x l)).length:Int)+(aD l x).length<0->False)/\
   (¬((List.flatten (List.take x l)).length:Int)+(aD l x).length<0->aE ((x:Int)+1)/\(x:Int)+1=((x+1:Nat):Int)/\((List.flatten (List.take x l)).length:Int)+(aD l x).length=(List.flatten (List.take (x+1) l)).length/\x+1<=l.length/\l.length-(x+1)<l.length-x))/\
  (¬(x:Int)<l.length->(0:Nat)<(List.flatten (List.take x l)).length/\(List.flatten (List.take x l)).length<=100000/\(0=(0:Int)/\([] :List Geo.V).length=(List.flatten (List.take 0 l)).length/\([] :List Geo.V)=List.flatten (List.take 0 l)/\(0:Nat)<=l.length)/\
   (∀x_1:Nat,x_1<=l.length->((x_1:Int)<l.length->ix (x_1:Int) l.length/\(List.flatten (List.take x_1 l)).length=(List.flatten (List.take x_1 l)).length/\(List.flatten (List.take x_1 l)).length+(aD l x_1).length<=1000000/\aE ((x_1:Int)+1)/\(x_1:Int)+1=((x_1+1:Nat):Int)/\(List.flatten (List.take x_1 l)++aD l x_1).length=(List.flatten (List.take (x_1+1) l)).length/\List.flatten (List.take x_1 l)++aD l x_1=List.flatten (List.take (x_1+1) l)/\x_1+1<=l.length/\l.length-(x_1+1)<l.length-x_1)/\
    (¬(x_1:Int)<l.length->(List.flatten (List.take x_1 l)).length=(List.flatten (List.take x_1 l)).length/\List.flatten (List.take x_1 l)=List.flatten l))))) (by kernel_rfl) (by
  change l.length<=1000/\0<l.flatten.length/\l.flatten.length<=1000 at hp;have e1:∀x:Nat,(x:Int)<l.length->(l.take (x+1)).flatten=(l.take x).flatten++aD l x:=fun x h=>by
   rw[List.take_succ_eq_append_getElem (by omega),List.flatten_append,List.flatten_singleton,jY (by omega)]
  have e2:∀x:Nat,(l.take x).flatten.length<=l.flatten.length:=fun x=>by
   conv=>rhs;rw[<-List.take_append_drop x l,List.flatten_append,List.length_append]
   omega
  have e3:∀x:Nat,¬(x:Int)<l.length->List.take x l=l:=fun x h=>List.take_of_length_le (by omega)
  have e4:∀x:Nat,(x:Int)<l.length->(l.take x).flatten.length+(aD l x).length<=l.flatten.length:=fun x h=>by
   have:=e2 (x+1);rw[e1 x h,List.length_append]at this;exact this
  have e5:∀x:Nat,(x:Int)<l.length->((List.flatten (List.take x l)).length:Int)+(aD l x).length=(List.flatten (List.take (x+1) l)).length:=fun x h=>by rw[e1 x h,List.length_append];omega
  have e6:∀x:Nat,(x:Int)<l.length->aE (((List.flatten (List.take x l)).length:Int)+(aD l x).length):=fun x h=>eC (by have:=e4 x h;omega)
  repeat' first|with_reducible apply And.intro|with_reducible intro
  all_goals repeat with_reducible cases‹_/\_›
  all_goals first|assumption|rfl|exact trivial|exact nb ‹_› |exact nb' ‹_› |omega|exact cV (by omega)|(unfold ix;omega)|(unfold aE;omega)|exact bG _|exact aA ‹_› ‹_› |(refine aA ‹_› ?_;simp_all;done)|exact e6 _ ‹_› |exact e5 _ ‹_› |exact(e1 _ ‹_›).symm|(rw[e1 _ ‹_›];done)|(rw[e3 _ ‹_›];first|done|omega)|exact Nat.le_trans (e4 _ ‹_›) (by omega)|(rw[e3 _ ‹_›]at*;omega)|grind)
def aJV:Tab:=cK [(181,aLe)] aJJ
theorem aGh:aJV.Ok Tryz.prog:=aH aF6 ⟨aNa,trivial⟩
theorem yT(a b:Geo.V):Geo.fF a b<0↔Geo.bX a b=true:=by
 unfold Geo.fF Geo.bX Geo.fV;grind
theorem Js(a:Geo.V):Geo.bX a a=false:=by
 unfold Geo.bX;grind
def aLg:Con:=con (ac (aL .V) (a1 (aF 78))) (fun(r,_)=>[0<r.length,r.length<=1000]) (fun(r,_)=>aV.enc (nth r (Geo.cH r)))
theorem aNc:aLg.Ok Tryz.prog 175:=aR (bO aGh) (raw:=bT) (fun(r,_)=>[(5,.mk Nat (fun F _=>qI F 6) [] (fun k=>[0<k,k<=r.length]) (fun k=>[(6,.int .i64 (k:Int))]) (fun k=>[(7,.box 44 [.int .i64 (nth r (Geo.bM r k)).x,.int .i64 (nth r (Geo.bM r k)).y])]) (fun k=>r.length-k) (fun _=>[]))]
  ) (fun(_,_)=>⟨_,rfl⟩) fun(r,u) hp=>bP (q:=((r.length:Int)<1->False)/\
 (¬(r.length:Int)<1->ix 0 r.length/\(1=(1:Int)/\(nth r 0).x=(nth r (Geo.bM r 1)).x/\(nth r 0).y=(nth r (Geo.bM r 1)).y/\(0:Nat)<1/\(1:Nat)<=r.length)/\
  (∀x:Nat,(0:Nat)<x/\x<=r.length->((x:Int)<r.length->ix (x:Int) r.length/\(Geo.fF (nth r x) (nth r (Geo.bM r x))<0->ix (x:Int) r.length/\aE ((x:Int)+1)/\(x:Int)+1=((x+1:Nat):Int)/\(nth r x).x=(nth r (Geo.bM r (x+1))).x/\(nth r x).y=(nth r (Geo.bM r (x+1))).y/\(0:Nat)<x+1/\x+1<=r.length/\r.length-(x+1)<r.length-x)/\
    (¬Geo.fF (nth r x) (nth r (Geo.bM r x))<0->aE ((x:Int)+1)/\(x:Int)+1=((x+1:Nat):Int)/\(nth r (Geo.bM r x)).x=(nth r (Geo.bM r (x+1))).x/\(nth r (Geo.bM r x)).y=(nth r (Geo.bM r (x+1))).y/\(0:Nat)<x+1/\x+1<=r.length/\r.length-(x+1)<r.length-x))/\
   (¬(x:Int)<r.length->(nth r (Geo.bM r x)).x=(nth r (Geo.cH r)).x/\(nth r (Geo.bM r x)).y=(nth r (Geo.cH r)).y)))) (by kernel_rfl) (by
  change 0<r.length/\r.length<=1000 at hp;have e0:Geo.bM r 1=0:=by unfold Geo.bM Geo.bM;split<;>rfl
  have e1:∀x:Nat,Geo.fF (nth r x) (nth r (Geo.bM r x))<0->Geo.bM r (x+1)=x:=fun x h=>if_pos ((yT _ _).1 h)
  have e2:∀x:Nat,¬Geo.fF (nth r x) (nth r (Geo.bM r x))<0->Geo.bM r (x+1)=Geo.bM r x:=fun x h=>if_neg fun h2=>h ((yT _ _).2 h2)
  have e3:∀x:Nat,¬(x:Int)<r.length->x<=r.length->Geo.bM r x=Geo.cH r:=fun x h1 h2=>by rw[show x=r.length by omega];rfl
  repeat' first|with_reducible apply And.intro|with_reducible intro
  all_goals repeat with_reducible cases‹_/\_›
  all_goals first|assumption|rfl|exact trivial|exact nb ‹_› |exact nb' ‹_› |omega|exact cV (by omega)|(unfold ix;omega)|(unfold aE;omega)|exact bG _|exact aA ‹_› ‹_› |(refine aA ‹_› ?_;simp_all;done)|(rw[e0];done)|(rw[e1 _ ‹_›];done)|(rw[e2 _ ‹_›];done)|(rw[e3 _ ‹_› ‹_›];done)|grind)
def aJY:Tab:=cK [(175,aLg)] aJV
theorem aGj:aJY.Ok Tryz.prog:=aH aGh ⟨aNc,trivial⟩
def aLh:Con:=con (ac (aL .V) (a1 aV)) (fun(r,_)=>[r.length<=1000]) (fun(r,v)=> .int .i64 (fI (fun x=>decide (v=x)) r))
theorem aNd:aLh.Ok Tryz.prog 174:=aR (bO aGj) (raw:=bT) (fun(r,v)=>[cnt 2 8 r.length (bH fun j=>decide (v=nth r j)=false)]
  ) (fun(_,_)=>⟨_,rfl⟩) fun(r,v) hp=>bP (q:=(0=(0:Int)/\(0:Nat)<=r.length/\bH (fun j=>decide (v=nth r j)=false) 0)/\
 (∀x:Nat,x<=r.length/\bH (fun j=>decide (v=nth r j)=false) x->((x:Int)<r.length->ix (x:Int) r.length/\(v=(nth r x)->(x:Int)=fI (fun x=>decide (v=x)) r)/\
   (¬v=(nth r x)->aE ((x:Int)+1)/\(x:Int)+1=((x+1:Nat):Int)/\x+1<=r.length/\bH (fun j=>decide (v=nth r j)=false) (x+1)/\r.length-(x+1)<r.length-x))/\
  (¬(x:Int)<r.length-> -1=fI (fun x=>decide (v=x)) r))) (by kernel_rfl) (by
  change r.length<=1000 at hp
  repeat' first|with_reducible apply And.intro|with_reducible intro
  all_goals repeat with_reducible cases‹_/\_›
  all_goals first|assumption|rfl|exact trivial|exact nb ‹_› |exact nb' ‹_› |omega|exact cV (by omega)|(unfold ix;omega)|(unfold aE;omega)|exact bG _|exact aA ‹_› ‹_› |(refine aA ‹_› ?_;simp_all;done)|exact Bl (t:= .V) (by omega) (decide_eq_true ‹_›) ‹_› |(obtain rfl:_=r.length:=Nat.le_antisymm ‹_› (by omega);exact wY (t:= .V) ‹_›)|grind)
def aJZ:Tab:=cK [(174,aLh)] aJY
theorem aGk:aJZ.Ok Tryz.prog:=aH aGj ⟨aNd,trivial⟩
def aLQ:Con:=con (a1 (aL .V)) (fun r=>[r.length<=1000]) (fun r=> .lst .V (Geo.cX r)
 )
theorem aNM:aLQ.Ok Tryz.prog 126:=aR (bO aGk) (raw:=bT) (fun _=>[]) (fun _=>⟨_,rfl⟩) fun r hp=>bP (q:=r.length<=1000/\((!Geo.cB r)=true->Geo.cX r=([] :List Geo.V))/\
 ((!Geo.cB r)=false->(0:Nat)<r.length/\r.length<=1000/\r.length<=1000/\(0<=fI (fun x=>decide ((nth r (Geo.cH r))=x)) r/\fI (fun x=>decide ((nth r (Geo.cH r))=x)) r<=r.length)/\(0<=fI (fun x=>decide ((nth r (Geo.cH r))=x)) r/\fI (fun x=>decide ((nth r (Geo.cH r))=x)) r<=r.length)/\[List.drop (fI (fun x=>decide ((nth r (Geo.cH r))=x)) r).toNat r,List.take (fI (fun x=>decide ((nth r (Geo.cH r))=x)) r).toNat r].length<=1000/\(0:Nat)<(List.flatten [List.drop (fI (fun x=>decide ((nth r (Geo.cH r))=x)) r).toNat r,List.take (fI (fun x=>decide ((nth r (Geo.cH r))=x)) r).toNat r]).length/\(List.flatten [List.drop (fI (fun x=>decide ((nth r (Geo.cH r))=x)) r).toNat r,List.take (fI (fun x=>decide ((nth r (Geo.cH r))=x)) r).toNat r]).length<=1000/\List.flatten [List.drop (fI (fun x=>decide ((nth r (Geo.cH r))=x)) r).toNat r,List.take (fI (fun x=>decide ((nth r (Geo.cH r))=x)) r).toNat r] =Geo.cX r)) (by kernel_rfl) (by
  change r.length<=1000 at hp;have h0:(!Geo.cB r)=false->0<r.length:=fun h=>by have:=((uO r).1 (nb h)).1;omega
  have hf:0<r.length->fI (fun x=>decide (nth r (Geo.cH r)=x)) r=(Geo.cH r:Int):=fun h=>by
   have hl:=Geo.iI h;symm;exact Bl (t:= .V) hl (decide_eq_true rfl) fun j hj=>decide_eq_false fun e=>by
    have:=Geo.wP r r.length j hj;rw[show Geo.bM r r.length=Geo.cH r from rfl,e]at this
    exact absurd ((Js (nth r j)).symm.trans this) (by decide)
  refine⟨hp,fun h=>by unfold Geo.cX;rw[nb' h];rfl,fun h=> ?_⟩
  have h1:=h0 h;have hl:=Geo.iI h1;rw[hf h1];have hc:[List.drop ((Geo.cH r:Nat):Int).toNat r,List.take ((Geo.cH r:Nat):Int).toNat r].flatten=Geo.cX r:=by
   unfold Geo.cX;rw[nb h];simp[Geo.dP]
  repeat' first|with_reducible apply And.intro|with_reducible intro
  all_goals repeat with_reducible cases‹_/\_›
  all_goals first|assumption|rfl|exact trivial|exact nb ‹_› |exact nb' ‹_› |omega|exact cV (by omega)|(unfold ix;omega)|(unfold aE;omega)|exact bG _|exact aA ‹_› ‹_› |(refine aA ‹_› ?_;simp_all;done)|exact hc|grind)
def aKA:Tab:=cK [(126,aLQ)] aJZ
theorem aGT:aKA.Ok Tryz.prog:=aH aGk ⟨aNM,trivial⟩
end
end Go.Proofs.YtdaeofhdgabhjaaGreat
namespace Go.Proofs.YtdaeofhdgabhjaaGreat
open Go.RowKit
set_option maxRecDepth 100000
noncomputable section
def aPR:Ar Geo.aC where
 enc r:= .pro [.lst .V r] 0
 dec s:=match s with
  | .pro [x] 0=>Nu .V x
  |_=>none
 ok s a h:=by
  split at h
  ·have e:=vI h;show(match cR (avs [_])with|some q=>AV.p (.pro q 0)|none=> .any)=_
   rw[avs,avs,e];rfl
  ·cases h
 pl _:=⟨_,rfl⟩
def aPi:Ar Int where
 enc n:= .pro [.int .i64 n] 0
 dec s:=match s with
  | .pro [.int .i64 n] 0=>some n
  |_=>none
 ok s a h:=by(split at h<;>cases h;rfl)
 pl _:=⟨_,rfl⟩
def aCl(f:Nat){α:Type}(A:Arl α):Ar α where
 enc a:= .fnp f [] (A.enc a)
 dec s:=match s with
  | .fnp g [] b=>(match Nat.beq g f with|true=>A.dec b|false=>none)
  |_=>none
 ok s a h:=by
  split at h
  ·split at h
   ·rename_i b e;have:=A.ok _ _ h;simp only[SV.av,this];rw[Nat.eq_of_beq_eq_true e]
   ·cases h
  ·cases h
 pl a:=by
  obtain⟨q,h⟩:=A.pl a;exact⟨.fn (.func f) [] q,by simp only[SV.av,h,avs,dC];rfl⟩
def aHj:Ar (Geo.aC×Int×Unit):=aCl 180 (ac aPR (ac aPi a0))
theorem Lm{t:LT}{l:List t.ty}{q:t.ty->Bool}{j:Nat}(hj:j<l.length)(h:q (t.nth l j)=false):l.all q=false:=
 List.all_eq_false.2 ⟨_,List.getElem_mem hj,by rw[<-t.nth_eq l hj,h];simp⟩
theorem Dg{t:LT}{l:List t.ty}{q:t.ty->Bool}(h:bH (fun j=>q (t.nth l j)=true) l.length):l.all q=true:=
 List.all_eq_true.2 fun x hx=>by
  obtain⟨j,hj,rfl⟩:=List.getElem_of_mem hx;have:=h j hj;dsimp only at this;rwa[t.nth_eq l hj]at this
def aLf:Con:=con (ac aV (ac aPR (a1 aPi))) (fun(_,r,_)=>[r.length<=1000]) (fun(v,r,p)=> .bool (decide (¬Geo.bL r v=p))
 )
theorem aNb:aLf.Ok Tryz.prog 180:=aR (bO aGT) (raw:=bT) (fun(_,_,_)=>[]) (fun(_,_,_)=>⟨_,rfl⟩) fun(v,r,p) hp=>bP (q:=r.length<=1000/\decide (¬Geo.bL r v=p)=decide (¬Geo.bL r v=p)) (by kernel_rfl) (by
 change r.length<=1000 at hp
 repeat' first|with_reducible apply And.intro|with_reducible intro
 all_goals repeat with_reducible cases‹_/\_›
 all_goals first|assumption|rfl|exact trivial|exact nb ‹_› |exact nb' ‹_› |omega|exact cV (by omega)|(unfold ix;omega)|(unfold aE;omega)|exact bG _|exact aA ‹_› ‹_› |(refine aA ‹_› ?_;simp_all;done)|grind)
def aJW:Tab:=cK [(180,aLf)] aKA
theorem aGi:aJW.Ok Tryz.prog:=aH aGT ⟨aNb,trivial⟩
def aLq:Con:=con (ac (aL .V) (a1 aHj)) (fun(l,c)=>[l.length<=1000000,c.1.length<=1000]) (fun(l,c)=> .int .i64 (fI (fun v=>decide (¬Geo.bL c.1 v=c.2.1)) l))
theorem aNm:aLq.Ok Tryz.prog 157:=aR (bO aGi) (raw:=bT) (fun(l,c)=>[cnt 2 8 l.length (bH fun j=>decide (¬Geo.bL c.1 (Geo.nth l j)=c.2.1)=false)]
  ) (fun(_,_)=>⟨_,rfl⟩) fun(l,c) hp=>bP (q:=(0=(0:Int)/\(0:Nat)<=l.length/\bH (fun j=>decide (¬Geo.bL c.1 (Geo.nth l j)=c.2.1)=false) 0)/\
 (∀x:Nat,x<=l.length/\bH (fun j=>decide (¬Geo.bL c.1 (Geo.nth l j)=c.2.1)=false) x->((x:Int)<l.length->ix (x:Int) l.length/\c.1.length<=1000/\(decide (¬Geo.bL c.1 (Geo.nth l x)=c.2.1)=true->(x:Int)=fI (fun v=>decide (¬Geo.bL c.1 v=c.2.1)) l)/\
   (decide (¬Geo.bL c.1 (Geo.nth l x)=c.2.1)=false->aE ((x:Int)+1)/\(x:Int)+1=((x+1:Nat):Int)/\x+1<=l.length/\bH (fun j=>decide (¬Geo.bL c.1 (Geo.nth l j)=c.2.1)=false) (x+1)/\l.length-(x+1)<l.length-x))/\
  (¬(x:Int)<l.length-> -1=fI (fun v=>decide (¬Geo.bL c.1 v=c.2.1)) l))) (by kernel_rfl) (by
  change l.length<=1000000/\c.1.length<=1000 at hp
  repeat' first|with_reducible apply And.intro|with_reducible intro
  all_goals repeat with_reducible cases‹_/\_›
  all_goals first|assumption|rfl|exact trivial|exact nb ‹_› |exact nb' ‹_› |omega|exact cV (by omega)|(unfold ix;omega)|(unfold aE;omega)|exact bG _|exact aA ‹_› ‹_› |(refine aA ‹_› ?_;simp_all;done)|exact Bl (t:= .V) (by omega) ‹_› ‹_› |(obtain rfl:_=l.length:=Nat.le_antisymm ‹_› (by omega);exact wY (t:= .V) ‹_›)|grind)
def aKa:Tab:=cK [(157,aLq)] aJW
theorem aGt:aKa.Ok Tryz.prog:=aH aGi ⟨aNm,trivial⟩
def c84:Con:=con (ac (aL .V) (a1 aHj)) (fun(l,c)=>[l.length<=1000000,c.1.length<=1000]) (fun(l,c)=> .bool (l.any fun v=>decide (¬Geo.bL c.1 v=c.2.1))
 )
theorem k84:c84.Ok Tryz.prog 84:=aR (bO aGt) (raw:=bT) (fun(_,_)=>[]) (fun(_,_)=>⟨_,rfl⟩) fun(l,c) hp=>bP (q:=l.length<=1000000/\c.fst.length<=1000/\decide (0<=fI (fun v=>decide (¬Geo.bL c.fst v=c.2.1)) l)=List.any l (fun v=>decide (¬Geo.bL c.1 v=c.2.1))) (by kernel_rfl) (by
 change l.length<=1000000/\c.1.length<=1000 at hp;exact⟨hp.1,hp.2,Ac _ _⟩)
def t84:Tab:=cK [(84,c84)] aKa
theorem aI3:t84.Ok Tryz.prog:=aH aGt ⟨k84,trivial⟩
def aHA:Con:=con (ac (aL .V) (ac (aL .V) (a1 aI))) (fun(r,q,_)=>[r.length<=1000,q.length<=1000]) (fun(r,q,p)=> .bool (Geo.cR r q p)
 )
theorem aKP:aHA.Ok Tryz.prog 123:=aR (bO aI3) (raw:=bT) (fun(_,_,_)=>[]) (fun(_,_,_)=>⟨_,rfl⟩) fun(r,q,p) hp=>bP (q:=r.length<=1000000/\q.length<=1000/\(!List.any r (fun v=>decide (¬Geo.bL q v=p)))=Geo.cR r q p) (by kernel_rfl) (by
 change r.length<=1000/\q.length<=1000 at hp;refine⟨by omega,hp.2,?_⟩
 unfold Geo.cR;rw[List.any_eq_not_all_not,Bool.not_not];congr 1;funext v;rw[Bool.eq_iff_iff];simp)
def aKC:Tab:=cK [(123,aHA)] t84
theorem aGU:aKC.Ok Tryz.prog:=aH aI3 ⟨aKP,trivial⟩
def aHz:Con:=con (ac (aL .V) (a1 (aL .V))) (fun(a,b)=>[a.length<=1000,b.length<=1000]) (fun(a,b)=> .bool (Geo.dU a b))
theorem aKO:aHz.Ok Tryz.prog 124:=aR (bO aGU) (raw:=bT) (fun(a,b)=>[cnt 2 12 (Geo.edges a).length (bH fun i=>((Geo.edges b).all fun y=>Geo.cN (bC (Geo.edges a) i) y==0)=true) fun i=>[cnt 5 19 (Geo.edges b).length (bH fun k=>(Geo.cN (bC (Geo.edges a) i) (bC (Geo.edges b) k)==0)=true)]]
  ) (fun(_,_)=>⟨_,rfl⟩) fun(a,b) hp=>bP (q:=a.length<=1000/\(0=(0:Int)/\(0:Nat)<=(Geo.edges a).length/\bH (fun i=>List.all (Geo.edges b) (fun y=>Geo.cN (bC (Geo.edges a) i) y==0)=true) 0)/\
 (∀x:Nat,x<=(Geo.edges a).length/\bH (fun i=>List.all (Geo.edges b) (fun y=>Geo.cN (bC (Geo.edges a) i) y==0)=true) x->((x:Int)<(Geo.edges a).length->ix (x:Int) (Geo.edges a).length/\x<(Geo.edges a).length/\b.length<=1000/\(0=(0:Int)/\(0:Nat)<=(Geo.edges b).length/\bH (fun k=>(Geo.cN (bC (Geo.edges a) x) (bC (Geo.edges b) k)==0)=true) 0)/\
   (∀x_1:Nat,x_1<=(Geo.edges b).length/\bH (fun k=>(Geo.cN (bC (Geo.edges a) x) (bC (Geo.edges b) k)==0)=true) x_1->((x_1:Int)<(Geo.edges b).length->ix (x_1:Int) (Geo.edges b).length/\x_1<(Geo.edges b).length/\(¬Geo.cN (bC (Geo.edges a) x) (bC (Geo.edges b) x_1)=0->false=Geo.dU a b)/\
     (¬(¬Geo.cN (bC (Geo.edges a) x) (bC (Geo.edges b) x_1)=0)->aE ((x_1:Int)+1)/\(x_1:Int)+1=((x_1+1:Nat):Int)/\x_1+1<=(Geo.edges b).length/\bH (fun k=>(Geo.cN (bC (Geo.edges a) x) (bC (Geo.edges b) k)==0)=true) (x_1+1)/\(Geo.edges b).length-(x_1+1)<(Geo.edges b).length-x_1))/\
    (¬(x_1:Int)<(Geo.edges b).length->aE ((x:Int)+1)/\(x:Int)+1=((x+1:Nat):Int)/\x+1<=(Geo.edges a).length/\bH (fun i=>List.all (Geo.edges b) (fun y=>Geo.cN (bC (Geo.edges a) i) y==0)=true) (x+1)/\(Geo.edges a).length-(x+1)<(Geo.edges a).length-x)))/\
  (¬(x:Int)<(Geo.edges a).length->true=Geo.dU a b))) (by kernel_rfl) (by
  change a.length<=1000/\b.length<=1000 at hp;have el:∀r:Geo.aC,r.length<=1000->(Geo.edges r).length<=1000:=fun r h=>by unfold Geo.edges;split<;>simp<;>omega
  have ea:=el a hp.1;have eb:=el b hp.2;have h1:∀x y:Nat,(x:Int)<(Geo.edges a).length->(y:Int)<(Geo.edges b).length->¬Geo.cN (bC (Geo.edges a) x) (bC (Geo.edges b) y)=0->false=Geo.dU a b:=fun x y hx hy h=>
   (Lm (t:= .S) (l:=Geo.edges a) (j:=x) (by omega) (Lm (t:= .S) (l:=Geo.edges b) (q:=fun y=>Geo.cN (bC (Geo.edges a) x) y==0) (j:=y) (by omega) (beq_eq_false_iff_ne.2 h))).symm
  have h2:∀x:Nat,¬(x:Int)<(Geo.edges a).length->x<=(Geo.edges a).length->bH (fun i=>((Geo.edges b).all fun y=>Geo.cN (bC (Geo.edges a) i) y==0)=true) x->true=Geo.dU a b:=fun x hx hx2 h=>by
   obtain rfl:x=(Geo.edges a).length:=by omega
   exact(Dg (t:= .S) h).symm
  have h3:∀x y:Nat,¬(y:Int)<(Geo.edges b).length->y<=(Geo.edges b).length->bH (fun k=>(Geo.cN (bC (Geo.edges a) x) (bC (Geo.edges b) k)==0)=true) y->((Geo.edges b).all fun z=>Geo.cN (bC (Geo.edges a) x) z==0)=true:=fun x y hy hy2 h=>by
   obtain rfl:y=(Geo.edges b).length:=by omega
   exact Dg (t:= .S) h
  repeat' first|with_reducible apply And.intro|with_reducible intro
  all_goals repeat with_reducible cases‹_/\_›
  all_goals first|assumption|rfl|exact trivial|exact nb ‹_› |exact nb' ‹_› |omega|exact cV (by omega)|(unfold ix;omega)|(unfold aE;omega)|exact bG _|exact aA ‹_› ‹_› |(refine aA ‹_› ?_;simp_all;done)|exact h1 _ _ ‹_› ‹_› ‹_› |exact h2 _ ‹_› ‹_› ‹_› |exact aA ‹_› (h3 _ _ ‹_› ‹_› ‹_›)|exact aA ‹_› (beq_iff_eq.2 (Decidable.of_not_not ‹¬¬_›))|grind)
def aKB:Tab:=cK [(124,aHz)] aKC
theorem aL9:aKB.Ok Tryz.prog:=aH aGU ⟨aKO,trivial⟩
end
end Go.Proofs.YtdaeofhdgabhjaaGreat
namespace Go.Proofs.YtdaeofhdgabhjaaGreat
open Go.RowKit
theorem aEm{r n:Nat}{P:Program}{row:String}{args:Array Value}{w:World}{R:Value->World->Prop}(h:Rows P row args w R):RowsIn (Fence.wide.inRound r) n P row args w R:=
 fun c cs _=>let⟨v,w',hr,s⟩:=h c cs;⟨v,w',hr,stepsIn_wide.2 s⟩
theorem nT{r n:Nat}{P:Program}{ops:Array Oper}{Q:Exit->Act->World->Prop}(hd:∀(i:Nat) (o:Oper),ops[i]? =some o->∀c,o.op≠ .defer c)(hno:¬LetsOut Q):
  ∀(l:List Nat) (a:Act) (w:World),wpOps P ops Q l a w->wpOpsIn (Fence.wide.inRound r) n P ops Q l a w
 |[],_,_,h=>h
 |i::rest,a,w,h=>by
  unfold wpOps at h;unfold wpOpsIn;cases ho:ops[i]? with
  |none=>rw[ho]at h;exact nT hd hno rest a w h
  |some o=>
   rw[ho]at h;simp only[]at h|-;by_cases hw:Region.wanted o (yielded ops a.tmps)=true
   ·rw[if_pos hw]at h|-;rcases h with h|⟨_,h⟩
    ·refine⟨fun _ _=>trivial,?_⟩
     show o.uponIn _ n P a _ Q ((Oper.semAt (some r) a.eval o).run P w);rw[Oper.semAt_some r a.eval o (hd i o ho)];unfold Oper.wp at h;generalize (execOp a.eval o).run P w=res at h|-;cases res with
     |ok x w'=>
      cases x with
      |value v=>exact nT hd hno rest _ _ h
      |skip=>exact nT hd hno rest _ _ h
      |defer d=>exact nT hd hno rest _ _ h
      |enter f args=>
       refine⟨fun h=>by simp[Fence.wide]at h,CallsIn.inRound r (callsIn_wide.2 (Calls.mono h ?_))⟩
       intro e w'' he;cases e with
       |returned v=>exact nT hd hno rest _ _ he
       |panicked c=>exact he
       |outgrown=>exact he
      |row row args=>
       refine⟨fun h=>by simp[Fence.wide]at h,aEm (Rows.mono h ?_)⟩
       intro v w'' he;exact nT hd hno rest _ _ he
      |_=>exact h.elim
     |halt x w'=>cases x<;>first|exact h|exact h.elim
    ·exact absurd h hno
   ·rw[if_neg hw]at h|-;exact⟨fun _ _=>trivial,nT hd hno rest _ _ h⟩
def aG4(Q:Exit->Act->World->Prop):Exit->Act->World->Prop:=fun e a w=>e= .normal/\Q .normal a w
theorem aCu(Q:Exit->Act->World->Prop):¬LetsOut (aG4 Q):=fun h=>by
 obtain⟨a,w,e,_⟩:=h;cases e
theorem aCt{F:Fence}{n:Nat}{P:Program}{c:Code}{Q:Exit->Act->World->Prop}{a:Act}{w:World}(h:c.wpIn F n P (aG4 Q) a w):c.wpIn F n P Q a w:=
 wpIn_mono h fun e a w he=>by obtain⟨rfl,he⟩:=he;exact he
theorem Hh{P:Program}{ops:Array Oper}{Q:Exit->Act->World->Prop}{a0:Act}{w0:World}
  (hac:∀(i:Nat) (o:Oper),ops[i]? =some o->∀e∈o.after.toList,Region.binds .any e=true->e.on<i)
  (Inv:(Nat->Bool)->Act->World->Prop) (h0:Inv (fun _=>false) a0 w0.drew)
  (hstep:∀(i:Nat) (o:Oper) (D:Nat->Bool) (a:Act) (w:World),ops[i]? =some o->Inv D a w->D i=false->(∀e∈o.after.toList,Region.binds .any e=true->D e.on=true)->
    wpOp P ops Q i (fun a' w'=>Inv (fun j=>if j=i then true else D j) a' w') a w)
  (hend:∀(D:Nat->Bool) (a:Act) (w:World),Inv D a w->(∀i,i<ops.size->D i=true)->Q .normal a w):
  wpAny P .any ops Q ops.size (Array.replicate ops.size false) a0 w0.drew:=by
 refine(Io hac Inv hstep hend _ _ _ _ (by simp) ?_ ?_)
 ·simp
 ·have e:(fun j=>(Array.replicate ops.size false).getD j false)=(fun _=>false):=by
   funext j
   rw[Array.getD_eq_getD_getElem?,Array.getElem?_replicate];split<;>rfl
  rw[e];exact h0
theorem Ms{P:Program}{ops:Array Oper}{Q:Exit->Act->World->Prop}{a0:Act}{w0:World}
  (dsts:List Nat)
  (hok:((List.range ops.size).all fun i=>((ops[i]?).map fun o=>(o.after.toList.all fun e=> !Region.binds .any e||decide (e.on<i))&&(match o.dst with|some d=>dsts.contains d|none=>true)).getD true)=true)
  (hds:∀s∈dsts,s<a0.tmps.size)
  (F:(Nat->Bool)->(Nat->Value)->World->Prop) (h0:F (fun _=>false) (fun s=>a0.tmps.getD s undef) w0.drew)
  (hstep:∀(i:Nat) (o:Oper) (D:Nat->Bool) (V:Nat->Value) (w:World),ops[i]? =some o->F D V w->D i=false->(∀e∈o.after.toList,Region.binds .any e=true->D e.on=true)->
    (∀s,s∉dsts->V s=a0.tmps.getD s undef)->
    if Region.wanted o (gdV ops V)=true then
     cC P o V w (fun v w'=>F (fun j=>if j=i then true else D j) (match o.dst with|some d=>fun s=>if s=d then v else V s|none=>V) w')
    else F (fun j=>if j=i then true else D j) (match o.dst with|some d=>fun s=>if s=d then undef else V s|none=>V) w)
  (hend:∀(D:Nat->Bool) (V:Nat->Value) (w:World),F D V w->(∀i,i<ops.size->D i=true)->Q .normal (eL a0 dsts V) w):
  wpAny P .any ops Q ops.size (Array.replicate ops.size false) a0 w0.drew:=by
 have hops:∀(i:Nat) (o:Oper),ops[i]? =some o->(∀e∈o.after.toList,Region.binds .any e=true->e.on<i)/\(∀d,o.dst=some d->d∈dsts):=by
  intro i o ho;have hi:i<ops.size:=(Array.getElem?_eq_some_iff.1 ho).1;rw[List.all_eq_true]at hok;have:=hok i (List.mem_range.2 hi);rw[ho]at this;simp only[Option.map_some,Option.getD_some,Bool.and_eq_true]at this;obtain⟨g2,g3⟩:=this;refine⟨?_,?_⟩
  ·intro e he hb;rw[List.all_eq_true]at g2;have:=g2 e he;rw[hb]at this;simpa using this
  ·intro d hd;rw[hd]at g3;simpa using g3
 refine Hh (fun i o ho=>(hops i o ho).1) (fun D a w=>a.defers=a0.defers/\a.tmps.size=a0.tmps.size/\(∀s,s∉dsts->a.tmps.getD s undef=a0.tmps.getD s undef)/\F D (fun s=>a.tmps.getD s undef) w) ⟨rfl,rfl,fun _ _=>rfl,h0⟩ ?_ ?_
 ·intro i o D a w ho ⟨i1,i2,i3,i4⟩ hD hpre;obtain⟨_,hdst⟩:=hops i o ho;have hrun:=hstep i o D (fun s=>a.tmps.getD s undef) w ho i4 hD hpre i3
  have hput:∀(v:Value) (w':World),F (fun j=>if j=i then true else D j) (match o.dst with|some d=>fun s=>if s=d then v else a.tmps.getD s undef|none=>fun s=>a.tmps.getD s undef) w'->
    (a.put o.dst v).defers=a0.defers/\(a.put o.dst v).tmps.size=a0.tmps.size/\(∀s,s∉dsts->(a.put o.dst v).tmps.getD s undef=a0.tmps.getD s undef)/\F (fun j=>if j=i then true else D j) (fun s=>(a.put o.dst v).tmps.getD s undef) w':=by
   intro v w' hF;cases hd:o.dst with
   |none=>rw[hd]at hF;exact⟨i1,i2,i3,hF⟩
   |some d=>
    rw[hd]at hF;have hdm:=hdst d hd;have hlt:d<a.tmps.size:=by rw[i2];exact hds d hdm
    have hget:∀s,(a.put (some d) v).tmps.getD s undef=if s=d then v else a.tmps.getD s undef:=by
     intro s;simp only[Act.put,Array.getD_eq_getD_getElem?,Array.getElem?_setIfInBounds];by_cases e:d=s
     ·subst e;rw[if_pos rfl,if_pos hlt,if_pos rfl];rfl
     ·rw[if_neg e,if_neg (fun e'=>e e'.symm)]
    refine⟨i1,by simpa[Act.put]using i2,?_,?_⟩
    ·intro s hs;rw[hget,if_neg (fun e=>hs (by rw[e];exact hdm))]
     exact i3 s hs
    ·have e:(fun s=>(a.put (some d) v).tmps.getD s undef)=(fun s=>if s=d then v else a.tmps.getD s undef):=funext hget
     rw[e];exact hF
  unfold wpOp;rw[ho];simp only[];rw[qN];by_cases hw:Region.wanted o (gdV ops fun s=>a.tmps.getD s undef)=true
  ·rw[if_pos hw]at hrun|-;refine .inl ?_;unfold Oper.wp;rw[Act.eval_evalV];unfold cC at hrun;cases hr:(execOp (bI fun s=>a.tmps.getD s undef) o).run P w with
   |halt x w'=>rw[hr]at hrun;exact hrun.elim
   |ok n w'=>
    rw[hr]at hrun;cases n<;>simp only[]at hrun<;>first|exact hrun.elim|skip
    ·exact hput _ _ hrun
    ·exact hput _ _ hrun
    ·rename_i f args;show Calls P f args w' _;refine hrun.mono ?_;rintro e w'' ⟨v,rfl,hK⟩;exact hput _ _ hK
  ·rw[if_neg hw]at hrun|-;exact hput _ _ hrun
 ·intro D a w ⟨i1,i2,i3,i4⟩ hall;have:=hend D _ w i4 hall;obtain⟨p1,p2,p3⟩:=mT (fun s=>a.tmps.getD s undef) dsts a0 hds
  have e:eL a0 dsts (fun s=>a.tmps.getD s undef)=a:=by
   obtain⟨t,df⟩:=a;have ht:(eL a0 dsts (fun s=>t.getD s undef)).tmps=t:=by
    apply Array.ext
    ·rw[p2];exact i2.symm
    ·intro s h1 h2;have h3:=p3 s (by rw[<-i2];exact h2)
     rw[Array.getD_eq_getD_getElem?,Array.getElem?_eq_getElem h1,Option.getD_some]at h3;rw[h3];by_cases hm:s∈dsts
     ·rw[if_pos hm];simp[Array.getD_eq_getD_getElem?,h2]
     ·rw[if_neg hm,<-i3 s hm];simp[Array.getD_eq_getD_getElem?,h2]
   have hdf:(eL a0 dsts (fun s=>t.getD s undef)).defers=df:=p1.trans i1.symm
   show eL a0 dsts (fun s=>t.getD s undef)={tmps:=t,defers:=df}
   cases hp:eL a0 dsts (fun s=>t.getD s undef)with
   |mk t' df'=>
    rw[hp]at ht hdf;have e1:t'=t:=ht;have e2:df'=df:=hdf;rw[e1,e2]
  rw[e]at this;exact this
theorem Mu{P:Program}{l:List Oper}{Q:Exit->Act->World->Prop}{a0:Act}{w0:World}
  (dsts:List Nat) (anc:List (List Nat)) (hok:okF l anc=true) (hdst:((List.range l.length).all fun i=>cP l i==1000000||dsts.contains (cP l i))=true) (hds:∀s∈dsts,s<a0.tmps.size)
  (WR:(Nat->Bool)->World->Prop) (fact:Nat->Value->World->Prop) (h0:WR (fun _=>false) w0.drew)
  (hmono:∀j v w w',fact j v w->Below w.heap.size w w'->fact j v w')
  (hstep:rU (Vz P l anc a0 WR fact) l 0)
  (hend:∀(D:Nat->Bool) (V:Nat->Value) (w:World),(∀i,i<l.length->D i=true)->(∀i,i<l.length->fact i (gH l V i) w)->WR D w->Q .normal (eL a0 dsts V) w):
  wpAny P .any l.toArray Q l.toArray.size (Array.replicate l.toArray.size false) a0 w0.drew:=by
 unfold okF at hok;rw[List.all_eq_true]at hok;have hget:∀i o,l[i]? =some o->i<l.length:=fun i o h=>(List.getElem?_eq_some_iff.1 h).1
 have hop:∀i o,l[i]? =some o->(∀e∈o.after.toList,Region.binds .any e=true->e.on<i/\(fA anc i).contains e.on=true)/\o.guard=none/\
   (∀j,(fA anc i).contains j=true->j<i/\∃e∈o.after.toList,Region.binds .any e=true/\(e.on=j\/(fA anc e.on).contains j=true))/\(∀d,o.dst=some d->cP l i=d/\d≠1000000)/\(o.dst=none->cP l i=1000000):=by
  intro i o ho;have h1:=hok i (List.mem_range.2 (hget i o ho));simp only[Bool.and_eq_true]at h1;obtain⟨⟨h2,h3⟩,_⟩:=h1;rw[ho]at h2;simp only[Option.map_some,Option.getD_some,Bool.and_eq_true,Option.isNone_iff_eq_none,bne_iff_ne,ne_eq]at h2;refine⟨?_,h2.1.2,?_,?_,?_⟩
  ·intro e he hb;have:=List.all_eq_true.1 h2.1.1 e he;rw[hb]at this;simpa using this
  ·intro j hj;rw[List.all_eq_true]at h3;have:=h3 j (by simpa using hj)
   simp only[Bool.and_eq_true,decide_eq_true_eq]at this;obtain⟨h4,h5⟩:=this;refine⟨h4,?_⟩;rw[ho]at h5;simp only[Option.map_some,Option.getD_some,List.any_eq_true,Bool.and_eq_true,Bool.or_eq_true,beq_iff_eq]at h5;exact h5
  ·intro d hd;refine⟨by unfold cP;rw[ho];simp[hd],?_⟩
   rintro rfl;exact h2.2 hd
  ·intro hd;unfold cP;rw[ho];simp[hd]
 have huniq:∀i j,i<l.length->j<l.length->j≠i->cP l j=cP l i->cP l i=1000000:=by
  intro i j hi hj hne he;have h1:=hok i (List.mem_range.2 hi);simp only[Bool.and_eq_true]at h1;obtain⟨_,h3⟩:=h1;rw[List.all_eq_true]at h3;have:=h3 j (List.mem_range.2 hj);simp only[Bool.or_eq_true,beq_iff_eq,bne_iff_ne,ne_eq]at this;rcases this with(h|h)|h
  ·exact absurd h hne
  ·exact absurd he h
  ·exact h
 let G:(Nat->Bool)->(Nat->Value)->World->Prop:=fun D V w=>
  (∀i j,D i=true->(fA anc i).contains j=true->D j=true)/\(∀i,i<l.length->D i=true->fact i (gH l V i) w)/\
  (∀s,(∀j,j<l.length->cP l j=s->D j=false)->V s=a0.tmps.getD s undef)/\WR D w
 refine Ms dsts ?_ hds G ?_ ?_ ?_
 ·rw[List.all_eq_true];intro i hi;have hi':=List.mem_range.1 hi;simp only[List.size_toArray]at hi';have ho:l[i]? =some l[i] :=List.getElem?_eq_getElem hi';obtain⟨q1,q2,q3,q4,q5⟩:=hop i _ ho;simp only[List.getElem?_toArray,ho,Option.map_some,Option.getD_some,Bool.and_eq_true];refine⟨?_,?_⟩
  ·rw[List.all_eq_true];intro e he;cases hb:Region.binds .any e with
   |false=>simp
   |true=>simpa using(q1 e he hb).1
  ·cases hd:l[i].dst with
   |none=>rfl
   |some d=>
    have e1:=(q4 d hd).1;rw[List.all_eq_true]at hdst;have:=hdst i (List.mem_range.2 hi');rw[e1]at this;simp only[Bool.or_eq_true,beq_iff_eq]at this;rcases this with h|h
    ·exact absurd h (q4 d hd).2
    ·simpa using h
 ·exact⟨(fun i j h=>by cases h),(fun i _ h=>by cases h),(fun s _=>rfl),h0⟩
 ·intro i o D V w ho ⟨g1,g2,g3,g4⟩ hD hpre hV;have ho':l[i]? =some o:=by simpa using ho
  obtain⟨q1,q2,q3,q4,q5⟩:=hop i o ho';have hi:=hget i o ho';have hanc:∀j,(fA anc i).contains j=true->D j=true:=by
   intro j hj;obtain⟨_,e,he,hb,h⟩:=q3 j hj;have:=hpre e he hb;rcases h with rfl|h
   ·exact this
   ·exact g1 _ _ this h
  have hdesc:∀j,(fA anc j).contains i=true->D j=false:=by
   intro j hj;cases hx:D j with
   |false=>rfl
   |true=>rw[g1 _ _ hx hj]at hD;cases hD
  have hs:=oR l 0 hstep i o ho';rw[Nat.zero_add]at hs;have hrun:=hs D V w hD (fun j hj=>⟨hanc j hj,g2 j (Nat.lt_trans (q3 j hj).1 hi) (hanc j hj)⟩) hdesc (fun s hsl=>g3 s (fun j hj hjs=>by
   unfold Ld at hsl;rw[List.all_eq_true]at hsl;have:=hsl j (List.mem_range.2 hj);simp only[Bool.or_eq_true,bne_iff_ne,ne_eq,beq_iff_eq]at this;rcases this with(h|h)|h
   ·exact absurd hjs h
   ·exact hdesc j h
   ·rw[h];exact hD)) g4
  rw[if_pos (by unfold Region.wanted;rw[q2])]
  have hmono':∀(K K':Value->World->Prop),(∀v w,K v w->K' v w)->cC P o V w K->cC P o V w K':=by
   intro K K' hk h;unfold cC at h|-;split at h
   ·exact hk _ _ h
   ·exact hk _ _ h
   ·exact h.mono fun e w'' ⟨v,he,hv⟩=>⟨v,he,hk _ _ hv⟩
   ·exact h.elim
  have key:∀(U:Nat->Value) (v:Value) (w':World),(∀s,s≠cP l i->U s=V s)->(cP l i≠1000000->U (cP l i)=v)->
    (fact i (if cP l i=1000000 then undef else v) w'/\WR (gY D i) w'/\(w'=w\/Below w.heap.size w w'\/∀j,D j=true->fact j (gH l V j) w->fact j (gH l V j) w'))->G (gY D i) U w':=by
   rintro U v w' hVd hVv ⟨k1,k2,k3⟩;refine⟨?_,?_,?_,k2⟩
   ·intro i' j h1 h2;by_cases e:j=i
    ·simp[gY,e]
    ·by_cases e':i'=i
     ·subst e';simp only[gY,e,if_false];exact hanc j h2
     ·simp only[gY,e',if_false]at h1;simp only[gY,e,if_false];exact g1 _ _ h1 h2
   ·intro i' hi' h1;by_cases e:i'=i
    ·subst e;have:gH l U i'=if cP l i'=1000000 then undef else v:=by
      unfold gH;by_cases h6:cP l i'=1000000
      ·rw[if_pos h6,if_pos h6]
      ·rw[if_neg h6,if_neg h6,hVv h6]
     rw[this];exact k1
    ·simp only[gY,e,if_false]at h1;have:gH l U i'=gH l V i':=by
      unfold gH;by_cases h6:cP l i'=1000000
      ·rw[if_pos h6,if_pos h6]
      ·rw[if_neg h6,if_neg h6,hVd];intro h7;exact h6 (by rw[h7];exact huniq i i' hi hi' e h7)
     rw[this];have h8:=g2 i' hi' h1;rcases k3 with rfl|k3|k3
     ·exact h8
     ·exact hmono _ _ _ _ h8 k3
     ·exact k3 i' h1 h8
   ·intro s hs;have hne:s≠cP l i:=by
     intro h;have:=hs i hi h.symm;simp[gY]at this
    rw[hVd s hne];refine g3 s (fun j hj hjs=> ?_)
    have:=hs j hj hjs;by_cases e:j=i
    ·subst e;exact hD
    ·simpa[gY,e]using this
  refine hmono' _ _ ?_ hrun;intro v w' hk;show G (gY D i) _ w';cases hd:o.dst with
  |none=>
   have e1:=q5 hd;refine key _ v w' ?_ (fun h=>absurd e1 h) hk
   intro s _;rfl
  |some d=>
   have e1:=(q4 d hd).1;refine key _ v w' ?_ ?_ hk
   ·intro s hs;rw[e1]at hs;simp only[];rw[if_neg hs]
   ·intro _;rw[e1];simp
 ·intro D V w ⟨g1,g2,g3,g4⟩ hall;simp only[List.size_toArray]at hall;exact hend D V w hall (fun i hi=>g2 i hi (hall i hi)) g4
theorem rB{r n:Nat}{P:Program}{id:Nat}{l:List Oper}{Q:Exit->Act->World->Prop}{a0:Act}{w0:World}(hm:P.follows .mixedOrders=true)
  (hdf:(l.all fun o=>match o.op with| .defer _=>false|_=>true)=true)
  (dsts:List Nat) (anc:List (List Nat)) (hok:okF l anc=true) (hdst:((List.range l.length).all fun i=>cP l i==1000000||dsts.contains (cP l i))=true) (hds:∀s∈dsts,s<a0.tmps.size)
  (WR:(Nat->Bool)->World->Prop) (fact:Nat->Value->World->Prop) (h0:WR (fun _=>false) w0.drew)
  (hmono:∀j v w w',fact j v w->Below w.heap.size w w'->fact j v w')
  (hstep:rU (Vz P l anc a0 WR fact) l 0)
  (hend:∀(D:Nat->Bool) (V:Nat->Value) (w:World),(∀i,i<l.length->D i=true)->(∀i,i<l.length->fact i (gH l V i) w)->WR D w->Q .normal (eL a0 dsts V) w):
  (Code.region id l.toArray true).wpIn (Fence.wide.inRound r) n P Q a0 w0:=by
 refine aCt (wpIn_region_draw fun t=> ?_)
 simp only[Region.schedule,hm,Bool.true_or,if_true];refine nT ?_ (aCu Q) _ _ _ (wpAny_sound _ t _ _ _ (Mu dsts anc hok hdst hds WR fact h0 hmono hstep fun D V w h1 h2 h3=>⟨rfl,hend D V w h1 h2 h3⟩))
 intro i o ho c hc;have:=List.all_eq_true.1 hdf o (List.mem_of_getElem? (by simpa using ho))
 rw[hc]at this;cases this
end Go.Proofs.YtdaeofhdgabhjaaGreat
namespace Go.Proofs.YtdaeofhdgabhjaaGreat
open Go.RowKit
def RdV(w:World)(a:Option Addr)(xs:List Geo.V):Prop:=
 ∀i,i<xs.length->∃b off,a=some ⟨b,off,none⟩/\b<w.heap.size/\w.cell? ⟨b,off+i*2,none⟩=some (.int .i64 (Geo.nth xs i).x)/\w.cell? ⟨b,off+i*2+1,none⟩=some (.int .i64 (Geo.nth xs i).y)
theorem RdV.below{w w':World}{a:Option Addr}{xs:List Geo.V}(h:RdV w a xs)(hb:Below w.heap.size w w'):RdV w' a xs:=by
 intro i hi;obtain⟨b,off,ha,hlt,h1,h2⟩:=h i hi;exact⟨b,off,ha,Nat.lt_of_lt_of_le hlt hb.size,(hb.cell (p:=⟨b,_,none⟩) hlt).trans h1,(hb.cell (p:=⟨b,_,none⟩) hlt).trans h2⟩
def lM(xs:List Geo.S):List Value:=xs.flatMap fun s=>[.int .i64 s.a.x,.int .i64 s.a.y,.int .i64 s.b.x,.int .i64 s.b.y]
theorem zQ(xs:List Geo.S):(lM xs).length=xs.length*4:=by
 induction xs with
 |nil=>rfl
 |cons s l ih=>unfold lM at*;simp only[List.flatMap_cons,List.length_append,ih,List.length_cons,List.length_nil];omega
theorem Nh(xs ys:List Geo.S):lM (xs++ys)=lM xs++lM ys:=by unfold lM;rw[List.flatMap_append]
theorem Rd.Ly{w:World}{base:Nat}{e:TypeId}{size:Nat}{v:Value}{n:Nat}{cs:List Value}(h:w.ownsRow base e size v n cs):∃a c,v= .slice a n c/\Rd w a cs/\nS base a/\(a=none->c=0)/\n<=c:=by
 obtain⟨a,c,hv,h1,h2,h3⟩:=Rd.Tk h;refine⟨a,c,hv,h1,h2,h3,?_⟩;rcases h.2 with⟨h4,h5⟩|⟨g,cap,cur,h4,_,_,h5,_⟩
 ·omega
 ·rw[hv]at h4;simp only[Value.slice.injEq]at h4;omega
theorem zO{w:World}{base base':Nat}{e:TypeId}{size:Nat}{v:Value}{n:Nat}{xs:List Value}(h:w.ownsRow base e size v n xs)(hb:base'<=base):w.ownsRow base' e size v n xs:=
 ⟨h.1,h.2.imp id fun⟨g,cap,cur,h1,h2,h3⟩=>⟨g,cap,cur,h1,Nat.le_trans hb h2,h3⟩⟩
def mK(xs:List Geo.V):List Value:=xs.flatMap fun v=>[.int .i64 v.x,.int .i64 v.y]
theorem oP(xs:List Geo.V):(mK xs).length=xs.length*2:=by
 induction xs with
 |nil=>rfl
 |cons s l ih=>unfold mK at*;simp only[List.flatMap_cons,List.length_append,ih,List.length_cons,List.length_nil];omega
theorem aAs(xs:List Geo.V):∀u∈mK xs,u.oneCell'=true:=by
 intro u hu;obtain⟨v,_,hv⟩:=List.mem_flatMap.1 hu;simp only[List.mem_cons,List.not_mem_nil,or_false]at hv;rcases hv with rfl|rfl<;>rfl
theorem Ay(xs:List Geo.V):∀(i:Nat),i<xs.length->(mK xs)[i*2]? =some (.int .i64 (Geo.nth xs i).x)/\(mK xs)[i*2+1]? =some (.int .i64 (Geo.nth xs i).y):=by
 induction xs with
 |nil=>intro i hi;simp at hi
 |cons s l ih=>
  intro i hi;have e:mK (s::l)=[.int .i64 s.x,.int .i64 s.y] ++mK l:=by unfold mK;rw[List.flatMap_cons]
  rw[e];cases i with
  |zero=>simp[Geo.nth]
  |succ i=>
   have h:=ih i (by simpa using hi)
   have e0:(i+1)*2=2+i*2:=by omega
   rw[e0,List.getElem?_append_right (by simp),List.getElem?_append_right (by simp;omega)]
   simpa[Nat.add_assoc,Nat.add_sub_cancel_left,Geo.nth]using h
theorem RdV.aMg{w:World}{a:Option Addr}{xs:List Geo.V}(h:Rd w a (mK xs)):RdV w a xs:=by
 intro i hi;obtain⟨g0,g1⟩:=Ay xs i hi;obtain⟨b,off,ha,hlt,h0⟩:=h _ _ g0;obtain⟨b',off',he,_,h1⟩:=h _ _ g1;rw[ha]at he;simp only[Option.some.injEq,Addr.mk.injEq,and_true]at he;obtain⟨rfl,rfl⟩:=he;exact⟨b,off,ha,hlt,h0,h1⟩
theorem RdV.rd{w:World}{a:Option Addr}{xs:List Geo.V}(h:RdV w a xs):Rd w a (mK xs):=by
 intro i u hi;have hlt:i<(mK xs).length:=(List.getElem?_eq_some_iff.1 hi).1;rw[oP]at hlt;obtain⟨g0,g1⟩:=Ay xs (i/2) (by omega)
 obtain⟨b,off,ha,hb,h0,h1⟩:=h (i/2) (by omega)
 refine⟨b,off,ha,hb,?_⟩;by_cases hm:i % 2=0
 ·have e:i=i/2*2:=by omega
  rw[e]at hi|-;rw[g0]at hi;cases hi;exact h0
 ·have e:i=i/2*2+1:=by omega
  rw[e]at hi|-;rw[g1]at hi;cases hi;exact h1
structure RV where
 a:Option Addr
 c:Nat
 r:Geo.aC
instance:Inhabited RV:=⟨⟨none,0,[]⟩⟩
def RV.enc(x:RV):Value:= .slice x.a x.r.length x.c
def Len(x:RV):Prop:=x.r.length<=1000/\x.r.length<=x.c/\(x.a=none->x.c=0)
def tE(w:World):cE:=fun b o v=>w.cell? ⟨b,o,none⟩=some v
theorem pP{w:World}{a:Option Addr}{c:Nat}{r:List Geo.V}(h:RdV w a r)(hl:Len ⟨a,c,r⟩):bF (tE w) (.sl r.length (iV r)) (.slice a r.length c):=by
 obtain⟨_,h2,h3⟩:=hl;dsimp only at h2 h3;unfold bF;refine⟨a,c,rfl,h2,fun ha=>⟨h3 ha,?_⟩,?_⟩
 ·cases r with
  |nil=>rfl
  |cons v r=>obtain⟨b,off,hb,_⟩:=h 0 (by simp);rw[ha]at hb;cases hb
 ·rintro ad rfl;refine⟨fun h0=> ?_,eW.of _ _ _ fun i x hi=> ?_⟩
  ·obtain⟨b,off,hb,_⟩:=h 0 h0;cases hb;rfl
  ·have hlt:i<(iV r).length:=(List.getElem?_eq_some_iff.1 hi).1;rw[Ic.length]at hlt;obtain⟨b,off,hb,_,h0,h1⟩:=h (i/2) (by omega)
   cases hb;have h4:=aEN (v:=r) (i:=i/2) (by omega)
   have g:∀j,j<2->(iV r)[i/2*2+j]? =([.int .i64 (Geo.nth r (i/2)).x,.int .i64 (Geo.nth r (i/2)).y] :List PV)[j]? :=fun j hj=>by
    rw[<-h4,List.getElem?_take,if_pos hj,List.getElem?_drop]
   rcases Nat.mod_two_eq_zero_or_one i with hm|hm
   ·have:=g 0 (by decide)
    rw[show i/2*2+0=i by omega,hi]at this
    cases this;exact⟨_,by show w.cell? _=_;rw[show off+i=off+i/2*2 by omega];exact h0,rfl,by unfold bF;rfl⟩
   ·have:=g 1 (by decide)
    rw[show i/2*2+1=i by omega,hi]at this
    cases this;exact⟨_,by show w.cell? _=_;rw[show off+i=off+i/2*2+1 by omega];exact h1,rfl,by unfold bF;rfl⟩
theorem cG.one{C:cE}{x:PV}{v:Value}(h:bF C x v):cG C [x] [v] :=by
 unfold cG;exact⟨_,_,rfl,h,by unfold cG;rfl⟩
theorem cG.aBl{C:cE}{x:PV}{v:Value}{l:List PV}{vs:List Value}(h:bF C x v)(h2:cG C l vs):cG C (x::l) (v::vs):=by
 unfold cG;exact⟨_,_,rfl,h,h2⟩
theorem zH{f:FuncId}{xs:List SV}{r:SV}{B:List PV}{q:PV}{vs:List Value}{u:Value}{w:World}(h:∃A q,avs xs=A.map .p/\r.av= .p q/\Sat Tryz.prog false f A q)(hB:avs xs=B.map .p)(hq:r.av= .p q)
  (hu:∀C v,bF C q v->v=u) (hr:cG (tE w) B vs):Calls Tryz.prog f vs.toArray w fun e w'=>e= .returned u/\Below w.heap.size w w':=by
 obtain⟨A,q',h1,h2,h3⟩:=h;rw[hq]at h2;cases h2;rw[hB]at h1;have:B=A:=by have:=congrArg cR h1;rw[dC,dC]at this;cases this;rfl
 subst this;refine(h3.2 (tE w) w vs (fun _ _ _ h=>h) hr).mono ?_
 rintro e w' ⟨v,rfl,hv,hb⟩;exact⟨by rw[hu _ _ hv],hb⟩
theorem Hy(a:Option Addr)(c:Nat)(xs:List Geo.V)(w:World)(h:RdV w a xs)(hl:Len ⟨a,c,xs⟩):
  Calls Tryz.prog 83 #[.slice a xs.length c] w fun e w'=>e= .returned (.bool (Geo.cB xs))/\Below w.heap.size w w':=
 zH (k83 [.lst .V xs] xs rfl ((fB (l:=c83.pre xs)).1 hl.1)) (B:=[.sl xs.length (iV xs)]) rfl rfl (fun C v h=>by unfold bF at h;exact h) (cG.one (pP h hl))
theorem Kk(a:Option Addr)(c:Nat)(xs:List Geo.V)(w:World)(h:RdV w a xs)(hl:Len ⟨a,c,xs⟩):
  Calls Tryz.prog 89 #[.slice a xs.length c] w fun e w'=>e= .returned (.int .i64 (if Geo.cB xs then Geo.area xs else 0))/\Below w.heap.size w w':=
 zH (k89 [.lst .V xs] xs rfl ((fB (l:=c89.pre xs)).1 hl.1)) (B:=[.sl xs.length (iV xs)]) rfl rfl (fun C v h=>by unfold bF at h;exact h) (cG.one (pP h hl))
theorem mP(a:Option Addr)(c:Nat)(xs:List Geo.V)(a':Option Addr)(c':Nat)(ys:List Geo.V)(p:Int)(w:World)(h':RdV w a' ys)(hl':Len ⟨a',c',ys⟩)(h:RdV w a xs)(hl:Len ⟨a,c,xs⟩):
  Calls Tryz.prog 123 #[.slice a xs.length c,.slice a' ys.length c',.int .i64 p] w fun e w'=>e= .returned (.bool (Geo.cR xs ys p))/\Below w.heap.size w w':=
 zH (aKP [.lst .V xs,.lst .V ys,.int .i64 p] (xs,ys,p) rfl ((fB (l:=aHA.pre (xs,ys,p))).1 ⟨hl.1,hl'.1⟩)) (B:=[.sl xs.length (iV xs),.sl ys.length (iV ys),.int .i64 p]) rfl rfl (fun C v h=>by unfold bF at h;exact h)
  ((cG.one (by unfold bF;rfl)).aBl (pP h' hl')|>.aBl (pP h hl))
theorem wC(a:Option Addr)(c:Nat)(xs:List Geo.V)(a':Option Addr)(c':Nat)(ys:List Geo.V)(w:World)(h:RdV w a xs)(h':RdV w a' ys)(hl:Len ⟨a,c,xs⟩)(hl':Len ⟨a',c',ys⟩):
  Calls Tryz.prog 124 #[.slice a xs.length c,.slice a' ys.length c'] w fun e w'=>e= .returned (.bool (Geo.dU xs ys))/\Below w.heap.size w w':=
 zH (aKO [.lst .V xs,.lst .V ys] (xs,ys) rfl ((fB (l:=aHz.pre (xs,ys))).1 ⟨hl.1,hl'.1⟩)) (B:=[.sl xs.length (iV xs),.sl ys.length (iV ys)]) rfl rfl (fun C v h=>by unfold bF at h;exact h)
  ((cG.one (pP h' hl')).aBl (pP h hl))
theorem aAz(a:Option Addr)(c:Nat)(xs:List Geo.V)(w:World)(h:RdV w a xs)(hl:Len ⟨a,c,xs⟩):
  Calls Tryz.prog 155 #[.slice a xs.length c] w fun e w'=>∃a' c',e= .returned (.slice a' (Geo.edges xs).length c')/\Rd w' a' (lM (Geo.edges xs))/\nS w.heap.size a'/\(a'=none->c'=0)/\Below w.heap.size w w':=by
 obtain⟨A,Y,h1,h2,h3⟩:=aKN [.lst .V xs] xs rfl ((fB (l:=aHy.pre xs)).1 hl.1);cases Y with
 |cons y Y=>simp[avs]at h2
 |nil=>
 have hA:A=[.sl xs.length (iV xs)] :=by
  have h1:[AV.p (.sl xs.length (iV xs))] =A.map .p:=h1;have:=congrArg cR h1;rw[dC]at this;cases this;rfl
 subst hA;refine(h3.2.2 (tE w) w [_] (fun _ _ _ h=>h) (cG.one (pP h hl))).mono ?_
 rintro e w' ⟨v,us,q,c',rfl,hb,hys,hrow⟩;unfold cG at hys;subst hys;have e1:∀l:List Geo.S,lM l=(l.flatMap fun s=>[s.a.x,s.a.y,s.b.x,s.b.y]).map (Value.int .i64):=fun l=>by unfold lM;rw[List.map_flatMap];rfl
 have e2:∀l:List Geo.S,LT.S.enc l=(l.flatMap fun s=>[s.a.x,s.a.y,s.b.x,s.b.y]).map (PV.int .i64):=fun l=>by unfold LT.enc;rw[List.map_flatMap];rfl
 rcases hrow with⟨_,rfl,hm,_,_⟩|⟨b,arr,_,rfl,h4,h5,h6,_,h7,_,h8⟩
 ·have hn:Geo.edges xs=[] :=List.length_eq_zero_iff.1 hm;rw[hn];exact⟨none,0,rfl,(fun i u hi=>by simp[lM]at hi),(fun b hb=>by cases hb),(fun _=>rfl),hb⟩
 ·refine⟨some ⟨b,0,none⟩,c',rfl,fun i u hi=> ?_,fun b' hb'=>by cases hb';exact h5,(fun e=>by cases e),hb⟩
  rw[e1,List.getElem?_map,Option.map_eq_some_iff]at hi;obtain⟨n,hn,rfl⟩:=hi;obtain⟨u,g1,_,g2⟩:=h8 i (.int .i64 n) (by rw[e2,List.getElem?_map,hn];rfl)
  unfold bF at g2;subst g2;exact⟨b,0,rfl,(Array.getElem?_eq_some_iff.1 h6).1,by rw[Nat.zero_add,cell_of_row w' b i arr 46 (0,0) h6];exact g1⟩
end Go.Proofs.YtdaeofhdgabhjaaGreat
namespace Go.Proofs.YtdaeofhdgabhjaaGreat
open Go.RowKit Go.Shelf
attribute [local go_sem] Oper.semAt_some
def RdH(n0:Nat)(w:World)(ah:Option Addr)(hs:List RV):Prop:=∀i,i<hs.length->∃b off,ah=some ⟨b,off,none⟩/\b<n0/\w.cell? ⟨b,off+i,none⟩=some (RV.enc (hs.getD i default))
theorem RdH.below{n0:Nat}{w w':World}{ah:Option Addr}{hs:List RV}(h:RdH n0 w ah hs)(hb:Below n0 w w'):RdH n0 w' ah hs:=by
 intro i hi;obtain⟨b,off,ha,hlt,h1⟩:=h i hi;exact⟨b,off,ha,hlt,(hb.cell (p:=⟨b,_,none⟩) hlt).trans h1⟩
theorem RdH.mono{n0 n1:Nat}{w:World}{ah:Option Addr}{hs:List RV}(h:RdH n0 w ah hs)(hn:n0<=n1):RdH n1 w ah hs:=by
 intro i hi;obtain⟨b,off,ha,hlt,h1⟩:=h i hi;exact⟨b,off,ha,by omega,h1⟩
def Kp2(n0 b:Nat)(W W':World):Prop:=Below n0 W W'/\W'.heap[b]? =W.heap[b]?
theorem Kp2.trans{n0 b:Nat}{A B C:World}(h:Kp2 n0 b A B)(k:Kp2 n0 b B C):Kp2 n0 b A C:=⟨h.1.trans k.1,k.2.trans h.2⟩
theorem Kp2.blk{n0 b:Nat}{W W':World}{t:TypeId}{cs:Array Value}(h:Kp2 n0 b W W')(hb:Blk W b t cs):Blk W' b t cs:=h.2.trans hb
set_option maxRecDepth 100000 in
set_option maxHeartbeats 2000000 in
theorem Zs(F:Fence)(n:Nat)(h179:F.fn 179)(hro:F.round=none)(hn:1<=n)(l b n0:Nat)(o:RV)(ah:Option Addr)(ch:Nat)(hs:List RV)(hhs:hs.length<=1000)(J Jx:List RV->World->Prop)
  (hY:∀pre x W,x∈o::hs->J pre W->pre.length<hs.length+1->YieldAt F (n-1) Tryz.prog l #[RV.enc x] W fun e W'=>
    (e= .returned (.bool true)/\J (pre++[x]) W'/\Kp2 n0 b W W')\/(e= .returned (.bool false)/\Jx (pre++[x]) W'))
  (W:World) (hB:Blk W b 26 #[RV.enc o,.slice ah hs.length ch]) (hH:RdH n0 W ah hs) (h0:J [] W):
  CallsIn F n Tryz.prog 179 #[.func (.yield l) #[] #[],.pointer (some ⟨b,0,none⟩)] W fun e W'=>(∃v,e= .returned v)/\
   ((∃ys,ys=o::hs/\J ys W')\/(∃pre,pre<+:o::hs/\Jx pre W')):=by
 obtain⟨fn,tmps,assign,body,hy,hR⟩:=hY [] o W List.mem_cons_self h0 (by simp)
 dsimp only[RV.enc]at hy;have c0:=hB.cell 0;have c1:=hB.cell 1;simp[RV.enc]at c0 c1;refine callsIn_of_wp Tryz.func179 rfl h179 ?_ hro;simp only[Tryz.ntmps179,List.size_toArray,List.length_cons,List.length_nil,Nat.reduceAdd,Nat.reduceSub,Array.replicate_succ,Array.replicate_zero,List.push_toArray,List.append_toArray,List.nil_append,List.cons_append]
 gi_wp2
 refine hR.mono ?_;rintro e W1 (⟨rfl,hJ1,hk1⟩|⟨rfl,hJx1⟩)
 ·have hB1:=hk1.blk hB;have hH1:=hH.below hk1.1;clear c0 c1 hR hy;have c0:=hB1.cell 0;have c1:=hB1.cell 1;simp[RV.enc]at c0 c1
  gi_wp2
  gi_loopw [4,13] (fun _ i wr=>∃k:Nat,k<=hs.length/\i= .int .i64 k/\J (o::hs.take k) wr/\Kp2 n0 b W1 wr) (fun _ i _=>hs.length-(intOf i).toNat)
  case atStart=>exact⟨0,by omega,rfl,by simpa using hJ1,Below.refl _ _,rfl⟩
  case round=>
   obtain⟨k,hk,rfl,hJr,hkr⟩:=hrel;by_cases hlt:k<hs.length
   ·obtain⟨bb,off,rfl,hbb,p0⟩:=hH1.below hkr.1 k hlt;have hblt:bb<wr.heap.size:=by
     rcases Nat.lt_or_ge bb wr.heap.size with h|h
     ·exact h
     ·simp[World.cell?,Array.getElem?_eq_none h]at p0
    have htk:o::hs.take (k+1)=(o::hs.take k)++[hs.getD k default] :=by
     rw[List.take_add_one,List.getD_eq_getElem?_getD,List.getElem?_eq_getElem hlt];simp
    obtain⟨fn,tmps,assign,body,hy,hR⟩:=hY (o::hs.take k) (hs.getD k default) wr (List.mem_cons_of_mem _ (by rw[List.getD_eq_getElem?_getD,List.getElem?_eq_getElem hlt];exact List.getElem_mem hlt)) hJr (by simp;omega)
    rw[<-htk]at hR;dsimp only[RV.enc]at hy;unfold RV.enc at p0;clear htk;generalize hs.getD k default=z at hy p0
    gi_wp2
    refine hR.mono ?_;rintro e W3 (⟨rfl,hJ3,hk3⟩|⟨rfl,hJx3⟩)
    ·gi_wp2
     go_roundw
     case rel=>exact⟨k+1,by omega,by go_num,hJ3,hkr.trans hk3⟩
     case measure=>simp[intOf];omega
    ·gi_wp2
     refine bodyPost_ret (results_none rfl _ _ _) rfl ?_;exact⟨⟨_,rfl⟩,.inr ⟨_,⟨hs.drop (k+1),by simp⟩,hJx3⟩⟩
   ·have hk2:k=hs.length:=by omega
    subst hk2;rw[List.take_length]at hJr
    gi_wp2
    go_end0
    exact⟨⟨_,rfl⟩,.inl ⟨_,rfl,hJr⟩⟩
 ·gi_wp2
  refine bodyPost_ret (results_none rfl _ _ _) rfl ?_;exact⟨⟨_,rfl⟩,.inr ⟨_,⟨hs,by simp⟩,hJx1⟩⟩
theorem oM(F:Fence)(n:Nat)(h179:F.fn 179)(hro:F.round=none)(hn:1<=n)(b n0:Nat)(o:RV)(ah:Option Addr)(ch:Nat)(hs:List RV)(hhs:hs.length<=1000)(w:World)(hn0:n0<=w.heap.size)(hB:Blk w b 26 #[RV.enc o,.slice ah hs.length ch]) (hH:RdH n0 w ah hs):
  SeqStopsK F n Tryz.prog 179 #[.pointer (some ⟨b,0,none⟩)] (fun x:{x:RV//x∈o::hs}=> #[RV.enc x.1]) (Kp2 n0 b) (fun ys=>ys.map (·.1)=o::hs) (fun pre=>pre.map (·.1)<+:o::hs) (hs.length+1) w:=fun l J Jx W hW _ _ hY h0=>by
 refine(Zs F n h179 hro hn l b n0 o ah ch hs hhs (fun pre W=>∃p:List {x:RV//x∈o::hs},p.map (·.1)=pre/\J p W) (fun pre W=>∃p:List {x:RV//x∈o::hs},p.map (·.1)=pre/\Jx p W) ?_ W (hB.then_ hW) (hH.below (hW.mono hn0)) ⟨[],rfl,h0⟩).mono ?_
 ·rintro pre x W' hx ⟨p,rfl,hJ⟩ hl;obtain⟨fn,tmps,assign,body,hy,hR⟩:=hY p ⟨x,hx⟩ W' hJ (by simpa using hl)
  refine⟨fn,tmps,assign,body,hy,hR.mono ?_⟩;rintro e W2 (⟨rfl,h1,h2⟩|⟨rfl,h1⟩)
  ·exact .inl ⟨rfl,⟨p++[⟨x,hx⟩],by simp,h1⟩,h2⟩
  ·exact .inr ⟨rfl,⟨p++[⟨x,hx⟩],by simp,h1⟩⟩
 ·rintro e W' ⟨hv,⟨ys,rfl,p,hp,hJ⟩|⟨pre,hpre,p,rfl,hJ⟩⟩
  ·exact⟨hv,.inl ⟨p,hp,hJ⟩⟩
  ·exact⟨hv,.inr ⟨p,hpre,hJ⟩⟩
theorem Wg{n0 b:Nat}{w:World}(hn:n0<=w.heap.size)(hb:b<w.heap.size)(W:World)(l:Nat)(o o':Obj)(hl:w.heap.size<=l)(h:W.heap[l]? =some o)(h1:o.isCells=false)(h2:o.isWalk=false):Kp2 n0 b W (W.putObj l o'):=
 ⟨belowK_b hn W l o o' hl h h1 h2,World.putObj_heap_other (by omega)⟩
theorem vQ(o:RV)(ah:Option Addr)(nh ch:Nat)(w:World):
  Calls Tryz.prog 122 #[.agg #[RV.enc o,.slice ah nh ch]] w fun e w'=>e= .returned (.func (.func 179) #[] #[.pointer (some ⟨w.heap.size,0,none⟩)])/\w'=w.alloc (.cells #[RV.enc o,.slice ah nh ch] 26):=by
 unfold RV.enc
 go_enter Tryz.func122,Tryz.ntmps122
 go_wp2
 go_ret
 exact⟨rfl,rfl⟩
end Go.Proofs.YtdaeofhdgabhjaaGreat
namespace Go.Proofs.YtdaeofhdgabhjaaGreat
open Go.RowKit Go.Shelf
open Geo (aD)
attribute [local go_sem] Oper.semAt_some
structure RdSh(w:World)(o:RV)(ah:Option Addr)(hs:List RV):Prop where
 h:RdH w.heap.size w ah hs
 v:∀x∈o::hs,RdV w x.a x.r/\Len x
 n:hs.length<=1000
theorem RdSh.below{w w':World}{o:RV}{ah:Option Addr}{hs:List RV}(H:RdSh w o ah hs)(hb:Below w.heap.size w w'):RdSh w' o ah hs:=
 ⟨(H.h.below hb).mono hb.size,fun x hx=>⟨(H.v x hx).1.below hb,(H.v x hx).2⟩,H.n⟩
def kB(o:RV)(hs:List RV):Geo.Shape:=⟨o.r,hs.map RV.r⟩
section
variable {F:Fence} {n:Nat} {P:Program} {fn:Func} {R:Ending->World->Prop} {a:Act} {w:World} {v:Value}
theorem Gf(hr:(results fn a.tmps).run P w= .ok v w)(hd:a.defers=[])(hR:R (.returned v) w):bodyPostM F n P fn R .ret a w:=by
 show LeavesInM F n P fn a.tmps R a.defers .returning w;rw[hd];exact⟨v,hr,hR⟩
theorem Ge{D:Nat}(hd:a.defers=[{target:= .collected D,args:= #[]}]) (hK:w.heap[D]? =some (.deferred (some []))) (hr:(results fn a.tmps).run P (w.putObj D (.deferred none))= .ok v (w.putObj D (.deferred none)))
  (hR:R (.returned v) (w.putObj D (.deferred none))):bodyPostM F n P fn R .ret a w:=by
 show LeavesInM F n P fn a.tmps R a.defers .returning w;rw[hd];exact⟨by simp,.inl ⟨_,_,rfl,run_takeDeferred hK,v,hr,hR⟩⟩
end
theorem gR{n0 D:Nat}{W:World}(hD:n0<=D)(hK:W.heap[D]? =some (.deferred (some []))):Below n0 W (W.putObj D (.deferred none)):=
 (Below.refl n0 W).grown (grownBy_putObj' W D _) (by have:=(Array.getElem?_eq_some_iff.1 hK).1;omega) (fun k e=>by cases e;omega)
theorem qR{W W':World}(h:Below W.heap.size W W'):KeepsOthers W W':=
 ⟨h.size,fun k _o hk _=>(h.block k (Array.getElem?_eq_some_iff.1 hk).1).trans hk⟩
theorem mO{β:Type}{B g:Nat}{t:TypeId}{cs:β->Array Value}:OwnFrom B (fun(s:β) W=>Blk W g t (cs s)):=fun s W W' row h hg hr=>by
 have h':W.heap[g]? =some (.cells (cs s) t (0,0)):=h;show W'.heap[g]? =some (.cells (cs s) t (0,0));refine(hg.block g (Array.getElem?_eq_some_iff.1 h').1 ?_).trans h';intro e;obtain⟨_,o,ho,hc⟩:=hr g e.symm;rw[h']at ho;cases ho;cases hc
theorem uC{β:Type}{B:Nat}{p:β->Prop}:OwnFrom B (fun(s:β) (_:World)=>p s):=fun _ _ _ _ h _ _=>h
theorem aC1{W:World}{D g:Nat}{t:TypeId}{cs:Array Value}(h:Blk W g t cs)(hK:W.heap[D]? =some (.deferred (some [])))(o':Obj):Blk (W.putObj D o') g t cs:=by
 have h':W.heap[g]? =some (.cells cs t (0,0)):=h;refine(World.putObj_heap_other ?_).trans h';intro e;subst e;rw[h']at hK;cases hK
theorem uB{F:Fence}{n:Nat}{R:Ending->World->Prop}{W:World}{D s:Nat}{T:Array Value}{v:Bool}(hT:T.getD 2 undef= .pointer (some ⟨s,0,none⟩))(b2:Blk W s 4 #[.bool v]) (hK:W.heap[D]? =some (.deferred (some [])))
  (hR:R (.returned (.bool v)) (W.putObj D (.deferred none))):bodyPostM F n Tryz.prog Tryz.f55 R .ret {tmps:=T,defers:=[{target:= .collected D,args:= #[]}]} W:=by
 refine Ge (v:= .bool v) rfl hK ?_ hR;have c2:=(aC1 b2 hK (.deferred none)).cell 0;simp at c2;rw[Array.getD_eq_getD_getElem?]at hT;simp[results,Tryz.f55,go_sem,hT,c2]
theorem Rb{s:Geo.Shape}(h:6<s.holes.length):Geo.bV s=false:=by
 unfold Geo.bV;rw[decide_eq_false (by omega)];simp
def mM(o:Geo.aC)(L:List Geo.aC)(i:Nat):Bool:=Geo.cR (aD L i) o 2&&Geo.dU (aD L i) o&&
 ((List.range i).all fun k=>Geo.dU (aD L i) (aD L k)&&Geo.cR (aD L i) (aD L k) 0&&Geo.cR (aD L k) (aD L i) 0)
def Dm(L:List Geo.aC)(i k:Nat):Bool:=Geo.dU (aD L i) (aD L k)&&Geo.cR (aD L i) (aD L k) 0&&Geo.cR (aD L k) (aD L i) 0
theorem nY(s:Geo.Shape):Geo.bV s=(decide (s.holes.length<=6)&&(Geo.aG s).all Geo.cB&&decide (Geo.dL s<=80)&&((List.range s.holes.length).all (mM s.outer s.holes))):=rfl
theorem Rc{s:Geo.Shape}{i:Nat}(hi:i<s.holes.length)(h:mM s.outer s.holes i=false):Geo.bV s=false:=by
 rw[nY];have:((List.range s.holes.length).all (mM s.outer s.holes))=false:=List.all_eq_false.2 ⟨i,List.mem_range.2 hi,by simp[h]⟩
 rw[this];simp
theorem Hj{s:Geo.Shape}(h:80<Geo.dL s):Geo.bV s=false:=by
 rw[nY,decide_eq_false (show¬Geo.dL s<=80 by omega)];simp
theorem Ra{s:Geo.Shape}{r:Geo.aC}(hr:r∈Geo.aG s)(h:Geo.cB r=false):Geo.bV s=false:=by
 rw[nY];have:((Geo.aG s).all Geo.cB)=false:=List.all_eq_false.2 ⟨r,hr,by simp[h]⟩
 rw[this];simp
theorem Tv{s:Geo.Shape}(h1:¬6<s.holes.length)(h2:∀r∈Geo.aG s,Geo.cB r=true)(h3:¬80<Geo.dL s)(h4:∀i,i<s.holes.length->mM s.outer s.holes i=true):Geo.bV s=true:=by
 rw[nY,decide_eq_true (show s.holes.length<=6 by omega),decide_eq_true (show Geo.dL s<=80 by omega),List.all_eq_true.2 h2]
 simp only[Bool.true_and,Bool.and_true,List.all_eq_true,List.mem_range];exact h4
theorem aAp{o:Geo.aC}{L:List Geo.aC}{i:Nat}(h1:Geo.cR (aD L i) o 2=true)(h2:Geo.dU (aD L i) o=true)(h3:∀k,k<i->Dm L i k=true):mM o L i=true:=by
 unfold mM;rw[h1,h2];simp only[Bool.true_and,List.all_eq_true,List.mem_range];exact h3
theorem Va{o:Geo.aC}{L:List Geo.aC}{i:Nat}(h1:Geo.cR (aD L i) o 2=false):mM o L i=false:=by unfold mM;rw[h1];simp
theorem Uz{o:Geo.aC}{L:List Geo.aC}{i:Nat}(h1:Geo.dU (aD L i) o=false):mM o L i=false:=by unfold mM;rw[h1];simp
theorem Uy{o:Geo.aC}{L:List Geo.aC}{i k:Nat}(hk:k<i)(h1:Dm L i k=false):mM o L i=false:=by
 unfold mM;have:((List.range i).all fun k=>Geo.dU (aD L i) (aD L k)&&Geo.cR (aD L i) (aD L k) 0&&Geo.cR (aD L k) (aD L i) 0)=false:=List.all_eq_false.2 ⟨k,List.mem_range.2 hk,by simpa[Dm]using h1⟩
 rw[this];simp
theorem aCx(hs:List RV){k:Nat}(hk:k<hs.length):aD (hs.map RV.r) k=(hs.getD k default).r:=by
 unfold aD;simp[List.getD_eq_getElem?_getD,hk]
theorem Qg(hs:List RV){k:Nat}(hk:k<hs.length):hs.getD k default∈hs:=by
 rw[List.getD_eq_getElem?_getD,List.getElem?_eq_getElem hk];exact List.getElem_mem hk
set_option maxRecDepth 100000 in
set_option maxHeartbeats 2000000 in
theorem qB(o:RV)(ah:Option Addr)(ch:Nat)(hs:List RV)(w:World)(H:RdSh w o ah hs)(hch:hs.length<=ch):
  Calls Tryz.prog 55 #[.agg #[RV.enc o,.slice ah hs.length ch]] w fun e w'=>e= .returned (.bool (Geo.bV (kB o hs)))/\Below w.heap.size w w':=by
 have hN:=H.n;by_cases c1:6<hs.length
 ·have HV:Hid (Geo.bV (kB o hs)=false):=Lib.hid (Rb (by unfold kB;simpa using c1))
  have d1:decide ((6:Int)<hs.length)=true:=decide_eq_true (by omega)
  refine(callsIn_wide (n:=9)).1 (callsIn_of_wp_marks Tryz.func55 rfl trivial ((wpIn_wide (n:=9)).2 ?_) rfl);simp only[Tryz.ntmps55,List.size_toArray,List.length_cons,List.length_nil,Nat.reduceAdd,Nat.reduceSub,Array.replicate_succ,Array.replicate_zero,List.push_toArray,List.append_toArray,List.nil_append,List.cons_append];dsimp only[RV.enc]
  go_wp2_with fail
  have hBW:Below w.heap.size w (((w.alloc (.cells #[.slice o.a o.r.length o.c,.slice ah hs.length ch] 26)).alloc (.cells #[.bool false] 4))):=((Below.refl _ _).alloc (Nat.le_refl _) _).alloc (by simp) _
  refine Gf (v:= .bool false) ?_ rfl ?_
  ·simp[results,Tryz.f55,go_sem]
  ·exact⟨by rw[HV.out],hBW⟩
 ·have d1:decide ((6:Int)<hs.length)=false:=decide_eq_false (by omega)
  refine(callsIn_wide (n:=9)).1 (callsIn_of_wp_marks Tryz.func55 rfl trivial ((wpIn_wide (n:=9)).2 ?_) rfl);simp only[Tryz.ntmps55,List.size_toArray,List.length_cons,List.length_nil,Nat.reduceAdd,Nat.reduceSub,Array.replicate_succ,Array.replicate_zero,List.push_toArray,List.append_toArray,List.nil_append,List.cons_append];dsimp only[RV.enc]
  go_wp2_with fail
  refine(vQ o ah hs.length ch _).mono ?_;rintro e w1 ⟨rfl,rfl⟩
  go_wp2_with fail
  have B1:=(((Blk.new w 26 #[.slice o.a o.r.length o.c,.slice ah hs.length ch]).alloc (.cells #[.bool false] 4)).alloc (.cells #[.int .i64 0] 3)).alloc (.cells #[RV.enc o,.slice ah hs.length ch] 26);have B2:=((Blk.new (w.alloc (.cells #[.slice o.a o.r.length o.c,.slice ah hs.length ch] 26)) 4 #[.bool false]).alloc (.cells #[.int .i64 0] 3)).alloc (.cells #[RV.enc o,.slice ah hs.length ch] 26);have B3:=(Blk.new ((w.alloc (.cells #[.slice o.a o.r.length o.c,.slice ah hs.length ch] 26)).alloc (.cells #[.bool false] 4)) 3 #[.int .i64 0]).alloc (.cells #[RV.enc o,.slice ah hs.length ch] 26);have B4:=Blk.new (((w.alloc (.cells #[.slice o.a o.r.length o.c,.slice ah hs.length ch] 26)).alloc (.cells #[.bool false] 4)).alloc (.cells #[.int .i64 0] 3)) 26 #[RV.enc o,.slice ah hs.length ch];have hBW:Below w.heap.size w ((((w.alloc (.cells #[.slice o.a o.r.length o.c,.slice ah hs.length ch] 26)).alloc (.cells #[.bool false] 4)).alloc (.cells #[.int .i64 0] 3)).alloc (.cells #[RV.enc o,.slice ah hs.length ch] 26)):=((((Below.refl _ _).alloc (Nat.le_refl _) _).alloc (by simp) _).alloc (by simp;omega) _).alloc (by simp;omega) _
  have hs0:w.heap.size+4=((((w.alloc (.cells #[.slice o.a o.r.length o.c,.slice ah hs.length ch] 26)).alloc (.cells #[.bool false] 4)).alloc (.cells #[.int .i64 0] 3)).alloc (.cells #[RV.enc o,.slice ah hs.length ch] 26)).heap.size:=by simp
  simp only[World.size_alloc]at B1 B2 B3 B4;generalize (((w.alloc (.cells #[.slice o.a o.r.length o.c,.slice ah hs.length ch] 26)).alloc (.cells #[.bool false] 4)).alloc (.cells #[.int .i64 0] 3)).alloc (.cells #[RV.enc o,.slice ah hs.length ch] 26)=W0 at B1 B2 B3 B4 hBW hs0|-;refine(wpIn_wide (n:=9)).1 ?_
  refine' wpIn_rangeFunc_ownF (F:=Fence.wide) (n:=9) rfl (by omega) (gf:=179) (lb:= #[.pointer (some ⟨w.heap.size+1+1+1,0,none⟩)]) rfl trivial (enters_of Tryz.func179 (by kernel_rfl) rfl)
   (oM Fence.wide 8 trivial rfl (by omega) (w.heap.size+1+1+1) w.heap.size o ah ch hs H.n W0 (by omega) B4 (H.h.below hBW)) Kp2.trans (Wg (by omega) (by omega)) (Below.refl _ _) (fun _=>rfl)
   (fun pre W=>((Blk W w.heap.size 26 #[.slice o.a o.r.length o.c,.slice ah hs.length ch]/\(Blk W (w.heap.size+1) 4 #[.bool false]/\Blk W (w.heap.size+1+1+1) 26 #[RV.enc o,.slice ah hs.length ch]))/\Blk W (w.heap.size+1+1) 3 #[.int .i64 ((pre.map fun x=>x.1.r.length).sum:Nat)])/\(((pre.map fun x=>x.1.r.length).sum<=1000*pre.length/\∀x∈pre,Geo.cB x.1.r=true)/\Below w.heap.size w W))
   (fun c pre W=>Blk W (w.heap.size+1) 4 #[.bool false]/\((c= .ret/\∃x∈pre,Geo.cB x.1.r=false)/\Below w.heap.size w W))
   (OwnFrom.and (OwnFrom.and (OwnFrom.and mO (OwnFrom.and mO mO)) mO) (OwnFrom.and uC (ownFrom_below (Nat.le_refl _) (by omega))))
   (fun c=>OwnFrom.and mO (OwnFrom.and uC (ownFrom_below (Nat.le_refl _) (by omega))))
   ⟨⟨⟨B1,B2,B4⟩,B3⟩,⟨by simp,by simp⟩,hBW⟩ _ ?assign ?body ?done ?stop
  case assign=>
   intro l x W K hK;dsimp only[RV.enc]
   gi_wp2
   exact hK
  case body=>
   rintro l pre ⟨⟨xa,xc,xr⟩,hxm⟩ W ⟨⟨⟨b1,b2,b4⟩,b3⟩,⟨hsum,hval⟩,hb⟩ hlen;obtain⟨hxr,hxl⟩:=H.v _ hxm;dsimp only at hxr hxl;have hxn:xr.length<=1000:=hxl.1;have HS:Hid (((pre++[(⟨⟨xa,xc,xr⟩,hxm⟩:{x:RV//x∈o::hs})]).map fun x:{x:RV//x∈o::hs}=>x.1.r.length).sum=(pre.map fun x=>x.1.r.length).sum+xr.length):=Lib.hid (by simp)
   obtain⟨S,hS⟩:∃S,S=(List.map (fun x:{x:RV//x∈o::hs}=>List.length x.1.r) pre).sum:=⟨_,rfl⟩
   rw[<-hS]at b3 hsum HS;clear hS;have hSb:S<=1001000:=by have:=H.n;omega
   have c2:=b2.cell 0;have c3:=b3.cell 0;have f2:=b2.frozen 0;have f3:=b3.frozen 0;simp at c2 c3;dsimp only[RV.enc];clear H d1 hN hBW B1 B2 B3 B4 hs0
   gi_wp2_with fail
   refine⟨trivial,(CallsIn.inRound l (callsIn_wide.2 (Hy xa xc xr _ (hxr.below (hb.setCell (p:=⟨w.heap.size+1+1,0,none⟩) (by simp;omega) _)) hxl))).mono ?_⟩
   rintro e w1 ⟨rfl,hb1⟩;have hk:KeepsOthers W w1:=(KeepsOthers.setCell W _ _).trans (qR hb1);have q2:=(b2.far (p:=⟨w.heap.size+1+1,0,none⟩) (by simp) (.int .i64 ((S:Int)+xr.length))).then_ hb1
   have q1:=(b1.far (p:=⟨w.heap.size+1+1,0,none⟩) (by simp;omega) (.int .i64 ((S:Int)+xr.length))).then_ hb1
   have q4:=(b4.far (p:=⟨w.heap.size+1+1,0,none⟩) (by simp) (.int .i64 ((S:Int)+xr.length))).then_ hb1
   have q3:=(b3.rE 0 (.int .i64 ((S:Int)+xr.length))).then_ hb1;have hB1:Below w.heap.size W w1:=((Below.refl _ W).setCell (p:=⟨w.heap.size+1+1,0,none⟩) (by simp;omega) _).trans (hb1.mono (by have:=hb.size;simpa using this))
   have hK:Kp2 w.heap.size (w.heap.size+1+1+1) W w1:=⟨hB1,Eq.trans q4 (Eq.symm b4)⟩;clear hb1 c2 c3 f2 f3 b1 b2 b3 b4;cases hv:Geo.cB xr with
   |true=>
    gi_wp2
    refine⟨hk,hK,⟨⟨q1,q2,q4⟩,?_⟩,⟨?_,?_⟩,hb.trans hB1⟩
    ·rw[HS.out];simpa using q3
    ·rw[HS.out];simp;omega
    ·intro x hx;rcases List.mem_append.1 hx with h|h
     ·exact hval x h
     ·simp at h;subst h;exact hv
   |false=>
    have c2:=q2.cell 0;have f2:=q2.frozen 0;simp at c2
    gi_wp2
    refine⟨hk.trans (KeepsOthers.setCell _ _ _),by simpa using q2.rE 0 (.bool false),⟨rfl,⟨_,List.mem_append.2 (.inr List.mem_cons_self),hv⟩⟩,(hb.trans hB1).setCell (p:=⟨w.heap.size+1,0,none⟩) (by simp) _⟩
  case stop=>
   rintro D c pre W hD hpre ⟨b2,⟨rfl,x,hx,hv⟩,hb⟩ hK;have HV:Hid (Geo.bV (kB o hs)=false):=Lib.hid (Ra (r:=x.1.r) (by have:=x.2;unfold kB Geo.aG;simp only[List.mem_cons]at this|-;rcases this with h|h;exact .inl (by rw[h]);exact .inr (List.mem_map.2 ⟨_,h,rfl⟩)) hv)
   gi_wp2
   exact uB rfl b2 hK ⟨by rw[HV.out],hb.trans (gR (by omega) hK)⟩
  case done=>
   rintro D xs W hD hxs ⟨⟨⟨b1,b2,b4⟩,b3⟩,⟨hsum,hval⟩,hb⟩ hK;have hN7:xs.length<=7:=by have:=congrArg List.length hxs;simp at this;omega
   have HC:(xs.map fun x=>x.1.r.length).sum=Geo.dL (kB o hs):=by
    have e:(xs.map fun x=>x.1.r.length)=(xs.map (·.1)).map fun x=>x.r.length:=by rw[List.map_map];rfl
    rw[e,hxs];unfold Geo.dL Geo.aG kB;simp[Function.comp_def]
   have HA:Hid (∀r∈Geo.aG (kB o hs),Geo.cB r=true):=Lib.hid (by
    intro r hr;have hr2:r∈(o::hs).map RV.r:=by unfold Geo.aG kB at hr;simpa using hr
    obtain⟨y,hy,rfl⟩:=List.mem_map.1 hr2;rw[<-hxs]at hy;obtain⟨z,hz,rfl⟩:=List.mem_map.1 hy;exact hval z hz)
   rw[HC]at b3 hsum;clear HC hval hxs b4 B1 B2 B3 B4;have c80':=Lib.hid (fun h:80<Geo.dL (kB o hs)=>Hj h)
   have HVA:=Lib.hid (fun(h:¬80<Geo.dL (kB o hs)) h4=>Tv (s:=kB o hs) (by unfold kB;simpa using c1) HA.out h h4)
   generalize Geo.dL (kB o hs)=N at b3 hsum c80' HVA;have hNb:N<=7000:=by omega
   clear HA hsum hN7 xs;have c3:=b3.cell 0;have f2:=b2.frozen 0;have c2:=b2.cell 0;have d0:=b1.cell 0;have d1':=b1.cell 1;simp at c2 c3 d0 d1';have hne:D≠w.heap.size+1:=by omega
   have hKs:∀v,(W.setCell ⟨w.heap.size+1,0,none⟩ v).heap[D]? =some (.deferred (some [])):=fun v=>(Below.heap_setCell W ⟨w.heap.size+1,0,none⟩ v D (by simpa using hne)).trans hK
   by_cases c80:80<N
   ·have d80:decide ((80:Int)<N)=true:=decide_eq_true (by omega)
    have HV:=Lib.hid (c80'.out c80);clear c80' HVA hNb c80
    go_wp2
    exact uB rfl (by simpa using b2.rE 0 (.bool false)) (hKs _) ⟨by rw[HV.out],(hb.setCell (p:=⟨w.heap.size+1,0,none⟩) (by simp) _).trans (gR (by omega) (hKs _))⟩
   ·have d80:decide ((80:Int)<N)=false:=decide_eq_false (by omega)
    replace HVA:=Lib.hid (HVA.out c80);clear c80' c80 hNb b3
    go_wp2_with fail
    have hDl:D<W.heap.size:=(Array.getElem?_eq_some_iff.1 hK).1;have hKX:∀wx,Below W.heap.size W wx->(wx.setCell ⟨w.heap.size+1,0,none⟩ (.bool false)).heap[D]? =some (.deferred (some [])):=fun wx h=>(Below.heap_setCell wx ⟨w.heap.size+1,0,none⟩ _ D (by simpa using hne)).trans ((h.block D hDl).trans hK)
    have hKT:∀wx,Below W.heap.size W wx->(wx.setCell ⟨w.heap.size+1,0,none⟩ (.bool true)).heap[D]? =some (.deferred (some [])):=fun wx h=>(Below.heap_setCell wx ⟨w.heap.size+1,0,none⟩ _ D (by simpa using hne)).trans ((h.block D hDl).trans hK)
    have ho:=H.v o List.mem_cons_self;have hol:(kB o hs).outer=o.r:=rfl;have hhl:(kB o hs).holes=hs.map RV.r:=rfl;have hlen:(kB o hs).holes.length=hs.length:=by rw[hhl,List.length_map]
    have HNO:=Lib.hid (fun i (hi:i<hs.length) h=>Rc (s:=kB o hs) (i:=i) (by rw[hlen];exact hi) h)
    rw[hol,hhl]at HNO;rw[hol,hhl,List.length_map]at HVA;have HM:=Lib.hid (fun k (hk:k<hs.length)=>aCx hs hk)
    clear hol hhl hlen hKs f2 c2 c3 d0 d1' hBW;have HC:=Lib.hid (fun(wx:World) (h:Below W.heap.size W wx)=>(show wx.cell? ⟨w.heap.size,0,none⟩=some (.slice o.a o.r.length o.c)/\wx.cell? ⟨w.heap.size,1,none⟩=some (.slice ah hs.length ch)/\wx.cell? ⟨w.heap.size+1,0,none⟩=some (.bool false)/\wx.frozen? ⟨w.heap.size+1,0,none⟩=false from
     ⟨by simpa using(b1.then_ h).cell 0,by simpa using(b1.then_ h).cell 1,by simpa using(b2.then_ h).cell 0,(b2.then_ h).frozen 0⟩))
    go_loopw [5,6,8,28] (fun _ _ _ i wr=>∃k:Nat,k<=hs.length/\i= .int .i64 k/\Hid (∀i,i<k->mM o.r (hs.map RV.r) i=true)/\Below W.heap.size W wr) (fun _ _ _ i _=>hs.length-(intOf i).toNat)
    case atStart=>exact⟨0,by omega,rfl,Lib.hid (fun i hi=>by omega),Below.refl _ _⟩
    case round=>
     obtain⟨k,hk,rfl,HT,hbr⟩:=hrel;by_cases hlt:k<hs.length
     ·obtain⟨bb,off,rfl,hbb,p0⟩:=H.h k hlt;have hbw:=hb.trans (hbr.mono hb.size);replace p0:=(hbw.cell (p:=⟨bb,_,none⟩) hbb).trans p0;have hx:=H.v _ (List.mem_cons_of_mem _ (Qg hs hlt));have HMk:=HM.out k hlt;obtain⟨d0,d1',e1,e2⟩:=HC.out _ hbr;have hbbr:bb<wr.heap.size:=Nat.lt_of_lt_of_le hbb hbw.size;obtain⟨⟨xa,xc,xr⟩,hz⟩:∃z,z=hs.getD k default:=⟨_,rfl⟩;rw[<-hz]at p0 hx HMk;dsimp only[RV.enc]at p0 hx HMk;clear hz;have HNK:=Lib.hid (HNO.out k hlt);cases h1:Geo.cR xr o.r 2 with
      |false=>
       have HV:=Lib.hid (HNK.out (Va (by rw[HMk];exact h1)))
       clear HNK HMk
       go_wp2_with fail
       refine(mP xa xc xr o.a o.c o.r 2 _ (ho.1.below hbw) ho.2 (hx.1.below hbw) hx.2).mono ?_;rintro e w1 ⟨rfl,hb1⟩;rw[h1];have hbX:=hbr.trans (hb1.mono hbr.size);clear d0 d1' e1 e2 p0 hb1;obtain⟨d0,d1',e1,e2⟩:=HC.out _ hbX
       go_wp2
       exact uB rfl (by simpa using(b2.then_ hbX).rE 0 (.bool false)) (hKX _ hbX) ⟨by rw[HV.out],((hb.trans (hbX.mono hb.size)).setCell (p:=⟨w.heap.size+1,0,none⟩) (by simp) _).trans (gR (by omega) (hKX _ hbX))⟩
      |true=>
       go_wp2_with fail
       refine(mP xa xc xr o.a o.c o.r 2 _ (ho.1.below hbw) ho.2 (hx.1.below hbw) hx.2).mono ?_;rintro e w1 ⟨rfl,hb1⟩;rw[h1];have hbY:=hbr.trans (hb1.mono hbr.size);have hbv:=hbw.trans (hb1.mono hbw.size);clear d0 d1' e1 e2 hb1 p0 hbr hbw;obtain⟨d0,d1',e1,e2⟩:=HC.out _ hbY;cases h2:Geo.dU xr o.r with
       |false=>
        have HV:=Lib.hid (HNK.out (Uz (by rw[HMk];exact h2)))
        clear HNK HMk
        go_wp2_with fail
        refine(wC xa xc xr o.a o.c o.r _ (hx.1.below hbv) (ho.1.below hbv) hx.2 ho.2).mono ?_;rintro e w2 ⟨rfl,hb2⟩;rw[h2];have hbX:=hbY.trans (hb2.mono hbY.size);clear d0 d1' e1 e2 hb2;obtain⟨d0,d1',e1,e2⟩:=HC.out _ hbX
        go_wp2
        exact uB rfl (by simpa using(b2.then_ hbX).rE 0 (.bool false)) (hKX _ hbX) ⟨by rw[HV.out],((hb.trans (hbX.mono hb.size)).setCell (p:=⟨w.heap.size+1,0,none⟩) (by simp) _).trans (gR (by omega) (hKX _ hbX))⟩
       |true=>
        go_wp2_with fail
        refine(wC xa xc xr o.a o.c o.r _ (hx.1.below hbv) (ho.1.below hbv) hx.2 ho.2).mono ?_;rintro e w2 ⟨rfl,hb2⟩;rw[h2];have hbX:=hbY.trans (hb2.mono hbY.size);clear d0 d1' e1 e2 hb2 hbY hbv hbbr;obtain⟨d0,d1',e1,e2⟩:=HC.out _ hbX;have hkc:k<=ch:=by omega
        go_wp2_with fail
        clear d0 d1' e1 e2 HNO;have hbv2:=hb.trans (hbX.mono hb.size)
        go_loopw [8,50] (fun _ i wr=>∃q:Nat,q<=k/\i= .int .i64 q/\Hid (∀i,i<q->Dm (hs.map RV.r) k i=true)/\Below W.heap.size W wr) (fun _ i _=>k-(intOf i).toNat)
        case atStart=>exact⟨0,by omega,rfl,Lib.hid (fun i hi=>by omega),hbX⟩
        case round=>
         obtain⟨q,hq,rfl,HQ,hbq⟩:=hrel;by_cases hlq:q<k
         ·have hqs:q<hs.length:=by omega
          obtain⟨bb',off',he,hbb',p0⟩:=H.h q hqs;simp only[Option.some.injEq,Addr.mk.injEq,and_true]at he;obtain⟨rfl,rfl⟩:=he;have hbw:=hb.trans (hbq.mono hb.size);replace p0:=(hbw.cell (p:=⟨bb,_,none⟩) hbb).trans p0;have hy:=H.v _ (List.mem_cons_of_mem _ (Qg hs hqs));have HMq:=HM.out q hqs;have hbbr:bb<wr.heap.size:=Nat.lt_of_lt_of_le hbb hbw.size;obtain⟨⟨ya,yc,yr⟩,hz⟩:∃z,z=hs.getD q default:=⟨_,rfl⟩;rw[<-hz]at p0 hy HMq;dsimp only[RV.enc]at p0 hy HMq;clear hz hbb';have HNQ:=Lib.hid (fun h=>HNK.out (Uy hlq h))
          have HP:Hid (Dm (hs.map RV.r) k q=(Geo.dU xr yr&&Geo.cR xr yr 0&&Geo.cR yr xr 0)):=Lib.hid (by unfold Dm;rw[HMk,HMq])
          cases h3:Geo.dU xr yr with
          |false=>
           have HV:=Lib.hid (HNQ.out (by rw[HP.out,h3];rfl))
           go_wp2_with fail
           refine(wC xa xc xr ya yc yr _ (hx.1.below hbw) (hy.1.below hbw) hx.2 hy.2).mono ?_;rintro e w3 ⟨rfl,hbw3⟩;rw[h3];have hbz:=hbq.trans (hbw3.mono hbq.size);have hbv3:=hbw.trans (hbw3.mono hbw.size);clear hbw3;obtain⟨d0,d1',e1,e2⟩:=HC.out _ hbz
           go_wp2
           exact uB rfl (by simpa using(b2.then_ hbz).rE 0 (.bool false)) (hKX _ hbz) ⟨by rw[HV.out],((hb.trans (hbz.mono hb.size)).setCell (p:=⟨w.heap.size+1,0,none⟩) (by simp) _).trans (gR (by omega) (hKX _ hbz))⟩
          |true=>
           go_wp2_with fail
           refine(wC xa xc xr ya yc yr _ (hx.1.below hbw) (hy.1.below hbw) hx.2 hy.2).mono ?_;rintro e w3 ⟨rfl,hbw3⟩;rw[h3];have hbz:=hbq.trans (hbw3.mono hbq.size);have hbv3:=hbw.trans (hbw3.mono hbw.size);clear hbw3;clear p0 hbw;cases h4:Geo.cR xr yr 0 with
           |false=>
            have HV:=Lib.hid (HNQ.out (by rw[HP.out,h3,h4];rfl))
            go_wp2_with fail
            refine(mP xa xc xr ya yc yr 0 _ (hy.1.below hbv3) hy.2 (hx.1.below hbv3) hx.2).mono ?_;rintro e w4 ⟨rfl,hbw4⟩;rw[h4];have hbz4:=hbz.trans (hbw4.mono hbz.size);have hbv4:=hbv3.trans (hbw4.mono hbv3.size);clear hbw4;obtain⟨d0,d1',e1,e2⟩:=HC.out _ hbz4
            go_wp2
            exact uB rfl (by simpa using(b2.then_ hbz4).rE 0 (.bool false)) (hKX _ hbz4) ⟨by rw[HV.out],((hb.trans (hbz4.mono hb.size)).setCell (p:=⟨w.heap.size+1,0,none⟩) (by simp) _).trans (gR (by omega) (hKX _ hbz4))⟩
           |true=>
            go_wp2_with fail
            refine(mP xa xc xr ya yc yr 0 _ (hy.1.below hbv3) hy.2 (hx.1.below hbv3) hx.2).mono ?_;rintro e w4 ⟨rfl,hbw4⟩;rw[h4];have hbz4:=hbz.trans (hbw4.mono hbz.size);have hbv4:=hbv3.trans (hbw4.mono hbv3.size);clear hbw4;clear hbv3;cases h5:Geo.cR yr xr 0 with
            |false=>
             have HV:=Lib.hid (HNQ.out (by rw[HP.out,h3,h4,h5];rfl))
             go_wp2_with fail
             refine(mP ya yc yr xa xc xr 0 _ (hx.1.below hbv4) hx.2 (hy.1.below hbv4) hy.2).mono ?_;rintro e w5 ⟨rfl,hbw5⟩;rw[h5];have hbz5:=hbz4.trans (hbw5.mono hbz4.size);have hbv5:=hbv4.trans (hbw5.mono hbv4.size);clear hbw5;obtain⟨d0,d1',e1,e2⟩:=HC.out _ hbz5
             go_wp2
             exact uB rfl (by simpa using(b2.then_ hbz5).rE 0 (.bool false)) (hKX _ hbz5) ⟨by rw[HV.out],((hb.trans (hbz5.mono hb.size)).setCell (p:=⟨w.heap.size+1,0,none⟩) (by simp) _).trans (gR (by omega) (hKX _ hbz5))⟩
            |true=>
             have HQ2:Hid (∀i,i<q+1->Dm (hs.map RV.r) k i=true):=Lib.hid (fun i hi=>by
              by_cases e:i=q
              ·subst e;rw[HP.out,h3,h4,h5];rfl
              ·exact HQ.out i (by omega))
             go_wp2_with fail
             refine(mP ya yc yr xa xc xr 0 _ (hx.1.below hbv4) hx.2 (hy.1.below hbv4) hy.2).mono ?_;rintro e w5 ⟨rfl,hbw5⟩;rw[h5];have hbz5:=hbz4.trans (hbw5.mono hbz4.size);have hbv5:=hbv4.trans (hbw5.mono hbv4.size);clear hbw5
             go_wp2
             go_roundw
             case rel=>exact⟨q+1,by omega,by go_num,HQ2,hbz5⟩
             case measure=>simp[intOf];omega
         ·have HT2:Hid (∀i,i<k+1->mM o.r (hs.map RV.r) i=true):=Lib.hid (fun i hi=>by
           by_cases e:i=k
           ·subst e;exact aAp (by rw[HMk];exact h1) (by rw[HMk];exact h2) (fun j hj=>HQ.out j (by omega))
           ·exact HT.out i (by omega))
          go_wp2
          go_roundw
          case rel=>exact⟨k+1,by omega,by go_num,HT2,hbq⟩
          case measure=>simp[intOf];omega
     ·have HV:=Lib.hid (HVA.out (fun i hi=>HT.out i (by omega)))
      obtain⟨d0,d1',e1,e2⟩:=HC.out _ hbr
      go_wp2
      exact uB rfl (by simpa using(b2.then_ hbr).rE 0 (.bool true)) (hKT _ hbr) ⟨by rw[HV.out],((hb.trans (hbr.mono hb.size)).setCell (p:=⟨w.heap.size+1,0,none⟩) (by simp) _).trans (gR (by omega) (hKT _ hbr))⟩
end Go.Proofs.YtdaeofhdgabhjaaGreat
namespace Go.Proofs.YtdaeofhdgabhjaaGreat
open Go.RowKit Go.Shelf
attribute [local go_sem] Oper.semAt_some
theorem uP{W W':World}{base:Nat}{e:TypeId}{size:Nat}{v:Value}{n:Nat}{xs:List Value}{row:Option Nat}(h:W.ownsRow base e size v n xs)(hg:W.grownBy W' row)(hr:∀r,row=some r->∃o:Obj,W.heap[r]? =some o/\o.isCells=false):W'.ownsRow base e size v n xs:=
 ⟨h.1,h.2.imp id fun⟨g,cap,cur,h1,h2,h3,h4⟩=>⟨g,cap,cur,h1,h2,(hg.block g (Array.getElem?_eq_some_iff.1 h3).1 (fun e=>by
   obtain⟨o,ho,hc⟩:=hr g e.symm;rw[h3]at ho;cases ho;cases hc)).trans h3,h4⟩⟩
theorem aEn{β:Type}{B bx base:Nat}{t:TypeId}{e:TypeId}{size:Nat}{n:β->Nat}{xs:β->List Value}:OwnFrom B (fun(s:β) W=>∃v,Blk W bx t #[v]/\W.ownsRow base e size v (n s) (xs s)):=fun s W W' row ⟨v,h1,h2⟩ hg hr=>
 ⟨v,mO (cs:=fun _:β=> #[v]) s W W' row h1 hg hr,uP h2 hg (fun r e=>(hr r e).2)⟩
theorem zN{W:World}{D base:Nat}{e:TypeId}{size:Nat}{v:Value}{n:Nat}{xs:List Value}(h:W.ownsRow base e size v n xs)(hK:W.heap[D]? =some (.deferred (some [])))(o':Obj):(W.putObj D o').ownsRow base e size v n xs:=
 uP h (grownBy_putObj' W D o') (fun r e=>by cases e;exact⟨_,hK,rfl⟩)
theorem Kl{W W':World}{base:Nat}{e:TypeId}{size:Nat}{v:Value}{n:Nat}{xs:List Value}(h:W.ownsRow base e size v n xs)(hg:W.grownBy W' v.ownBlock):KeepsOthers W W':=
 KeepsOthers.of_grownBy hg (fun j o hj ho=>by
  rcases h.2 with⟨h1,h2⟩|⟨g,cap,cur,h1,h2,h3,h4⟩
  ·rw[h1]at hj;simp[Value.ownBlock]at hj
  ·rw[h1]at hj;simp[Value.ownBlock]at hj;subst hj;rw[h3]at ho;cases ho;rfl)
theorem An{F:Fence}{n:Nat}{P:Program}{fn:Func}{R:Ending->World->Prop}{W:World}{D:Nat}{T:Array Value}{t:Tmp}{v:Value}(hf:fn.results= #[.tmp t]) (hT:T.getD t undef=v) (hK:W.heap[D]? =some (.deferred (some [])))
  (hR:R (.returned v) (W.putObj D (.deferred none))):bodyPostM F n P fn R .ret {tmps:=T,defers:=[{target:= .collected D,args:= #[]}]} W:=by
 refine Ge (v:=v) rfl hK ?_ hR;rw[<-hT];simp[results,hf]
theorem aAt(xs:List Geo.S):∀u∈lM xs,u.oneCell'=true:=by
 intro u hu;obtain⟨v,_,hv⟩:=List.mem_flatMap.1 hu;simp only[List.mem_cons,List.not_mem_nil,or_false]at hv;rcases hv with rfl|rfl|rfl|rfl<;>rfl
theorem Rd.grown{w w':World}{a:Option Addr}{cs:List Value}{row:Option Nat}{m:Nat}(h:Rd w a cs)(hF:nS m a)(hr:∀k,row=some k->k<m)(hg:w.grownBy w' row):Rd w' a cs:=by
 intro i u hi;obtain⟨b,off,rfl,hb,hc⟩:=h i u hi;have hm:m<=b:=hF _ rfl;refine⟨b,off,rfl,Nat.lt_of_lt_of_le hb hg.size,(World.cell?_of_block (a:=⟨b,off+i,none⟩) (hg.block b hb ?_)).trans hc⟩;intro e;have:=hr b e.symm;omega
theorem Rd.rE{w:World}{a:Option Addr}{cs:List Value}{m:Nat}{p:Addr}{u:Value}(h:Rd w a cs)(hF:nS m a)(hp:p.block<m):Rd (w.setCell p u) a cs:=by
 intro i v hi;obtain⟨b,off,rfl,hb,hc⟩:=h i v hi;have hm:m<=b:=hF _ rfl;exact⟨b,off,rfl,by simpa using hb,(World.cell?_of_block (a:=⟨b,off+i,none⟩) (Below.heap_setCell w p u b (by omega))).trans hc⟩
theorem qQ{W:World}{base:Nat}{e:TypeId}{size:Nat}{v:Value}{n:Nat}{xs:List Value}{p:Addr}{u:Value}(h:W.ownsRow base e size v n xs)(hp:p.block<base):(W.setCell p u).ownsRow base e size v n xs:=
 ⟨h.1,h.2.imp id fun⟨g,cap,cur,h1,h2,h3,h4⟩=>⟨g,cap,cur,h1,h2,(Below.heap_setCell W p u g (by omega)).trans h3,h4⟩⟩
abbrev Mem(o:RV)(hs:List RV):={x:RV//x∈o::hs}
def jC{o:RV}{hs:List RV}(pre:List (Mem o hs)):List Geo.S:=pre.flatMap fun x=>Geo.edges x.1.r
theorem Ni{o:RV}{hs:List RV}(pre:List (Mem o hs))(x:Mem o hs):jC (pre++[x])=jC pre++Geo.edges x.1.r:=by unfold jC;simp
theorem Vh{o:RV}{hs:List RV}(h:∀x∈o::hs,x.r.length<=1000)(pre:List (Mem o hs)):(jC pre).length<=1000*pre.length:=by
 induction pre with
 |nil=>simp[jC]
 |cons x l ih=>
  have h1:=h x.1 x.2;have h2:=uJ x.1.r;unfold jC at*;simp only[List.flatMap_cons,List.length_append,List.length_cons];omega
theorem Rz{o:RV}{hs:List RV}{xs:List (Mem o hs)}(h:xs.map (·.1)=o::hs):jC xs=Geo.aQ (kB o hs):=by
 have e:jC xs=(xs.map (·.1)).flatMap fun x=>Geo.edges x.r:=by unfold jC;rw[List.flatMap_map]
 rw[e,h];unfold Geo.aQ Geo.aG kB;simp[List.flatMap_cons,List.flatMap_map]
set_option maxRecDepth 100000 in
set_option maxHeartbeats 2000000 in
theorem Hm(o:RV)(ah:Option Addr)(ch:Nat)(hs:List RV)(w:World)(H:RdSh w o ah hs)(hn:hs.length<=900):
  Calls Tryz.prog 131 #[.agg #[RV.enc o,.slice ah hs.length ch]] w fun e w'=>∃v,e= .returned v/\w'.ownsRow w.heap.size 46 4 v (Geo.aQ (kB o hs)).length (lM (Geo.aQ (kB o hs)))/\Below w.heap.size w w':=by
 refine(callsIn_wide (n:=9)).1 (callsIn_of_wp_marks Tryz.func131 rfl trivial ((wpIn_wide (n:=9)).2 ?_) rfl);simp only[Tryz.ntmps131,List.size_toArray,List.length_cons,List.length_nil,Nat.reduceAdd,Nat.reduceSub,Array.replicate_succ,Array.replicate_zero,List.push_toArray,List.append_toArray,List.nil_append,List.cons_append];dsimp only[RV.enc]
 go_wp2_with fail
 refine(vQ o ah hs.length ch _).mono ?_;rintro e w1 ⟨rfl,rfl⟩
 go_wp2_with fail
 have B3:=(Blk.new (w.alloc (.cells #[.slice o.a o.r.length o.c,.slice ah hs.length ch] 26)) 32 #[.slice none 0 0]).alloc (.cells #[RV.enc o,.slice ah hs.length ch] 26);have B4:=Blk.new ((w.alloc (.cells #[.slice o.a o.r.length o.c,.slice ah hs.length ch] 26)).alloc (.cells #[.slice none 0 0] 32)) 26 #[RV.enc o,.slice ah hs.length ch];have hBW:Below w.heap.size w ((((w.alloc (.cells #[.slice o.a o.r.length o.c,.slice ah hs.length ch] 26)).alloc (.cells #[.slice none 0 0] 32))).alloc (.cells #[RV.enc o,.slice ah hs.length ch] 26)):=(((Below.refl _ _).alloc (Nat.le_refl _) _).alloc (by simp) _).alloc (by simp;omega) _
 have hs0:w.heap.size+3=((((w.alloc (.cells #[.slice o.a o.r.length o.c,.slice ah hs.length ch] 26)).alloc (.cells #[.slice none 0 0] 32))).alloc (.cells #[RV.enc o,.slice ah hs.length ch] 26)).heap.size:=by simp
 simp only[World.size_alloc]at B3 B4;generalize (((w.alloc (.cells #[.slice o.a o.r.length o.c,.slice ah hs.length ch] 26)).alloc (.cells #[.slice none 0 0] 32))).alloc (.cells #[RV.enc o,.slice ah hs.length ch] 26)=W0 at B3 B4 hBW hs0|-;refine(wpIn_wide (n:=9)).1 ?_
 refine' wpIn_rangeFunc_ownF (F:=Fence.wide) (n:=9) rfl (by omega) (gf:=179) (lb:= #[.pointer (some ⟨w.heap.size+1+1,0,none⟩)]) rfl trivial (enters_of Tryz.func179 (by kernel_rfl) rfl)
  (oM Fence.wide 8 trivial rfl (by omega) (w.heap.size+1+1) w.heap.size o ah ch hs H.n W0 (by omega) B4 (H.h.below hBW)) Kp2.trans (Wg (by omega) (by omega)) (Below.refl _ _) (fun _=>rfl)
  (fun pre W=>(Blk W (w.heap.size+1+1) 26 #[RV.enc o,.slice ah hs.length ch]/\∃v,Blk W (w.heap.size+1) 32 #[v]/\W.ownsRow (w.heap.size+3) 46 4 v (jC pre).length (lM (jC pre)))/\(w.heap.size+3<=W.heap.size/\Below w.heap.size w W))
  (fun c pre W=>False/\False)
  (OwnFrom.and (OwnFrom.and mO aEn) (OwnFrom.and (fun s A B row h hg _=>Nat.le_trans h hg.size) (ownFrom_below (Nat.le_refl _) (by omega))))
  (fun c=>OwnFrom.and uC uC)
  ⟨⟨B4,_,B3,World.ownsRow_nil _ _ _ _⟩,by omega,hBW⟩ _ ?assign ?body ?done ?stop
 case assign=>
  intro l x W K hK;dsimp only[RV.enc]
  gi_wp2
  exact hK
 case stop=>
  rintro D c pre W hD hpre ⟨h,_⟩ hK;exact h.elim
 case done=>
  rintro D xs W hD hxs ⟨⟨b4,v,b3,hrow⟩,_,hb⟩ hK;have c3:=b3.cell 0;simp at c3;have hD2:w.heap.size<=D:=by omega
  rw[Rz hxs]at hrow;clear hxs b4 B3 B4 hBW hs0 hD b3
  go_wp2
  exact An (v:=v) rfl rfl hK ⟨v,rfl,zO (zN hrow hK _) (by omega),hb.trans (gR hD2 hK)⟩
 case body=>
  rintro l pre ⟨⟨xa,xc,xr⟩,hxm⟩ W ⟨⟨b4,u3,b3,hrow⟩,hsz,hb⟩ hlen;obtain⟨hxr,hxl⟩:=H.v _ hxm;dsimp only at hxr hxl;have hxn:xr.length<=1000:=hxl.1;have HE:Hid (jC (pre++[(⟨⟨xa,xc,xr⟩,hxm⟩:Mem o hs)])=jC pre++Geo.edges xr):=Lib.hid (Ni _ _);have hle:=Vh (fun x hx=>(H.v x hx).2.1) pre
  have hle2:=uJ xr;have hsz2:(jC pre).length+(Geo.edges xr).length<=1000000:=by omega
  rw[show(w.heap.size+3)=w.heap.size+3 from rfl]at hrow
  generalize jC pre=E at HE hrow hsz2;clear hle hle2 B3 B4 hBW hs0;refine wpIn_block ?_;dsimp only[RV.enc];refine rB (by kernel_rfl) (by kernel_rfl) [8,9,10,11] [[],[],[1],[0,1,2],[0,1,2,3]] (by kernel_rfl) (by kernel_rfl) (by intro s hs;simp at hs|-;omega)
   (WR3 3 4 (fun wx=>Below W.heap.size W wx) (fun wx=>Blk wx (w.heap.size+1) 32 #[u3]/\Blk wx (w.heap.size+1+1) 26 #[RV.enc o,.slice ah hs.length ch]/\Below w.heap.size w wx/\KeepsOthers W wx/\Below w.heap.size W wx/\w.heap.size+3<=wx.heap.size) (fun wx=>∃v,Blk wx (w.heap.size+1) 32 #[v]/\wx.ownsRow (w.heap.size+3) 46 4 v (E.length+(Geo.edges xr).length) (lM (E++Geo.edges xr))/\Blk wx (w.heap.size+1+1) 26 #[RV.enc o,.slice ah hs.length ch]/\Below w.heap.size w wx/\KeepsOthers W wx/\Below w.heap.size W wx/\w.heap.size+3<=wx.heap.size))
   (fun i v wx=>match i with
     |0=>v=u3
     |1=>v= .slice xa xr.length xc
     |2=>∃a c,v= .slice a (Geo.edges xr).length c/\Rd wx a (lM (Geo.edges xr))/\(a=none->c=0)/\nS W.heap.size a
     |3=>wx.ownsRow (w.heap.size+3) 46 4 v (E.length+(Geo.edges xr).length) (lM (E++Geo.edges xr))
     |4=>True
     |_=>True)
   (WR3.start (Below.refl _ _).drew) ?_ ?_ ?_
  ·intro j v wx wy hf hxy;match j with
   |0=>exact hf
   |1=>exact hf
   |2=>obtain⟨a,c,h1,h2,h3⟩:=hf;exact⟨a,c,h1,h2.below hxy,h3⟩
   |3=>exact iB hf hxy
   |4=>exact hf
   |_+5=>exact trivial
  ·refine⟨?_,?_,?_,?_,?_,trivial⟩
   ·intro D V wx hD hanc hdesc hin hWR;have hA:=hWR.lo (hdesc 3 (by kernel_rfl)) (hdesc 4 (by kernel_rfl))
    have e3:=hin 3 (by kernel_rfl)
    simp at e3;have q0:=(Blk.then_ b3 hA).cell 0;simp at q0;refine opK ?_;intro K hK;simp[cC,execOp,bI,e3,q0,go_sem];exact hK _ _ ⟨rfl,(hWR.keep (by decide) (by decide)),.inl rfl⟩
   ·intro D V wx hD hanc hdesc hin hWR;have hA:=hWR.lo (hdesc 3 (by kernel_rfl)) (hdesc 4 (by kernel_rfl))
    have e4:=hin 4 (by kernel_rfl)
    simp at e4;refine opK ?_;intro K hK;simp[cC,execOp,bI,e4,go_sem];exact hK _ _ ⟨rfl,(hWR.keep (by decide) (by decide)),.inl rfl⟩
   ·intro D V wx hD hanc hdesc hin hWR;have hA:=hWR.lo (hdesc 3 (by kernel_rfl)) (hdesc 4 (by kernel_rfl))
    have e9:V 9= .slice xa xr.length xc:=(hanc 1 (by kernel_rfl)).2
    refine opK ?_;intro K hK;simp[cC,execOp,bI,e9,go_sem];refine(aAz xa xc xr _ (hxr.below (hb.trans (hA.mono hb.size))) hxl).mono ?_;rintro e w1 ⟨a,c,rfl,hR,hF,hN,hc⟩;exact⟨_,rfl,hK _ _ ⟨⟨a,c,rfl,hR,hN,hF.mono hA.size⟩,(.mkLo (hdesc 3 (by kernel_rfl)) (hdesc 4 (by kernel_rfl)) (by decide) (by decide) (Below.then_ hA hc)),.inr (.inl hc)⟩⟩
   ·intro D V wx hD hanc hdesc hin hWR;have hA:=hWR.lo hD (hdesc 4 (by kernel_rfl))
    have e8:V 8=u3:=(hanc 0 (by kernel_rfl)).2
    have e10:=(hanc 2 (by kernel_rfl)).2
    refine opK ?_;intro K hK;obtain⟨a,c,e10,hR,hN,hF⟩:=e10;have e10:V 10=_:=e10;refine vS (.tmp 8) (.tmp 10) 32 rfl (w.heap.size+3) 46 (.agg #[.int .i64 0,.int .i64 0,.int .i64 0,.int .i64 0]) 4 32 Tryz.underlying32 (by kernel_rfl) rfl (by decide) u3 _ _ e8 (iB hrow hA) _ _ _ (lM (Geo.edges xr)) e10 (zQ _) hR hN (aAt _) (by omega) (by omega) (by have:=hA.size;omega) ?_
    intro v' w' h1 h2 h3 h4;have hbx:=(Blk.then_ b3 hA);have hbr:=(Blk.then_ b4 hA);have hro:=iB hrow hA;refine hK _ _ ⟨by rw[Nh];exact h1,.mkMid (hdesc 4 (by kernel_rfl)) (by decide) ⟨oB h3 hbx (yZ hro (by omega)),oB h3 hbr (yZ hro (by omega)),(hb.trans (hA.mono hb.size)).trans (h2.mono (by omega)),(qR hA).trans (Kl hro h3),((Below.refl w.heap.size W).trans (hA.mono hb.size)).trans (h2.mono (by omega)),by have:=hA.size;have:=h2.size;omega⟩,.inr (.inr ?_)⟩
    intro j hj hf;match j with
    |0=>exact hf
    |1=>exact hf
    |2=>obtain⟨a,c,g1,g2,g3,g4⟩:=hf;exact⟨a,c,g1,g2.grown g4 (fun k hk=>(gE hrow k hk).2) h3,g3,g4⟩
    |3=>exact absurd (hj.symm.trans hD) (by decide)
    |4=>exact absurd (hj.symm.trans (hdesc 4 (by kernel_rfl))) (by decide)
    |_+5=>exact trivial
   ·intro D V wx hD hanc hdesc hin hWR;have hB:=hWR.mid (hanc 3 (by kernel_rfl)).1 hD
    have e3:=hin 3 (by kernel_rfl)
    simp at e3;have e11:=(hanc 3 (by kernel_rfl)).2
    refine opK ?_;intro K hK;have q0:=hB.1.cell 0;have f0:=hB.1.frozen 0;simp at q0;have e11:wx.ownsRow (w.heap.size+3) 46 4 (V 11) (E.length+(Geo.edges xr).length) (lM (E++Geo.edges xr)):=e11;have e3:V 3=_:=e3;obtain⟨ra,rc,hv11,_,_,_⟩:=Rd.Tk e11;rw[hv11]at e11;simp[cC,execOp,bI,e3,hv11,q0,f0,go_sem];refine hK _ _ ⟨trivial,.mkHi ⟨_,by simpa using hB.1.rE 0 (.slice ra (E.length+(Geo.edges xr).length) rc),qQ e11 (by show w.heap.size+1<w.heap.size+3;omega),hB.2.1.far (by simp) _,hB.2.2.1.setCell (p:=⟨w.heap.size+1,0,none⟩) (by simp) _,hB.2.2.2.1.trans (KeepsOthers.setCell _ _ _),hB.2.2.2.2.1.setCell (p:=⟨w.heap.size+1,0,none⟩) (by simp) _,by simpa using hB.2.2.2.2.2⟩,.inr (.inr ?_)⟩
    intro j hj hf;match j with
    |0=>exact hf
    |1=>exact hf
    |2=>obtain⟨a,c,g1,g2,g3,g4⟩:=hf;exact⟨a,c,g1,g2.rE g4 b3.lt,g3,g4⟩
    |3=>exact qQ hf (by show w.heap.size+1<_;omega)
    |4=>exact absurd (hj.symm.trans hD) (by decide)
    |_+5=>exact trivial
  intro D V wx hall hf hWR;replace hWR:=hWR.hi (hall 4 (by decide))
  have f0:V 8=u3:=hf 0 (by decide)
  have f1:V 9= .slice xa xr.length xc:=hf 1 (by decide)
  have f2:=hf 2 (by decide)
  have f3:=hf 3 (by decide)
  clear hf hall;simp only[eL,List.foldl_cons,List.foldl_nil,f0,f1];simp only[Act.put,List.setIfInBounds_toArray,List.set_cons_succ,List.set_cons_zero];clear f0 f1;obtain⟨v',k1,k2,k3,k4,k5,k6,k7⟩:=hWR;refine⟨k5,⟨k6,Eq.trans k3 (Eq.symm b4)⟩,⟨k3,v',k1,?_⟩,k7,k4⟩;rw[HE.out,List.length_append];exact k2
end Go.Proofs.YtdaeofhdgabhjaaGreat
namespace Go.Proofs.YtdaeofhdgabhjaaGreat
open Go.RowKit Go.Shelf
set_option maxRecDepth 100000
attribute [local go_sem] Oper.semAt_some
set_option maxHeartbeats 2000000 in
theorem aAH(a:Option Addr)(c:Nat)(xs:List Geo.V)(w:World)(h:RdV w a xs)(hl:xs.length<=1000):
  Calls Tryz.prog 125 #[.slice a xs.length c] w fun e w'=>∃a' c',e= .returned (.slice a' xs.length c')/\Rd w' a' (mK xs)/\nS w.heap.size a'/\(a'=none->c'=0)/\xs.length<=c'/\Below w.heap.size w w':=by
 have hq:∀(w:World) (a:Option Addr) (n c n' c':Nat),(binOp .eql 23 (.slice a n c) (.slice none n' c')).run Tryz.prog w= .ok (.bool a.isNone) w:=fun w a n c n' c'=>Lib.run_eql_slice_nil w _ _ a n c n' c' Tryz.underlying23
 cases a with
 |none=>
  have h0:xs.length=0:=by
   rcases Nat.eq_zero_or_pos xs.length with h0|h0
   ·exact h0
   ·obtain⟨b,off,he,_⟩:=h 0 h0;cases he
  have hx:xs=[] :=List.length_eq_zero_iff.1 h0;subst hx
  go_enter Tryz.func125,Tryz.ntmps125
  go_wp2
  go_ret
  exact⟨none,0,rfl,(fun i u hi=>by simp[mK]at hi),(fun b hb=>by cases hb),(fun _=>rfl),Nat.le_refl _,Below.refl _ _⟩
 |some ad=>
  go_enter Tryz.func125,Tryz.ntmps125
  go_upto_region 3 with fail
  refine Mv [2,5,6,7] [[],[],[0,1],[0,1,2]] (by kernel_rfl) (by kernel_rfl) (by intro s hs;simp at hs|-;omega)
   (WR3 0 2 (fun wx=>wx=w) (fun wx=>Blk wx w.heap.size 44 #[]/\Below w.heap.size w wx) (fun wx=>Below w.heap.size w wx))
   (fun i v wx=>match i with
     |0=>v= .slice (some ⟨w.heap.size,0,none⟩) 0 0
     |1=>v= .slice (some ad) xs.length c
     |2=>wx.ownsRow w.heap.size 44 2 v (0+xs.length) ([] ++mK xs)
     |3=>wx.ownsRow w.heap.size 44 2 v xs.length (mK xs)
     |_=>True)
   (WR3.start rfl) ?_ ?_ ?_
  ·intro j v wx wy hf hxy;match j with
   |0=>exact hf
   |1=>exact hf
   |2=>exact iB hf hxy
   |3=>exact iB hf hxy
   |_+4=>exact trivial
  ·refine⟨?_,?_,?_,?_,trivial⟩
   ·intro D V wx hD hanc hdesc hin hWR;have hA:=hWR.lo hD (hdesc 2 (by kernel_rfl))
    rw[hA];refine opK ?_;intro K hK;simp[cC,execOp,bI,go_sem];exact hK _ _ ⟨rfl,.mkMid (hdesc 2 (by kernel_rfl)) (by decide) ⟨Blk.new _ _ _,(Below.refl _ _).alloc (Nat.le_refl _) _⟩,.inr (.inl ((Below.refl _ _).alloc (Nat.le_refl _) _))⟩
   ·intro D V wx hD hanc hdesc hin hWR;have e0:=hin 0 (by kernel_rfl)
    simp at e0;refine opK ?_;intro K hK;simp[cC,execOp,bI,e0,go_sem];exact hK _ _ ⟨rfl,(hWR.keep (by decide) (by decide)),.inl rfl⟩
   ·intro D V wx hD hanc hdesc hin hWR;have hB:=hWR.mid (hanc 0 (by kernel_rfl)).1 hD
    have e5:V 5= .slice (some ⟨w.heap.size,0,none⟩) 0 0:=(hanc 0 (by kernel_rfl)).2
    have e6:V 6= .slice (some ad) xs.length c:=(hanc 1 (by kernel_rfl)).2
    refine opK ?_;intro K hK;have hrow:wx.ownsRow w.heap.size 44 2 (.slice (some ⟨w.heap.size,0,none⟩) 0 0) 0 [] :=⟨rfl,.inr ⟨_,0, #[],rfl,Nat.le_refl _,hB.1,Nat.le_refl _,by simp,by simp,by simp⟩⟩
    refine vS (.tmp 5) (.tmp 6) 23 rfl w.heap.size 44 (.agg #[.int .i64 0,.int .i64 0]) 2 16 Tryz.underlying23 (by kernel_rfl) rfl (by decide) _ _ _ e5 hrow _ _ _ (mK xs) e6 (oP _) (h.below hB.2).rd (fun h=>by cases h) (aAs _) (by omega) (by omega) hB.2.size ?_
    intro v' w' h1 h2 h3 h4;refine hK _ _ ⟨h1,.mkHi (hB.2.trans h2),.inr (.inr ?_)⟩;intro j hj hf;match j with
    |0=>exact hf
    |1=>exact hf
    |2=>exact absurd (hj.symm.trans hD) (by decide)
    |3=>exact absurd (hj.symm.trans (hdesc 3 (by kernel_rfl))) (by decide)
    |_+4=>exact trivial
   ·intro D V wx hD hanc hdesc hin hWR;have e7:=(hanc 2 (by kernel_rfl)).2
    refine opK ?_;intro K hK;simp[cC,execOp,bI,go_sem];rw[Nat.zero_add,List.nil_append]at e7;exact hK _ _ ⟨e7,(hWR.keep (by decide) (by decide)),.inl rfl⟩
  intro D V wx hall hf hWR;replace hWR:=hWR.hi (hall 2 (by decide))
  have f0:V 5= .slice (some ⟨w.heap.size,0,none⟩) 0 0:=hf 0 (by decide)
  have f1:V 6= .slice (some ad) xs.length c:=hf 1 (by decide)
  have f2:=hf 2 (by decide)
  have f3:=hf 3 (by decide)
  clear hf hall;simp only[eL,List.foldl_cons,List.foldl_nil,f0,f1];simp only[Act.put,List.setIfInBounds_toArray,List.set_cons_succ,List.set_cons_zero];clear f0 f1
  go_wp2
  go_ret
  obtain⟨a',c',hv,k1,k2,k3,k4⟩:=Rd.Ly f3;have hv:V 2=_:=hv;exact⟨a',c',by simp[hv],k1,k2,k3,k4,hWR⟩
theorem RdV.grown{w w':World}{a:Option Addr}{xs:List Geo.V}{row:Option Nat}(h:RdV w a xs)(hr:0<xs.length->∀b,a=some b->row≠some b.block)(hg:w.grownBy w' row):RdV w' a xs:=by
 intro i hi;obtain⟨b,off,rfl,hb,h0,h1⟩:=h i hi;have e:=hg.block b hb (fun e=>hr (by omega) _ rfl e.symm)
 exact⟨b,off,rfl,Nat.lt_of_lt_of_le hb hg.size,(World.cell?_of_block (a:=⟨b,_,none⟩) e).trans h0,(World.cell?_of_block (a:=⟨b,_,none⟩) e).trans h1⟩
theorem RdV.rE{w:World}{a:Option Addr}{xs:List Geo.V}{p:Addr}{u:Value}(h:RdV w a xs)(hp:0<xs.length->∀b,a=some b->p.block≠b.block):RdV (w.setCell p u) a xs:=by
 intro i hi;obtain⟨b,off,rfl,hb,h0,h1⟩:=h i hi;have e:=Below.heap_setCell w p u b (fun e=>hp (by omega) _ rfl (by simpa using e.symm))
 exact⟨b,off,rfl,by simpa using hb,(World.cell?_of_block (a:=⟨b,_,none⟩) e).trans h0,(World.cell?_of_block (a:=⟨b,_,none⟩) e).trans h1⟩
theorem RdV.own{W W':World}{a:Option Addr}{xs:List Geo.V}{row:Option Nat}(h:RdV W a xs)(hg:W.grownBy W' row)(hr:∀r,row=some r->∃o:Obj,W.heap[r]? =some o/\o.isCells=false):RdV W' a xs:=by
 intro i hi;obtain⟨b,off,rfl,hb,h0,h1⟩:=h i hi;exact⟨b,off,rfl,Nat.lt_of_lt_of_le hb hg.size,cell_kept h0 hg hr,cell_kept h1 hg hr⟩
theorem RdV.lt{w:World}{a:Option Addr}{xs:List Geo.V}(h:RdV w a xs)(h0:0<xs.length):∀b,a=some b->b.block<w.heap.size:=by
 intro b e;obtain⟨b',off,he,hb,_⟩:=h 0 h0;rw[e]at he;cases he;exact hb
structure RingOk(base:Nat)(w:World)(v:Value)(x:RV):Prop where
 rd:RdV w x.a x.r
 fresh:nS base x.a
 cap:x.r.length<=x.c
 len:x.r.length<=1000
 sep:0<x.r.length->∀b,x.a=some b->v.ownBlock≠some b.block
structure Rings(base bx:Nat)(w:World)(v:Value)(rs:List RV):Prop where
 box:Blk w bx 24 #[v]
 row:w.ownsRow base 23 1 v rs.length (rs.map RV.enc)
 ok:∀x∈rs,RingOk base w v x
theorem Zr{β:Type}{B base bx:Nat}{p:β->List RV->Prop}:OwnFrom B (fun(s:β) W=>∃v rs,Rings base bx W v rs/\p s rs):=fun s W W' row ⟨v,rs,h,hp⟩ hg hr=>
 ⟨v,rs,⟨mO (cs:=fun _:β=> #[v]) s W W' row h.box hg hr,uP h.row hg (fun r e=>(hr r e).2),fun x hx=>⟨(h.ok x hx).rd.own hg (fun r e=>(hr r e).2),(h.ok x hx).fresh,(h.ok x hx).cap,(h.ok x hx).len,(h.ok x hx).sep⟩⟩,hp⟩
set_option maxHeartbeats 2000000 in
theorem Hl(o:RV)(ah:Option Addr)(ch:Nat)(hs:List RV)(w:World)(H:RdSh w o ah hs):
  Calls Tryz.prog 56 #[.agg #[RV.enc o,.slice ah hs.length ch]] w fun e w'=>∃(v:Value) (rs:List RV),e= .returned v/\rs.map RV.r=Geo.aG (kB o hs)/\w'.ownsRow w.heap.size 23 1 v rs.length (rs.map RV.enc)/\(∀x∈rs,RingOk w.heap.size w' v x)/\Below w.heap.size w w':=by
 refine(callsIn_wide (n:=9)).1 (callsIn_of_wp_marks Tryz.func56 rfl trivial ((wpIn_wide (n:=9)).2 ?_) rfl);simp only[Tryz.ntmps56,List.size_toArray,List.length_cons,List.length_nil,Nat.reduceAdd,Nat.reduceSub,Array.replicate_succ,Array.replicate_zero,List.push_toArray,List.append_toArray,List.nil_append,List.cons_append];dsimp only[RV.enc]
 go_wp2_with fail
 refine(vQ o ah hs.length ch _).mono ?_;rintro e w1 ⟨rfl,rfl⟩
 go_wp2_with fail
 have B3:=(Blk.new (w.alloc (.cells #[.slice o.a o.r.length o.c,.slice ah hs.length ch] 26)) 24 #[.slice none 0 0]).alloc (.cells #[RV.enc o,.slice ah hs.length ch] 26);have B4:=Blk.new ((w.alloc (.cells #[.slice o.a o.r.length o.c,.slice ah hs.length ch] 26)).alloc (.cells #[.slice none 0 0] 24)) 26 #[RV.enc o,.slice ah hs.length ch];have hBW:Below w.heap.size w ((((w.alloc (.cells #[.slice o.a o.r.length o.c,.slice ah hs.length ch] 26)).alloc (.cells #[.slice none 0 0] 24))).alloc (.cells #[RV.enc o,.slice ah hs.length ch] 26)):=(((Below.refl _ _).alloc (Nat.le_refl _) _).alloc (by simp) _).alloc (by simp;omega) _
 have hs0:w.heap.size+3=((((w.alloc (.cells #[.slice o.a o.r.length o.c,.slice ah hs.length ch] 26)).alloc (.cells #[.slice none 0 0] 24))).alloc (.cells #[RV.enc o,.slice ah hs.length ch] 26)).heap.size:=by simp
 simp only[World.size_alloc]at B3 B4;generalize (((w.alloc (.cells #[.slice o.a o.r.length o.c,.slice ah hs.length ch] 26)).alloc (.cells #[.slice none 0 0] 24))).alloc (.cells #[RV.enc o,.slice ah hs.length ch] 26)=W0 at B3 B4 hBW hs0|-;refine(wpIn_wide (n:=9)).1 ?_
 refine' wpIn_rangeFunc_ownF (F:=Fence.wide) (n:=9) rfl (by omega) (gf:=179) (lb:= #[.pointer (some ⟨w.heap.size+1+1,0,none⟩)]) rfl trivial (enters_of Tryz.func179 (by kernel_rfl) rfl)
  (oM Fence.wide 8 trivial rfl (by omega) (w.heap.size+1+1) w.heap.size o ah ch hs H.n W0 (by omega) B4 (H.h.below hBW)) Kp2.trans (Wg (by omega) (by omega)) (Below.refl _ _) (fun _=>rfl)
  (fun pre W=>(Blk W (w.heap.size+1+1) 26 #[RV.enc o,.slice ah hs.length ch]/\∃v rs,Rings (w.heap.size+3) (w.heap.size+1) W v rs/\rs.map RV.r=pre.map fun x=>x.1.r)/\(w.heap.size+3<=W.heap.size/\Below w.heap.size w W))
  (fun c pre W=>False/\False)
  (OwnFrom.and (OwnFrom.and mO Zr) (OwnFrom.and (fun s A B row h hg _=>Nat.le_trans h hg.size) (ownFrom_below (Nat.le_refl _) (by omega))))
  (fun c=>OwnFrom.and uC uC)
  ⟨⟨B4,_,[],⟨B3,World.ownsRow_nil _ _ _ _,fun x hx=>by cases hx⟩,rfl⟩,by omega,hBW⟩ _ ?assign ?body ?done ?stop
 case assign=>
  intro l x W K hK;dsimp only[RV.enc]
  gi_wp2
  exact hK
 case stop=>
  rintro D c pre W hD hpre ⟨h,_⟩ hK;exact h.elim
 case done=>
  rintro D xs W hD hxs ⟨⟨b4,v,rs,hR,hm⟩,_,hb⟩ hK;have c3:=hR.box.cell 0;simp at c3;have hD2:w.heap.size<=D:=by omega
  have hm2:rs.map RV.r=Geo.aG (kB o hs):=by
   have e:(xs.map fun x=>x.1.r)=(xs.map (·.1)).map RV.r:=by rw[List.map_map];rfl
   rw[hm,e,hxs];rfl
  clear hxs b4 B3 B4 hBW hs0 hD hm;have hmk:∀x∈rs,RingOk w.heap.size (W.putObj D (.deferred none)) v x:=fun x hx=>⟨(hR.ok x hx).rd.own (grownBy_putObj' W D _) (fun r e=>by cases e;exact⟨_,hK,rfl⟩),(hR.ok x hx).fresh.mono (by omega),(hR.ok x hx).cap,(hR.ok x hx).len,(hR.ok x hx).sep⟩
  have hrow:=hR.row;clear hR
  go_wp2
  exact An (v:=v) rfl rfl hK ⟨v,rs,rfl,hm2,zO (zN hrow hK _) (by omega),hmk,hb.trans (gR hD2 hK)⟩
 case body=>
  rintro l pre ⟨⟨xa,xc,xr⟩,hxm⟩ W ⟨⟨b4,u3,rs,hR,hm⟩,hsz,hb⟩ hlen;obtain⟨hxr,hxl⟩:=H.v _ hxm;dsimp only at hxr hxl;have hxn:xr.length<=1000:=hxl.1;have hrl:rs.length<=1001:=by have h1:=congrArg List.length hm;have h2:=H.n;simp at h1;omega
  have HE:Hid (∀rs':List RV,rs'.map RV.r=rs.map RV.r++[xr]->rs'.map RV.r=(pre++[(⟨⟨xa,xc,xr⟩,hxm⟩:Mem o hs)]).map fun x=>x.1.r):=Lib.hid (fun rs' h=>by rw[h,hm];simp)
  have b3:=hR.box;have hrow:=hR.row;clear hm B3 B4 hBW hs0;refine wpIn_block ?_;dsimp only[RV.enc];refine rB (by kernel_rfl) (by kernel_rfl) [8,9,10,11,12] [[],[],[1],[1,2],[0,1,2,3],[0,1,2,3,4]] (by kernel_rfl) (by kernel_rfl) (by intro s hs;simp at hs|-;omega)
   (WR3 4 5 (fun wx=>Below W.heap.size W wx) (fun wx=>(∀x∈rs,RdV wx x.a x.r)/\Blk wx (w.heap.size+1) 24 #[u3]/\Blk wx (w.heap.size+1+1) 26 #[RV.enc o,.slice ah hs.length ch]/\Below w.heap.size w wx/\KeepsOthers W wx/\Below w.heap.size W wx/\w.heap.size+3<=wx.heap.size) (fun wx=>∃v rs',Rings (w.heap.size+3) (w.heap.size+1) wx v rs'/\rs'.map RV.r=rs.map RV.r++[xr]/\Blk wx (w.heap.size+1+1) 26 #[RV.enc o,.slice ah hs.length ch]/\Below w.heap.size w wx/\KeepsOthers W wx/\Below w.heap.size W wx/\w.heap.size+3<=wx.heap.size))
   (fun i v wx=>match i with
     |0=>v=u3
     |1=>v= .slice xa xr.length xc
     |2=>∃a c,v= .slice a xr.length c/\RdV wx a xr/\nS W.heap.size a/\xr.length<=c
     |3=>∃a c g,v= .slice (some ⟨g,0,none⟩) 1 1/\Blk wx g 23 #[.slice a xr.length c]/\W.heap.size<=g/\RdV wx a xr/\nS W.heap.size a/\xr.length<=c
     |4=>∃a c,wx.ownsRow (w.heap.size+3) 23 1 v (rs.length+1) (rs.map RV.enc++[.slice a xr.length c])/\RdV wx a xr/\nS W.heap.size a/\xr.length<=c/\(∀k,v.ownBlock=some k->u3.ownBlock=some k\/W.heap.size<=k)/\(0<xr.length->∀b,a=some b->v.ownBlock≠some b.block)
     |5=>True
     |_=>True)
   (WR3.start (Below.refl _ _).drew) ?_ ?_ ?_
  ·intro j v wx wy hf hxy;match j with
   |0=>exact hf
   |1=>exact hf
   |2=>obtain⟨a,c,h1,h2,h3⟩:=hf;exact⟨a,c,h1,h2.below hxy,h3⟩
   |3=>obtain⟨a,c,g,h1,h2,h3,h4,h5⟩:=hf;exact⟨a,c,g,h1,h2.then_ hxy,h3,h4.below hxy,h5⟩
   |4=>obtain⟨a,c,h1,h2,h3⟩:=hf;exact⟨a,c,iB h1 hxy,h2.below hxy,h3⟩
   |5=>exact hf
   |_+6=>exact trivial
  ·refine⟨?_,?_,?_,?_,?_,?_,trivial⟩
   ·intro D V wx hD hanc hdesc hin hWR;have hA:=hWR.lo (hdesc 4 (by kernel_rfl)) (hdesc 5 (by kernel_rfl))
    have e3:=hin 3 (by kernel_rfl)
    simp at e3;have q0:=(Blk.then_ b3 hA).cell 0;simp at q0;refine opK ?_;intro K hK;simp[cC,execOp,bI,e3,q0,go_sem];exact hK _ _ ⟨rfl,(hWR.keep (by decide) (by decide)),.inl rfl⟩
   ·intro D V wx hD hanc hdesc hin hWR;have hA:=hWR.lo (hdesc 4 (by kernel_rfl)) (hdesc 5 (by kernel_rfl))
    have e4:=hin 4 (by kernel_rfl)
    simp at e4;refine opK ?_;intro K hK;simp[cC,execOp,bI,e4,go_sem];exact hK _ _ ⟨rfl,(hWR.keep (by decide) (by decide)),.inl rfl⟩
   ·intro D V wx hD hanc hdesc hin hWR;have hA:=hWR.lo (hdesc 4 (by kernel_rfl)) (hdesc 5 (by kernel_rfl))
    have e9:V 9= .slice xa xr.length xc:=(hanc 1 (by kernel_rfl)).2
    refine opK ?_;intro K hK;simp[cC,execOp,bI,e9,go_sem];refine(aAH xa xc xr _ (hxr.below (hb.trans (hA.mono hb.size))) hxl.1).mono ?_;rintro e w1 ⟨a,c,rfl,hR',hF,hN,hC,hc⟩;exact⟨_,rfl,hK _ _ ⟨⟨a,c,rfl,RdV.aMg hR',hF.mono hA.size,hC⟩,(.mkLo (hdesc 4 (by kernel_rfl)) (hdesc 5 (by kernel_rfl)) (by decide) (by decide) (Below.then_ hA hc)),.inr (.inl hc)⟩⟩
   ·intro D V wx hD hanc hdesc hin hWR;have hA:=hWR.lo (hdesc 4 (by kernel_rfl)) (hdesc 5 (by kernel_rfl))
    have e10:=(hanc 2 (by kernel_rfl)).2
    refine opK ?_;intro K hK;obtain⟨a,c,e10,r1,r2,r3⟩:=e10;have e10:V 10=_:=e10;simp[cC,execOp,bI,e10,go_sem];refine hK _ _ ⟨⟨a,c,_,rfl,Blk.new _ _ _,hA.size,r1.below ((Below.refl _ _).alloc (Nat.le_refl _) _),r2,r3⟩,(.mkLo (hdesc 4 (by kernel_rfl)) (hdesc 5 (by kernel_rfl)) (by decide) (by decide) (hA.alloc hA.size _)),.inr (.inl ((Below.refl _ _).alloc (Nat.le_refl _) _))⟩
   ·intro D V wx hD hanc hdesc hin hWR;have hA:=hWR.lo hD (hdesc 5 (by kernel_rfl))
    have e8:V 8=u3:=(hanc 0 (by kernel_rfl)).2
    have e11:=(hanc 3 (by kernel_rfl)).2
    refine opK ?_;intro K hK;obtain⟨a,c,g,e11,k1,k2,k3,k4,k5⟩:=e11;have e11:V 11=_:=e11;refine vS (.tmp 8) (.tmp 11) 24 rfl (w.heap.size+3) 23 (.slice none 0 0) 1 24 Tryz.underlying24 (by kernel_rfl) rfl (by decide) u3 _ _ e8 (iB hrow hA) _ _ _ [.slice a xr.length c] e11 rfl (Rd.aH2 k1) (fun h=>by cases h) (by intro u hu;simp at hu;subst hu;rfl) (by omega) (by omega) (by have:=hA.size;omega) ?_
    intro v' w' h1 h2 h3 h4;have hbx:=(Blk.then_ b3 hA);have hbr:=(Blk.then_ b4 hA);have hro:=iB hrow hA;have hlt:=k3.lt;refine hK _ _ ⟨⟨a,c,h1,k3.grown (fun _ b hb e=>by have:=k4 b hb;have:=(gE hrow _ e).2;omega) h3,k4,k5,(fun k hk=>(h4 k hk).imp id (fun h=>Nat.le_trans hA.size h)),(fun h0 b hb e=>by have:=hlt h0 b hb;have:=k4 b hb;rcases h4 _ e with h|h<;>first|omega|(have:=(gE hrow _ h).2;omega))⟩,.mkMid (hdesc 5 (by kernel_rfl)) (by decide) ⟨(fun x hx=>((hR.ok x hx).rd.below hA).grown (hR.ok x hx).sep h3),oB h3 hbx (yZ hro (by omega)),oB h3 hbr (yZ hro (by omega)),(hb.trans (hA.mono hb.size)).trans (h2.mono (by omega)),(qR hA).trans (Kl hro h3),((Below.refl w.heap.size W).trans (hA.mono hb.size)).trans (h2.mono (by omega)),by have:=hA.size;have:=h2.size;omega⟩,.inr (.inr ?_)⟩
    intro j hj hf;match j with
    |0=>exact hf
    |1=>exact hf
    |2=>obtain⟨a,c,g1,g2,g3,g4⟩:=hf;exact⟨a,c,g1,g2.grown (fun _ b hb e=>by have:=g3 b hb;have:=(gE hrow _ e).2;omega) h3,g3,g4⟩
    |3=>obtain⟨a,c,g,g1,g2,g5,g6,g3,g4⟩:=hf;exact⟨a,c,g,g1,oB h3 g2 (fun e=>by have:=(gE hrow _ e).2;omega),g5,g6.grown (fun _ b hb e=>by have:=g3 b hb;have:=(gE hrow _ e).2;omega) h3,g3,g4⟩
    |4=>exact absurd (hj.symm.trans hD) (by decide)
    |5=>exact absurd (hj.symm.trans (hdesc 5 (by kernel_rfl))) (by decide)
    |_+6=>exact trivial
   ·intro D V wx hD hanc hdesc hin hWR;have hB:=hWR.mid (hanc 4 (by kernel_rfl)).1 hD
    have e3:=hin 3 (by kernel_rfl)
    simp at e3;have e12:=(hanc 4 (by kernel_rfl)).2
    refine opK ?_;intro K hK;have q0:=hB.2.1.cell 0;have f0:=hB.2.1.frozen 0;simp at q0;obtain⟨a,c,e12,k2,k3,k4,k5,k6⟩:=e12;have e12:wx.ownsRow (w.heap.size+3) 23 1 (V 12) (rs.length+1) (rs.map RV.enc++[.slice a xr.length c]):=e12;have e3:V 3=_:=e3;have k5:∀k,(V 12).ownBlock=some k->_:=k5;have k6:0<xr.length->∀b,a=some b->(V 12).ownBlock≠some b.block:=k6;obtain⟨ra,rc,hv,_,_,_⟩:=Rd.Tk e12;rw[hv]at e12 k5 k6;simp[cC,execOp,bI,e3,hv,q0,f0,go_sem];have HRK:∀x∈rs++[(⟨a,c,xr⟩:RV)],RingOk (w.heap.size+3) (wx.setCell ⟨w.heap.size+1,0,none⟩ (.slice ra (rs.length+1) rc)) (.slice ra (rs.length+1) rc) x:=by
     intro x hx;rcases List.mem_append.1 hx with h|h
     ·have ok:=hR.ok x h;refine⟨(hB.1 x h).rE (fun _ b hb=>by have:=ok.fresh b hb;show w.heap.size+1≠_;omega),ok.fresh,ok.cap,ok.len,fun h0 b hb e=> ?_⟩
      rcases k5 _ e with e2|e2
      ·exact ok.sep h0 b hb e2
      ·have:=ok.rd.lt h0 b hb;omega
     ·simp at h;subst h;exact⟨k2.rE (fun _ b hb=>by have:=k3 b hb;have:=b3.lt;show w.heap.size+1≠_;omega),k3.mono hsz,k4,hxn,k6⟩
    refine hK _ _ ⟨trivial,.mkHi ⟨_,rs++[⟨a,c,xr⟩],⟨by simpa using hB.2.1.rE 0 (.slice ra (rs.length+1) rc),by simpa[RV.enc]using qQ e12 (by show w.heap.size+1<w.heap.size+3;omega),HRK⟩,by simp,hB.2.2.1.far (by simp) _,hB.2.2.2.1.setCell (p:=⟨w.heap.size+1,0,none⟩) (by simp) _,hB.2.2.2.2.1.trans (KeepsOthers.setCell _ _ _),hB.2.2.2.2.2.1.setCell (p:=⟨w.heap.size+1,0,none⟩) (by simp) _,by simpa using hB.2.2.2.2.2.2⟩,.inr (.inr ?_)⟩
    intro j hj hf;match j with
    |0=>exact hf
    |1=>exact hf
    |2=>obtain⟨a,c,g1,g2,g3,g4⟩:=hf;exact⟨a,c,g1,g2.rE (fun _ b hb=>by have:=g3 b hb;have:=b3.lt;show w.heap.size+1≠_;omega),g3,g4⟩
    |3=>obtain⟨a,c,g,g1,g2,g5,g6,g3,g4⟩:=hf;exact⟨a,c,g,g1,g2.far (by have:=b3.lt;show g≠w.heap.size+1;omega) _,g5,g6.rE (fun _ b hb=>by have:=g3 b hb;have:=b3.lt;show w.heap.size+1≠_;omega),g3,g4⟩
    |4=>obtain⟨a,c,g1,g2,g3,g4,g5,g6⟩:=hf;exact⟨a,c,qQ g1 (by show w.heap.size+1<_;omega),g2.rE (fun _ b hb=>by have:=g3 b hb;have:=b3.lt;show w.heap.size+1≠_;omega),g3,g4,g5,g6⟩
    |5=>exact absurd (hj.symm.trans hD) (by decide)
    |_+6=>exact trivial
  intro D V wx hall hf hWR;replace hWR:=hWR.hi (hall 5 (by decide))
  have f0:V 8=u3:=hf 0 (by decide)
  have f1:V 9= .slice xa xr.length xc:=hf 1 (by decide)
  have f2:=hf 2 (by decide)
  have f3:=hf 3 (by decide)
  have f4:=hf 4 (by decide)
  clear hf hall;simp only[eL,List.foldl_cons,List.foldl_nil,f0,f1];simp only[Act.put,List.setIfInBounds_toArray,List.set_cons_succ,List.set_cons_zero];clear f0 f1;obtain⟨v',rs',k1,k2,k3,k4,k5,k6,k7⟩:=hWR;exact⟨k5,⟨k6,Eq.trans k3 (Eq.symm b4)⟩,⟨k3,v',rs',k1,HE.out _ k2⟩,k7,k4⟩
end Go.Proofs.YtdaeofhdgabhjaaGreat
namespace Go.Proofs.YtdaeofhdgabhjaaGreat
open Go.RowKit Go.Shelf
attribute [local go_sem] Oper.semAt_some
def pN(s:Geo.Shape):Int:=Geo.area s.outer-(s.holes.map Geo.area).sum
theorem Df{xs:List Geo.V}(h:Geo.cB xs=true): -8000000000<=Geo.area xs/\Geo.area xs<=8000000000:=by
 have V:=(Geo.cL xs).1 h;have h:=Wk V.near xs.length (Nat.le_refl _);have e:ar xs xs.length=Geo.area xs:=rfl;have:=V.most;rw[e]at h;omega
def hZ{o:RV}{hs:List RV}(pre:List (Mem o hs)):Int:=(pre.map fun x=>Geo.area x.1.r).sum
theorem Nm{o:RV}{hs:List RV}(pre:List (Mem o hs))(x:Mem o hs):hZ (pre++[x])=hZ pre+Geo.area x.1.r:=by unfold hZ;simp
theorem Vr{o:RV}{hs:List RV}(hv:∀x∈o::hs,Geo.cB x.r=true)(pre:List (Mem o hs)): -(8000000000*(pre.length:Int))<=hZ pre/\hZ pre<=8000000000*(pre.length:Int):=by
 induction pre with
 |nil=>simp[hZ]
 |cons x l ih=>
  have:=Df (hv x.1 x.2);unfold hZ at*;simp only[List.map_cons,List.sum_cons,List.length_cons];omega
theorem Sh{o:RV}{hs:List RV}{xs:List (Mem o hs)}(h:xs.map (·.1)=o::hs):Geo.area o.r*2-hZ xs=pN (kB o hs):=by
 have e:(xs.map fun x=>Geo.area x.1.r)=(xs.map (·.1)).map fun x=>Geo.area x.r:=by rw[List.map_map];rfl
 unfold hZ pN kB;rw[e,h];simp only[List.map_cons,List.sum_cons,List.map_map,Function.comp_def];omega
theorem Mw{s:Geo.Shape}(h:Geo.bV s=true):∀r∈Geo.aG s,Geo.cB r=true:=by
 rw[nY]at h;simp only[Bool.and_eq_true]at h;exact List.all_eq_true.1 h.1.1.2
set_option maxRecDepth 100000 in
set_option maxHeartbeats 2000000 in
theorem Hw(o:RV)(ah:Option Addr)(ch:Nat)(hs:List RV)(w:World)(H:RdSh w o ah hs)(hch:hs.length<=ch):
  Calls Tryz.prog 90 #[.agg #[RV.enc o,.slice ah hs.length ch]] w fun e w'=>e= .returned (.int .i64 (if Geo.bV (kB o hs)then pN (kB o hs)else 0))/\Below w.heap.size w w':=by
 have HB0:=Blk.new w 26 #[RV.enc o,.slice ah hs.length ch];have hB0:Below w.heap.size w (w.alloc (.cells #[RV.enc o,.slice ah hs.length ch] 26)):=(Below.refl _ _).alloc (Nat.le_refl _) _;cases hv:Geo.bV (kB o hs)with
 |false=>
  refine(callsIn_wide (n:=9)).1 (callsIn_of_wp_marks Tryz.func90 rfl trivial ((wpIn_wide (n:=9)).2 ?_) rfl);simp only[Tryz.ntmps90,List.size_toArray,List.length_cons,List.length_nil,Nat.reduceAdd,Nat.reduceSub,Array.replicate_succ,Array.replicate_zero,List.push_toArray,List.append_toArray,List.nil_append,List.cons_append]
  go_wp2_with fail
  refine(qB o ah ch hs _ (H.below hB0) hch).mono ?_;rintro e w1 ⟨rfl,hb1⟩;rw[hv]
  go_wp2_with fail
  exact Gf (v:= .int .i64 0) (by simp[results,Tryz.f90]) rfl ⟨rfl,hB0.trans (hb1.mono hB0.size)⟩
 |true=>
  have hval:∀x∈o::hs,Geo.cB x.r=true:=fun x hx=>Mw hv x.r (by
   unfold Geo.aG kB;simp only[List.mem_cons]at hx|-;rcases hx with h|h
   ·exact .inl (by rw[h])
   ·exact .inr (List.mem_map.2 ⟨_,h,rfl⟩))
  have hAO:=Df (hval o List.mem_cons_self);have hAO2:(if Geo.cB o.r then Geo.area o.r else 0)=Geo.area o.r:=by rw[hval o List.mem_cons_self];rfl
  refine(callsIn_wide (n:=9)).1 (callsIn_of_wp_marks Tryz.func90 rfl trivial ((wpIn_wide (n:=9)).2 ?_) rfl);simp only[Tryz.ntmps90,List.size_toArray,List.length_cons,List.length_nil,Nat.reduceAdd,Nat.reduceSub,Array.replicate_succ,Array.replicate_zero,List.push_toArray,List.append_toArray,List.nil_append,List.cons_append]
  go_wp2_with fail
  refine(qB o ah ch hs _ (H.below hB0) hch).mono ?_;rintro e w1 ⟨rfl,hb1⟩;rw[hv];have B1:=HB0.then_ hb1;have hB1:=hB0.trans (hb1.mono hB0.size);have hsz1:w.heap.size+1<=w1.heap.size:=by simpa using hb1.size
  clear HB0 hB0 hb1;have c0:=B1.cell 0;have c1:=B1.cell 1;simp at c0 c1
  go_wp2_with fail
  refine(Kk o.a o.c o.r _ ((H.v o List.mem_cons_self).1.below hB1) (H.v o List.mem_cons_self).2).mono ?_;rintro e w2 ⟨rfl,hb2⟩;rw[hAO2];have B2:=B1.then_ hb2;have hB2:=hB1.trans (hb2.mono hB1.size);have hsz2:w.heap.size+1<=w2.heap.size:=Nat.le_trans hsz1 hb2.size;clear B1 hB1 hb2 c0 c1 hsz1 hAO2;generalize hAe:Geo.area o.r=A at hAO;have B2a:=B2.alloc (.cells #[.int .i64 (2*A)] 3);have B3:=Blk.new w2 3 #[.int .i64 (2*A)];have hB2a:=hB2.alloc hB2.size (.cells #[.int .i64 (2*A)] 3);have hsz3:w.heap.size+1<=(w2.alloc (.cells #[.int .i64 (2*A)] 3)).heap.size:=by simp;omega
  have hp3:w2.heap.size<(w2.alloc (.cells #[.int .i64 (2*A)] 3)).heap.size:=by simp
  have c0:=B2a.cell 0;have c1:=B2a.cell 1;simp at c0 c1;obtain⟨p3,hp3e⟩:∃p,p=w2.heap.size:=⟨_,rfl⟩;rw[<-hp3e]at B3 hp3 hsz2
  go_wp2_with fail
  rw[<-hp3e];clear hp3e;generalize w2.alloc (.cells #[.int .i64 (2*A)] 3)=w3 at B2a B3 hB2a hsz3 hp3 c0 c1|-;clear B2 hB2;refine(vQ o ah hs.length ch _).mono ?_;rintro e w4 ⟨rfl,rfl⟩
  go_wp2_with fail
  have B3':=B3.alloc (.cells #[RV.enc o,.slice ah hs.length ch] 26);have B4:=Blk.new w3 26 #[RV.enc o,.slice ah hs.length ch];have hB4:=hB2a.alloc hB2a.size (.cells #[RV.enc o,.slice ah hs.length ch] 26);have hsz4:w3.heap.size<(w3.alloc (.cells #[RV.enc o,.slice ah hs.length ch] 26)).heap.size:=by simp
  obtain⟨p4,hp4e⟩:∃p,p=w3.heap.size:=⟨_,rfl⟩;rw[<-hp4e]at B4 hp3 hsz3 hsz4;rw[<-hp4e];clear hp4e B3 B2a c0 c1 hB2a;generalize w3.alloc (.cells #[RV.enc o,.slice ah hs.length ch] 26)=W0 at B3' B4 hB4 hsz4|-;refine(wpIn_wide (n:=9)).1 ?_
  refine' wpIn_rangeFunc_ownF (F:=Fence.wide) (n:=9) rfl (by omega) (gf:=179) (lb:= #[.pointer (some ⟨p4,0,none⟩)]) rfl trivial (enters_of Tryz.func179 (by kernel_rfl) rfl)
   (oM Fence.wide 8 trivial rfl (by omega) p4 w.heap.size o ah ch hs H.n W0 (by omega) B4 (H.h.below hB4)) Kp2.trans (Wg (by omega) (by omega)) (Below.refl _ _) (fun _=>rfl)
   (fun pre W=>(Blk W p4 26 #[RV.enc o,.slice ah hs.length ch]/\Blk W p3 3 #[.int .i64 (2*A-hZ pre)])/\Below w.heap.size w W)
   (fun c pre W=>False/\False)
   (OwnFrom.and (OwnFrom.and mO mO) (ownFrom_below (Nat.le_refl _) (by omega)))
   (fun c=>OwnFrom.and uC uC)
   ⟨⟨B4,by simpa[hZ]using B3'⟩,hB4⟩ _ ?assign ?body ?done ?stop
  case assign=>
   intro l x W K hK;dsimp only[RV.enc]
   gi_wp2
   exact hK
  case stop=>
   rintro D c pre W hD hpre ⟨h,_⟩ hK;exact h.elim
  case done=>
   rintro D xs W hD hxs ⟨⟨b4,b3⟩,hb⟩ hK;have hres:2*A-hZ xs=pN (kB o hs):=by have:=Sh hxs;rw[hAe]at this;omega
   rw[hres]at b3;have hD2:w.heap.size<=D:=by omega
   clear hxs hres b4 B4 B3' hB4;have c3:=b3.cell 0;simp at c3
   go_wp2
   exact An (v:= .int .i64 (pN (kB o hs))) rfl rfl hK ⟨rfl,hb.trans (gR hD2 hK)⟩
  case body=>
   rintro l pre ⟨⟨xa,xc,xr⟩,hxm⟩ W ⟨⟨b4,b3⟩,hb⟩ hlen;obtain⟨hxr,hxl⟩:=H.v _ hxm;have hvx:=hval _ hxm;have hA:=Df hvx;dsimp only at hxr hxl hvx hA;have HE:Hid (hZ (pre++[(⟨⟨xa,xc,xr⟩,hxm⟩:Mem o hs)])=hZ pre+Geo.area xr):=Lib.hid (Nm _ _);have hbd:=Vr hval pre;have hN:=H.n;have hX2:(if Geo.cB xr then Geo.area xr else 0)=Geo.area xr:=by rw[hvx];rfl
   have hwrap:IntKind.i64.wrap (2*A-hZ pre-Geo.area xr)=2*A-hZ pre-Geo.area xr:=IntWalk.i64_in _ ⟨by omega,by omega⟩
   generalize hZ pre=S at HE hbd b3 hwrap;have hX:=Lib.hid hX2;clear hX2 hvx hval B4 B3' hB4;refine wpIn_block ?_;dsimp only[RV.enc];refine rB (by kernel_rfl) (by kernel_rfl) [15,16,17,18] [[],[],[1],[0,1,2],[0,1,2,3]] (by kernel_rfl) (by kernel_rfl) (by intro s hs;simp at hs|-;omega)
    (WR2 4 (fun wx=>Below W.heap.size W wx) (fun wx=>Blk wx p3 3 #[.int .i64 (2*A-S-Geo.area xr)]/\Blk wx p4 26 #[RV.enc o,.slice ah hs.length ch]/\Below w.heap.size w wx/\KeepsOthers W wx/\Below w.heap.size W wx))
    (fun i v wx=>match i with
      |0=>v= .int .i64 (2*A-S)
      |1=>v= .slice xa xr.length xc
      |2=>v= .int .i64 (Geo.area xr)
      |3=>v= .int .i64 (2*A-S-Geo.area xr)
      |4=>True
      |_=>True)
    (WR2.start (Below.refl _ _).drew) ?_ ?_ ?_
   ·intro j v wx wy hf hxy;match j with
    |0=>exact hf
    |1=>exact hf
    |2=>exact hf
    |3=>exact hf
    |4=>exact hf
    |_+5=>exact trivial
   ·refine⟨?_,?_,?_,?_,?_,trivial⟩
    ·intro D V wx hD hanc hdesc hin hWR;have hA:=hWR.lo (hdesc 4 (by kernel_rfl))
     have e3:=hin 3 (by kernel_rfl)
     simp at e3;have q0:=(Blk.then_ b3 hA).cell 0;simp at q0;refine opK ?_;intro K hK;simp[cC,execOp,bI,e3,q0,go_sem];exact hK _ _ ⟨rfl,(hWR.keep (by decide)),.inl rfl⟩
    ·intro D V wx hD hanc hdesc hin hWR;have hA:=hWR.lo (hdesc 4 (by kernel_rfl))
     have e4:=hin 4 (by kernel_rfl)
     simp at e4;refine opK ?_;intro K hK;simp[cC,execOp,bI,e4,go_sem];exact hK _ _ ⟨rfl,(hWR.keep (by decide)),.inl rfl⟩
    ·intro D V wx hD hanc hdesc hin hWR;have hA:=hWR.lo (hdesc 4 (by kernel_rfl))
     have e16:V 16= .slice xa xr.length xc:=(hanc 1 (by kernel_rfl)).2
     refine opK ?_;intro K hK;simp[cC,execOp,bI,e16,go_sem];refine(Kk xa xc xr _ (hxr.below (hb.trans (hA.mono hb.size))) hxl).mono ?_;rintro e w1 ⟨rfl,hc⟩;rw[hX.out];exact⟨_,rfl,hK _ _ ⟨rfl,(.mkLo (hdesc 4 (by kernel_rfl)) (by decide) (Below.then_ hA hc)),.inr (.inl hc)⟩⟩
    ·intro D V wx hD hanc hdesc hin hWR;have hA:=hWR.lo (hdesc 4 (by kernel_rfl))
     have e15:V 15= .int .i64 (2*A-S):=(hanc 0 (by kernel_rfl)).2
     have e17:V 17= .int .i64 (Geo.area xr):=(hanc 2 (by kernel_rfl)).2
     refine opK ?_;intro K hK;simp[cC,execOp,bI,e15,e17,hwrap,go_sem];exact hK _ _ ⟨rfl,(hWR.keep (by decide)),.inl rfl⟩
    ·intro D V wx hD hanc hdesc hin hWR;have hA:=hWR.lo hD;have e3:=hin 3 (by kernel_rfl)
     simp at e3;have e18:V 18= .int .i64 (2*A-S-Geo.area xr):=(hanc 3 (by kernel_rfl)).2
     refine opK ?_;intro K hK;have q0:=(Blk.then_ b3 hA).cell 0;have f0:=(Blk.then_ b3 hA).frozen 0;simp at q0;simp[cC,execOp,bI,e3,e18,q0,f0,go_sem];refine hK _ _ ⟨trivial,.mkHi ⟨by simpa using(Blk.then_ b3 hA).rE 0 (.int .i64 (2*A-S-Geo.area xr)),(Blk.then_ b4 hA).far (by show p4≠p3;omega) _,(hb.trans (hA.mono hb.size)).setCell (p:=⟨p3,0,none⟩) (by show w.heap.size<=p3;omega) _,(qR hA).trans (KeepsOthers.setCell _ _ _),((Below.refl w.heap.size W).trans (hA.mono hb.size)).setCell (p:=⟨p3,0,none⟩) (by show w.heap.size<=p3;omega) _⟩,.inr (.inr ?_)⟩
     intro j hj hf;match j with
     |0=>exact hf
     |1=>exact hf
     |2=>exact hf
     |3=>exact hf
     |4=>exact absurd (hj.symm.trans hD) (by decide)
     |_+5=>exact trivial
   intro D V wx hall hf hWR;replace hWR:=hWR.hi (hall 4 (by decide))
   have f0:V 15= .int .i64 (2*A-S):=hf 0 (by decide)
   have f1:V 16= .slice xa xr.length xc:=hf 1 (by decide)
   have f2:V 17= .int .i64 (Geo.area xr):=hf 2 (by decide)
   have f3:V 18= .int .i64 (2*A-S-Geo.area xr):=hf 3 (by decide)
   clear hf hall;simp only[eL,List.foldl_cons,List.foldl_nil,f0,f1,f2,f3];simp only[Act.put,List.setIfInBounds_toArray,List.set_cons_succ,List.set_cons_zero];clear f0 f1 f2 f3;obtain⟨k1,k2,k3,k4,k5⟩:=hWR;refine⟨k4,⟨k5,Eq.trans k2 (Eq.symm b4)⟩,⟨k2,?_⟩,k3⟩;rw[HE.out,show 2*A-(S+Geo.area xr)=2*A-S-Geo.area xr by omega]
   exact k1
end Go.Proofs.YtdaeofhdgabhjaaGreat
