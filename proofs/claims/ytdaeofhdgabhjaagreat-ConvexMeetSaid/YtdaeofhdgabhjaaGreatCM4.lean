/- What the statements about triangulations stand on: contracts of functions, plain laws. Part 4 of 5, no condition of its own. (K11 K12 E16 J2 J3 J4 J5 J6 J7 J8 Shelf J9 J10 J11 J12 K13 K14 K26 N0 N00 L2 K27) -/
import Derived.Test.YtdaeofhdgabhjaaGreatCM3
import Derived.OrdersIn
import Derived.RangeFuncCalls
import Derived.TacticsIn
import Derived.RangeFuncNested
import Derived.RangeFuncBound
import Derived.RangeFuncLeaves
import Derived.RangeFuncFrom
import Derived.Shelf.Abstract
import Derived.OwnWalkIn
import Derived.TacticsInMore
import Derived.LoopNIn
import Derived.LoopIn
import Derived.Lib.SliceRun
import Derived.Deep.DeepCutAuto
import Derived.Shelf.SlSortCmp.NoneTotal
import Derived.Ground.SlsfProg
import Derived.Test.YtdaeofhdgabhjaaGreatProg
import Derived.WalkKit
import Derived.Below
import Derived.Calls
namespace Go.Proofs.YtdaeofhdgabhjaaGreat
open Go.RowKit
set_option maxRecDepth 100000
noncomputable section
open Geo (nth aB)
def aPt:Ar Geo.Pt where
 enc p:= .pro [.int .i64 p.x,.int .i64 p.y,.int .i64 p.den] 0
 dec s:=match s with
  | .pro [.int .i64 x,.int .i64 y,.int .i64 z] 0=>some ⟨x,y,z⟩
  |_=>none
 ok s a h:=by(split at h<;>cases h;rfl)
 pl _:=⟨_,rfl⟩
def jPU(key:Nat)(I:List Prop)(u:Frm):Nat×Ann:=(key+10000,.mk Unit (fun _ _=>some ()) [] (fun _=>I) (fun _=>u) (fun _=>[]) (fun _=>0) (fun _=>[]))
def Xs(p:Geo.Pt)(l:List Geo.S):Bool:=l.foldl (fun b s=>b !=Geo.qO s p) false
theorem Wa{p:Geo.Pt}{l:List Geo.S}{k:Nat}(h:k<l.length):Xs p (l.take (k+1))=(Xs p (l.take k) !=Geo.qO (bK l k) p):=by
 unfold Xs;rw[List.take_add_one,List.getElem?_eq_getElem h,List.foldl_append,lW h];rfl
theorem Lk{p:Geo.Pt}:∀{l:List Geo.S} {k:Nat} (ins:Bool),k<l.length->(∀j,j<k->Geo.onP (bK l j) p=false)->Geo.onP (bK l k) p=true->Geo.jA p l ins=1
 |[],k,ins,h,_,_=>by simp at h
 |s::l,0,ins,h,_,h2=>by
  unfold Geo.jA;rw[show Geo.onP s p=true from h2];rfl
 |s::l,k+1,ins,h,h1,h2=>by
  unfold Geo.jA;rw[show Geo.onP s p=false from h1 0 (by omega)]
  exact Lk (l:=l) (k:=k) _ (by simpa using h) (fun j hj=>h1 (j+1) (by omega)) h2
theorem Fv{p:Geo.Pt}:∀{l:List Geo.S} (ins:Bool),(∀j,j<l.length->Geo.onP (bK l j) p=false)->Geo.jA p l ins=if l.foldl (fun b s=>b !=Geo.qO s p) ins=true then 2 else 0
 |[],ins,_=>rfl
 |s::l,ins,h1=>by
  unfold Geo.jA;rw[show Geo.onP s p=false from h1 0 (by simp)]
  exact Fv (l:=l) _ (fun j hj=>h1 (j+1) (by simpa using hj))
def pb(r:Geo.aH)(p:Geo.Pt)(k:Nat):Bool:=Xs p ((Geo.aD r).take k)
theorem aBi{r:Geo.aH}(h:Geo.cI r=true){j:Nat}(hj:j<(Geo.aD r).length):bd 2000 (bK (Geo.aD r) j).a/\bd 2000 (bK (Geo.aD r) j).b:=aCy (by rw[<-Geo.oR];exact h) hj
def cOK(a b:Geo.V):Prop:=(-4000000000000000000<=a.x*b.y/\a.x*b.y<=4000000000000000000)/\(-4000000000000000000<=a.y*b.x/\a.y*b.x<=4000000000000000000)
def aEi:Con:=con (ac aV (a1 aV)) (fun(a,b)=>[cOK a b]) (fun(a,b)=> .int .i64 (Geo.cross a b)
 )
theorem aJn:aEi.Ok Tryz.prog 111:=bF (bP aFG) (raw:=bR) (fun(_,_)=>[]) (fun(_,_)=>⟨_,rfl⟩) fun(a,b) hp=>bQ (q:=aK (a.x*b.y)/\aK (a.y*b.x)/\aK (a.x*b.y-a.y*b.x)/\a.x*b.y-a.y*b.x=Geo.cross a b) (by kernel_rfl) (by
 change cOK a b at hp;unfold cOK at hp;exact⟨cW (by omega),cW (by omega),cW (by omega),rfl⟩)
def aDT:Tab:=cJ [(111,aEi)] t83
theorem Zl:aDT.Ok Tryz.prog:=aR aFG ⟨aJn,trivial⟩
def aHW:Con:=con (ac aV (a1 aPt)) (fun(v,p)=>[PtB p,bd 10000 v]) (fun(v,p)=>aV.enc (Geo.toV p v)
 )
theorem aKs:aHW.Ok Tryz.prog 186:=bF (bP Zl) (raw:=bR) (fun(_,_)=>[]) (fun(_,_)=>⟨_,rfl⟩) fun(v,p) hp=>bQ (q:=aK (v.x*p.den)/\aK (p.x-v.x*p.den)/\aK (v.y*p.den)/\aK (p.y-v.y*p.den)/\p.x-v.x*p.den=(Geo.toV p v).x/\p.y-v.y*p.den=(Geo.toV p v).y) (by kernel_rfl) (by
 change PtB p/\bd 10000 v at hp;have h:=hp.1.off hp.2;have h2:(-600000000000<=p.x/\p.x<=600000000000)/\(-600000000000<=p.y/\p.y<=600000000000):=hp.1.2;exact⟨cW (by omega),cW (by omega),cW (by omega),cW (by omega),rfl,rfl⟩)
def aGj:Tab:=cJ [(186,aHW)] aDT
theorem aC6:aGj.Ok Tryz.prog:=aR Zl ⟨aKs,trivial⟩
def aIn:Con:=con (ac (aL .V) (a1 aT)) (fun(r,_)=>[r.length<=1000]) (fun(r,p)=> .int .i64 (Geo.cC r p))
theorem aKT:aIn.Ok Tryz.prog 140:=bF (bP aC6) (raw:=bR) (fun(r,p)=>[jP 3 [Geo.cI r=true,Geo.eH p=true],lp 6 25 (Geo.aD r).length (fun k=>[bE (fun j=>Geo.onP (nE r j) p=false) k]) [] (fun k=>[(6,.bool (pb r p k))]) (fun _=>[]) fun k=>[jb 11 77 (Geo.onP (nE r k) p),jb 14 91 (Geo.qO (nE r k) p),jPU 15 [Geo.onP (nE r k) p=false] [(6,.bool (pb r p (k+1)))]]]
  ) (fun(_,_)=>⟨_,rfl⟩) fun(r,p) hp=>bQ (q:=(r.length<=1000/\((!Geo.cI r)=true->0=Geo.cC r p)/\
  ((!Geo.cI r)=false->((!Geo.eH p)=true->0=Geo.cC r p)/\
   ((!Geo.eH p)=false->Geo.cI r=true/\Geo.eH p=true)))/\
 (∀y:Unit,Geo.cI r=true/\Geo.eH p=true->r.length<=1000/\(0=(0:Int)/\false=pb r p 0/\(0:Nat)<=(Geo.aD r).length/\bE (fun j=>Geo.onP (nE r j) p=false) 0)/\
  (∀x:Nat,x<=(Geo.aD r).length/\bE (fun j=>Geo.onP (nE r j) p=false) x->((x:Int)<(Geo.aD r).length->(ix (x:Int) (Geo.aD r).length/\x<(Geo.aD r).length/\PtB p/\bd 10000 (nE r x).a/\PtB p/\bd 10000 (nE r x).b/\bd 1000000000 (nE r x).b/\bd 1000000000 (nE r x).a/\cOK (Geo.sub (nE r x).b (nE r x).a) (Geo.toV p (nE r x).a)/\((Geo.cross (Geo.sub (nE r x).b (nE r x).a) (Geo.toV p (nE r x).a)=0->(Min.min (Geo.toV p (nE r x).a).x (Geo.toV p (nE r x).b).x<=0->(0<=Max.max (Geo.toV p (nE r x).a).x (Geo.toV p (nE r x).b).x->(Min.min (Geo.toV p (nE r x).a).y (Geo.toV p (nE r x).b).y<=0->decide (0<=Max.max (Geo.toV p (nE r x).a).y (Geo.toV p (nE r x).b).y)=Geo.onP (nE r x) p)/\
         (¬Min.min (Geo.toV p (nE r x).a).y (Geo.toV p (nE r x).b).y<=0->false=Geo.onP (nE r x) p))/\
        (¬0<=Max.max (Geo.toV p (nE r x).a).x (Geo.toV p (nE r x).b).x->false=Geo.onP (nE r x) p))/\
       (¬Min.min (Geo.toV p (nE r x).a).x (Geo.toV p (nE r x).b).x<=0->false=Geo.onP (nE r x) p))/\
      (¬Geo.cross (Geo.sub (nE r x).b (nE r x).a) (Geo.toV p (nE r x).a)=0->false=Geo.onP (nE r x) p))/\
     (∀y_1:Unit,(Geo.onP (nE r x) p=true->1=Geo.cC r p)/\
      (Geo.onP (nE r x) p=false->(((decide (0<=(Geo.toV p (nE r x).a).y) !=decide (0<=(Geo.toV p (nE r x).b).y))=true->(decide (0<=(Geo.toV p (nE r x).a).y)==decide (0<Geo.cross (Geo.sub (nE r x).b (nE r x).a) (Geo.toV p (nE r x).a)))=Geo.qO (nE r x) p)/\
        ((decide (0<=(Geo.toV p (nE r x).a).y) !=decide (0<=(Geo.toV p (nE r x).b).y))=false->false=Geo.qO (nE r x) p))/\
       (∀y_2:Unit,(Geo.qO (nE r x) p=true->(!pb r p x)=pb r p (x+1)/\Geo.onP (nE r x) p=false)/\
        (Geo.qO (nE r x) p=false->pb r p x=pb r p (x+1)/\Geo.onP (nE r x) p=false)))))/\
    (∀y_1:Unit,Geo.onP (nE r x) p=false->aK ((x:Int)+1)/\(x:Int)+1=((x+1:Nat):Int)/\pb r p (x+1)=pb r p (x+1)/\x+1<=(Geo.aD r).length/\bE (fun j=>Geo.onP (nE r j) p=false) (x+1)/\(Geo.aD r).length-(x+1)<(Geo.aD r).length-x))/\
   (¬(x:Int)<(Geo.aD r).length->(pb r p x=true->2=Geo.cC r p)/\
    (pb r p x=false->0=Geo.cC r p))))) (by kernel_rfl) (by
  change r.length<=1000 at hp;have e0:pb r p 0=false:=rfl;have es:∀k:Nat,(k:Int)<(Geo.aD r).length->pb r p (k+1)=(pb r p k !=Geo.qO (nE r k) p):=fun k h=>Wa (by omega)
  have hw0:Geo.cI r=false\/Geo.eH p=false->0=Geo.cC r p:=fun h=>by unfold Geo.cC;rcases h with h|h<;>simp[h]
  have hw:Geo.cI r=true->Geo.eH p=true->Geo.cC r p=Geo.jA p (Geo.aD r) false:=fun h1 h2=>by unfold Geo.cC;simp[h1,h2]
  have eb:Geo.cI r=true->∀j:Nat,(j:Int)<(Geo.aD r).length->bd 2000 (bK (Geo.aD r) j).a/\bd 2000 (bK (Geo.aD r) j).b:=fun h j hj=>aBi h (by omega)
  have el:(Geo.aD r).length<=1000:=by unfold Geo.aD;split<;>simp<;>omega
  have s1:∀j:Nat,(j:Int)<(Geo.aD r).length->bE (fun j=>Geo.onP (nE r j) p=false) j->Geo.onP (nE r j) p=true->Geo.jA p (Geo.aD r) false=1:=fun j h1 h2 h3=>Lk false (by omega) h2 h3
  have s2:∀k:Nat,¬(k:Int)<(Geo.aD r).length->k<=(Geo.aD r).length->bE (fun j=>Geo.onP (nE r j) p=false) k->Geo.jA p (Geo.aD r) false=if pb r p k=true then 2 else 0:=fun k h1 h2 h=>by
   obtain rfl:k=(Geo.aD r).length:=by omega
   rw[Fv false h];unfold pb Xs;rw[List.take_length]
  have gV:Geo.cI r=true->Geo.eH p=true->∀j:Nat,(j:Int)<(Geo.aD r).length->cOK (Geo.sub (bK (Geo.aD r) j).b (bK (Geo.aD r) j).a) (Geo.toV p (bK (Geo.aD r) j).a):=fun h1 h2 j hj=>by
   have b1:=fX (eb h1 j hj).2 (eb h1 j hj).1;have hB:=PtB.of h2;have b2:=hB.off (eb h1 j hj).1.mono;have h2:(-600000000000<=p.x/\p.x<=600000000000)/\(-600000000000<=p.y/\p.y<=600000000000):=hB.2;have b3:bd 2000000000000 (Geo.toV p (bK (Geo.aD r) j).a):=by unfold bd Geo.toV;dsimp only;omega
   exact⟨by have:=fY b1.1 b3.2;omega,by have:=fY b1.2 b3.1;omega⟩
  have oN:∀j:Nat,(¬Geo.nK (nE r j) p=0\/¬Min.min (Geo.toV p (nE r j).a).x (Geo.toV p (nE r j).b).x<=0\/¬0<=Max.max (Geo.toV p (nE r j).a).x (Geo.toV p (nE r j).b).x\/¬Min.min (Geo.toV p (nE r j).a).y (Geo.toV p (nE r j).b).y<=0)->false=Geo.onP (nE r j) p:=fun j h=>by
   symm;unfold Geo.onP;rcases h with h|h|h|h
   ·rw[beq_eq_false_iff_ne.2 h];simp
   ·rw[decide_eq_false h];simp
   ·rw[decide_eq_false h];simp
   ·rw[decide_eq_false h];simp
  have oY:∀j:Nat,Geo.nK (nE r j) p=0->Min.min (Geo.toV p (nE r j).a).x (Geo.toV p (nE r j).b).x<=0->0<=Max.max (Geo.toV p (nE r j).a).x (Geo.toV p (nE r j).b).x->Min.min (Geo.toV p (nE r j).a).y (Geo.toV p (nE r j).b).y<=0->decide (0<=Max.max (Geo.toV p (nE r j).a).y (Geo.toV p (nE r j).b).y)=Geo.onP (nE r j) p:=fun j h1 h2 h3 h4=>by
   unfold Geo.onP;rw[beq_iff_eq.2 h1,decide_eq_true h2,decide_eq_true h3,decide_eq_true h4];simp
  have hN:∀j:Nat,(decide (0<=(Geo.toV p (nE r j).a).y) !=decide (0<=(Geo.toV p (nE r j).b).y))=false->false=Geo.qO (nE r j) p:=fun j h=>by unfold Geo.qO;rw[h];rfl
  have hY:∀j:Nat,(decide (0<=(Geo.toV p (nE r j).a).y) !=decide (0<=(Geo.toV p (nE r j).b).y))=true->(decide (0<=(Geo.toV p (nE r j).a).y)==decide (0<Geo.nK (nE r j) p))=Geo.qO (nE r j) p:=fun j h=>by unfold Geo.qO;rw[h];rfl
  repeat' first|with_reducible apply And.intro|with_reducible intro
  all_goals repeat with_reducible cases‹_/\_›
  all_goals first|assumption|rfl|exact trivial|exact nb ‹_› |exact nb' ‹_› |omega|exact dU (by omega)|(unfold ix;omega)|(unfold aK;omega)|exact bW _|exact aO ‹_› ‹_› |(refine aO ‹_› ?_;simp_all;done)|exact PtB.of ‹_› |exact(eb ‹_› _ ‹_›).1.mono|exact(eb ‹_› _ ‹_›).2.mono|exact gV ‹_› ‹_› _ ‹_› |exact oY _ ‹_› ‹_› ‹_› ‹_› |exact oN _ (.inl ‹_›)|exact oN _ (.inr (.inl ‹_›))|exact oN _ (.inr (.inr (.inl ‹_›)))|exact oN _ (.inr (.inr (.inr ‹_›)))|exact hN _ ‹_› |exact hY _ ‹_› |exact hw0 (.inl (nb' ‹_›))|exact hw0 (.inr (nb' ‹_›))|(rw[hw ‹_› ‹_›,s1 _ ‹_› ‹_› ‹_›];done)|(rw[hw ‹_› ‹_›,s2 _ ‹_› ‹_› ‹_›,‹pb _ _ _=_›];rfl)|(rw[es _ ‹_›,‹Geo.qO _ _=_›];simp;done)|grind)
def aGY:Tab:=cJ [(140,aIn)] aGj
theorem aDC:aGY.Ok Tryz.prog:=aR aC6 ⟨aKT,trivial⟩
def c65:Con:=con (ac (aL .V) (a1 aV)) (fun(r,_)=>[r.length<=1000]) (fun(r,v)=> .int .i64 (Geo.dH r v)
 )
theorem k65:c65.Ok Tryz.prog 65:=bF (bP aDC) (raw:=bR) (fun(_,_)=>[]) (fun(_,_)=>⟨_,rfl⟩) fun(r,v) hp=>bQ (q:=(0:Int)<=4000/\(4000:Int)<=9000000000000000000/\((!Geo.bG v 4000)=true->0=Geo.dH r v)/\
 ((!Geo.bG v 4000)=false->r.length<=1000/\Geo.cC r (Geo.tU v)=Geo.dH r v)) (by kernel_rfl) (by
  change r.length<=1000 at hp;have e:Geo.dH r v=if(!Geo.bG v 4000)=true then 0 else Geo.cC r (Geo.tU v):=rfl
  exact⟨by decide,by decide,fun h=>by rw[e,if_pos h],fun h=>⟨hp,by rw[e,h];rfl⟩⟩)
def t65:Tab:=cJ [(65,c65)] aGY
theorem aFO:t65.Ok Tryz.prog:=aR aDC ⟨k65,trivial⟩
def c89:Con:=con (a1 (aL .V)) (fun r=>[r.length<=1000]) (fun r=> .int .i64 (if Geo.cI r=true then Geo.eL r else 0)
 )
theorem k89:c89.Ok Tryz.prog 89:=bF (bP aFO) (raw:=bR) (fun _=>[]) (fun _=>⟨_,rfl⟩) fun r hp=>bQ (q:=r.length<=1000/\((!Geo.cI r)=true->0=(if Geo.cI r=true then Geo.eL r else 0))/\
 ((!Geo.cI r)=false->Geo.near r=true/\r.length<=100000/\Geo.eL r=(if Geo.cI r=true then Geo.eL r else 0))) (by kernel_rfl) (by
  change r.length<=1000 at hp;refine⟨hp,fun h=>by rw[nb' h];rfl,fun h=>⟨?_,by omega,by rw[nb h];rfl⟩⟩
  exact((rL r).1 (nb h)).2.2.1)
def t89:Tab:=cJ [(89,c89)] t65
theorem aJC:t89.Ok Tryz.prog:=aR aFO ⟨k89,trivial⟩
def aGd:Tab:=cJ [(207,aHR)] t89
theorem aC2:aGd.Ok Tryz.prog:=aR aJC ⟨aKn,trivial⟩
def aH1:Con:=con (a1 (aL .R)) (fun l=>[l.length<=1000,0<l.flatten.length,l.flatten.length<=1000]) (fun l=> .lst .V l.flatten)
theorem aKx:aH1.Ok Tryz.prog 181:=bF (bP aC2) (raw:=fun r i=>Nat.beq r 1&&Nat.beq i 0) (fun l=>[lp 3 11 l.length (fun _=>[]) [] (fun k=>[(3,.int .i64 (((l.take k).flatten.length:Nat):Int))]) (fun _=>[]),lp 11 27 l.length (fun _=>[]) [7] (fun k=>[(6,.own 7 .V ((l.take k).flatten.length))]) (fun k=>[(7,.row 44 .V ((l.take k).flatten))])]
  ) (fun _=>⟨_,rfl⟩) fun l hp=>bQ (q:=(0=(0:Int)/\0=((List.flatten (List.take 0 l)).length:Int)/\(0:Nat)<=l.length)/\
 (∀x:Nat,x<=l.length->((x:Int)<l.length->ix (x:Int) l.length/\aK (((List.flatten (List.take x l)).length:Int)+(aB l x).length)/\(((List.flatten (List.take x l)).length:Int)+(aB l x).length<0->False)/\
   (¬((List.flatten (List.take x l)).length:Int)+(aB l x).length<0->aK ((x:Int)+1)/\(x:Int)+1=((x+1:Nat):Int)/\((List.flatten (List.take x l)).length:Int)+(aB l x).length=(List.flatten (List.take (x+1) l)).length/\x+1<=l.length/\l.length-(x+1)<l.length-x))/\
  (¬(x:Int)<l.length->(0:Nat)<(List.flatten (List.take x l)).length/\(List.flatten (List.take x l)).length<=100000/\(0=(0:Int)/\([] :List Geo.V).length=(List.flatten (List.take 0 l)).length/\([] :List Geo.V)=List.flatten (List.take 0 l)/\(0:Nat)<=l.length)/\
   (∀x_1:Nat,x_1<=l.length->((x_1:Int)<l.length->ix (x_1:Int) l.length/\(List.flatten (List.take x_1 l)).length=(List.flatten (List.take x_1 l)).length/\(List.flatten (List.take x_1 l)).length+(aB l x_1).length<=1000000/\aK ((x_1:Int)+1)/\(x_1:Int)+1=((x_1+1:Nat):Int)/\(List.flatten (List.take x_1 l)++aB l x_1).length=(List.flatten (List.take (x_1+1) l)).length/\List.flatten (List.take x_1 l)++aB l x_1=List.flatten (List.take (x_1+1) l)/\x_1+1<=l.length/\l.length-(x_1+1)<l.length-x_1)/\
    (¬(x_1:Int)<l.length->(List.flatten (List.take x_1 l)).length=(List.flatten (List.take x_1 l)).length/\List.flatten (List.take x_1 l)=List.flatten l))))) (by kernel_rfl) (by
  change l.length<=1000/\0<l.flatten.length/\l.flatten.length<=1000 at hp;have e1:∀x:Nat,(x:Int)<l.length->(l.take (x+1)).flatten=(l.take x).flatten++aB l x:=fun x h=>by
   rw[List.take_succ_eq_append_getElem (by omega),List.flatten_append,List.flatten_singleton,lZ (by omega)]
  have e2:∀x:Nat,(l.take x).flatten.length<=l.flatten.length:=fun x=>by
   conv=>rhs;rw[<-List.take_append_drop x l,List.flatten_append,List.length_append]
   omega
  have e3:∀x:Nat,¬(x:Int)<l.length->List.take x l=l:=fun x h=>List.take_of_length_le (by omega)
  have e4:∀x:Nat,(x:Int)<l.length->(l.take x).flatten.length+(aB l x).length<=l.flatten.length:=fun x h=>by
   have:=e2 (x+1);rw[e1 x h,List.length_append]at this;exact this
  have e5:∀x:Nat,(x:Int)<l.length->((List.flatten (List.take x l)).length:Int)+(aB l x).length=(List.flatten (List.take (x+1) l)).length:=fun x h=>by rw[e1 x h,List.length_append];omega
  have e6:∀x:Nat,(x:Int)<l.length->aK (((List.flatten (List.take x l)).length:Int)+(aB l x).length):=fun x h=>cW (by have:=e4 x h;omega)
  repeat' first|with_reducible apply And.intro|with_reducible intro
  all_goals repeat with_reducible cases‹_/\_›
  all_goals first|assumption|rfl|exact trivial|exact nb ‹_› |exact nb' ‹_› |omega|exact dU (by omega)|(unfold ix;omega)|(unfold aK;omega)|exact bW _|exact aO ‹_› ‹_› |(refine aO ‹_› ?_;simp_all;done)|exact e6 _ ‹_› |exact e5 _ ‹_› |exact(e1 _ ‹_›).symm|(rw[e1 _ ‹_›];done)|(rw[e3 _ ‹_›];first|done|omega)|exact Nat.le_trans (e4 _ ‹_›) (by omega)|(rw[e3 _ ‹_›]at*;omega)|grind)
def aGo:Tab:=cJ [(181,aH1)] aGd
theorem aDb:aGo.Ok Tryz.prog:=aR aC2 ⟨aKx,trivial⟩
theorem vY(a b:Geo.V):Geo.dJ a b<0↔Geo.cU a b=true:=by
 unfold Geo.dJ Geo.cU Geo.eO;grind
theorem xZ(a:Geo.V):Geo.cU a a=false:=by
 unfold Geo.cU;grind
def aH4:Con:=con (ac (aL .V) (a1 (aF 78))) (fun(r,_)=>[0<r.length,r.length<=1000]) (fun(r,_)=>aV.enc (nth r (Geo.bY r)))
theorem aKA:aH4.Ok Tryz.prog 175:=bF (bP aDb) (raw:=bR) (fun(r,_)=>[(5,.mk Nat (fun F _=>vO F 6) [] (fun k=>[0<k,k<=r.length]) (fun k=>[(6,.int .i64 (k:Int))]) (fun k=>[(7,.box 44 [.int .i64 (nth r (Geo.cN r k)).x,.int .i64 (nth r (Geo.cN r k)).y])]) (fun k=>r.length-k) (fun _=>[]))]
  ) (fun(_,_)=>⟨_,rfl⟩) fun(r,u) hp=>bQ (q:=((r.length:Int)<1->False)/\
 (¬(r.length:Int)<1->ix 0 r.length/\(1=(1:Int)/\(nth r 0).x=(nth r (Geo.cN r 1)).x/\(nth r 0).y=(nth r (Geo.cN r 1)).y/\(0:Nat)<1/\(1:Nat)<=r.length)/\
  (∀x:Nat,(0:Nat)<x/\x<=r.length->((x:Int)<r.length->ix (x:Int) r.length/\(Geo.dJ (nth r x) (nth r (Geo.cN r x))<0->ix (x:Int) r.length/\aK ((x:Int)+1)/\(x:Int)+1=((x+1:Nat):Int)/\(nth r x).x=(nth r (Geo.cN r (x+1))).x/\(nth r x).y=(nth r (Geo.cN r (x+1))).y/\(0:Nat)<x+1/\x+1<=r.length/\r.length-(x+1)<r.length-x)/\
    (¬Geo.dJ (nth r x) (nth r (Geo.cN r x))<0->aK ((x:Int)+1)/\(x:Int)+1=((x+1:Nat):Int)/\(nth r (Geo.cN r x)).x=(nth r (Geo.cN r (x+1))).x/\(nth r (Geo.cN r x)).y=(nth r (Geo.cN r (x+1))).y/\(0:Nat)<x+1/\x+1<=r.length/\r.length-(x+1)<r.length-x))/\
   (¬(x:Int)<r.length->(nth r (Geo.cN r x)).x=(nth r (Geo.bY r)).x/\(nth r (Geo.cN r x)).y=(nth r (Geo.bY r)).y)))) (by kernel_rfl) (by
  change 0<r.length/\r.length<=1000 at hp;have e0:Geo.cN r 1=0:=by unfold Geo.cN Geo.cN;split<;>rfl
  have e1:∀x:Nat,Geo.dJ (nth r x) (nth r (Geo.cN r x))<0->Geo.cN r (x+1)=x:=fun x h=>if_pos ((vY _ _).1 h)
  have e2:∀x:Nat,¬Geo.dJ (nth r x) (nth r (Geo.cN r x))<0->Geo.cN r (x+1)=Geo.cN r x:=fun x h=>if_neg fun h2=>h ((vY _ _).2 h2)
  have e3:∀x:Nat,¬(x:Int)<r.length->x<=r.length->Geo.cN r x=Geo.bY r:=fun x h1 h2=>by rw[show x=r.length by omega];rfl
  repeat' first|with_reducible apply And.intro|with_reducible intro
  all_goals repeat with_reducible cases‹_/\_›
  all_goals first|assumption|rfl|exact trivial|exact nb ‹_› |exact nb' ‹_› |omega|exact dU (by omega)|(unfold ix;omega)|(unfold aK;omega)|exact bW _|exact aO ‹_› ‹_› |(refine aO ‹_› ?_;simp_all;done)|(rw[e0];done)|(rw[e1 _ ‹_›];done)|(rw[e2 _ ‹_›];done)|(rw[e3 _ ‹_› ‹_›];done)|grind)
def aGt:Tab:=cJ [(175,aH4)] aGo
theorem aDe:aGt.Ok Tryz.prog:=aR aDb ⟨aKA,trivial⟩
def aH5:Con:=con (ac (aL .V) (a1 aV)) (fun(r,_)=>[r.length<=1000]) (fun(r,v)=> .int .i64 (fI (fun x=>decide (v=x)) r))
theorem aKB:aH5.Ok Tryz.prog 174:=bF (bP aDe) (raw:=bR) (fun(r,v)=>[cnt 2 8 r.length (bE fun j=>decide (v=nth r j)=false)]
  ) (fun(_,_)=>⟨_,rfl⟩) fun(r,v) hp=>bQ (q:=(0=(0:Int)/\(0:Nat)<=r.length/\bE (fun j=>decide (v=nth r j)=false) 0)/\
 (∀x:Nat,x<=r.length/\bE (fun j=>decide (v=nth r j)=false) x->((x:Int)<r.length->ix (x:Int) r.length/\(v=(nth r x)->(x:Int)=fI (fun x=>decide (v=x)) r)/\
   (¬v=(nth r x)->aK ((x:Int)+1)/\(x:Int)+1=((x+1:Nat):Int)/\x+1<=r.length/\bE (fun j=>decide (v=nth r j)=false) (x+1)/\r.length-(x+1)<r.length-x))/\
  (¬(x:Int)<r.length-> -1=fI (fun x=>decide (v=x)) r))) (by kernel_rfl) (by
  change r.length<=1000 at hp
  repeat' first|with_reducible apply And.intro|with_reducible intro
  all_goals repeat with_reducible cases‹_/\_›
  all_goals first|assumption|rfl|exact trivial|exact nb ‹_› |exact nb' ‹_› |omega|exact dU (by omega)|(unfold ix;omega)|(unfold aK;omega)|exact bW _|exact aO ‹_› ‹_› |(refine aO ‹_› ?_;simp_all;done)|exact vQ (t:= .V) (by omega) (decide_eq_true ‹_›) ‹_› |(obtain rfl:_=r.length:=Nat.le_antisymm ‹_› (by omega);exact uP (t:= .V) ‹_›)|grind)
def aGu:Tab:=cJ [(174,aH5)] aGt
theorem aDf:aGu.Ok Tryz.prog:=aR aDe ⟨aKB,trivial⟩
def aIw:Con:=con (a1 (aL .V)) (fun r=>[r.length<=1000]) (fun r=> .lst .V (Geo.dA r)
 )
theorem aK2:aIw.Ok Tryz.prog 126:=bF (bP aDf) (raw:=bR) (fun _=>[]) (fun _=>⟨_,rfl⟩) fun r hp=>bQ (q:=r.length<=1000/\((!Geo.cI r)=true->Geo.dA r=([] :List Geo.V))/\
 ((!Geo.cI r)=false->(0:Nat)<r.length/\r.length<=1000/\r.length<=1000/\(0<=fI (fun x=>decide ((nth r (Geo.bY r))=x)) r/\fI (fun x=>decide ((nth r (Geo.bY r))=x)) r<=r.length)/\(0<=fI (fun x=>decide ((nth r (Geo.bY r))=x)) r/\fI (fun x=>decide ((nth r (Geo.bY r))=x)) r<=r.length)/\[List.drop (fI (fun x=>decide ((nth r (Geo.bY r))=x)) r).toNat r,List.take (fI (fun x=>decide ((nth r (Geo.bY r))=x)) r).toNat r].length<=1000/\(0:Nat)<(List.flatten [List.drop (fI (fun x=>decide ((nth r (Geo.bY r))=x)) r).toNat r,List.take (fI (fun x=>decide ((nth r (Geo.bY r))=x)) r).toNat r]).length/\(List.flatten [List.drop (fI (fun x=>decide ((nth r (Geo.bY r))=x)) r).toNat r,List.take (fI (fun x=>decide ((nth r (Geo.bY r))=x)) r).toNat r]).length<=1000/\List.flatten [List.drop (fI (fun x=>decide ((nth r (Geo.bY r))=x)) r).toNat r,List.take (fI (fun x=>decide ((nth r (Geo.bY r))=x)) r).toNat r] =Geo.dA r)) (by kernel_rfl) (by
  change r.length<=1000 at hp;have h0:(!Geo.cI r)=false->0<r.length:=fun h=>by have:=((rL r).1 (nb h)).1;omega
  have hf:0<r.length->fI (fun x=>decide (nth r (Geo.bY r)=x)) r=(Geo.bY r:Int):=fun h=>by
   have hl:=Geo.vB h;symm;exact vQ (t:= .V) hl (decide_eq_true rfl) fun j hj=>decide_eq_false fun e=>by
    have:=Geo.uJ r r.length j hj;rw[show Geo.cN r r.length=Geo.bY r from rfl,e]at this
    exact absurd ((xZ (nth r j)).symm.trans this) (by decide)
  refine⟨hp,fun h=>by unfold Geo.dA;rw[nb' h];rfl,fun h=> ?_⟩
  have h1:=h0 h;have hl:=Geo.vB h1;rw[hf h1];have hc:[List.drop ((Geo.bY r:Nat):Int).toNat r,List.take ((Geo.bY r:Nat):Int).toNat r].flatten=Geo.dA r:=by
   unfold Geo.dA;rw[nb h];simp[Geo.fR]
  repeat' first|with_reducible apply And.intro|with_reducible intro
  all_goals repeat with_reducible cases‹_/\_›
  all_goals first|assumption|rfl|exact trivial|exact nb ‹_› |exact nb' ‹_› |omega|exact dU (by omega)|(unfold ix;omega)|(unfold aK;omega)|exact bW _|exact aO ‹_› ‹_› |(refine aO ‹_› ?_;simp_all;done)|exact hc|grind)
def aG9:Tab:=cJ [(126,aIw)] aGu
theorem aDL:aG9.Ok Tryz.prog:=aR aDf ⟨aK2,trivial⟩
end
end Go.Proofs.YtdaeofhdgabhjaaGreat
namespace Go.Proofs.YtdaeofhdgabhjaaGreat
open Go.RowKit
set_option maxRecDepth 100000
noncomputable section
def aPR:Ar Geo.aH where
 enc r:= .pro [.lst .V r] 0
 dec s:=match s with
  | .pro [x] 0=>Ed .V x
  |_=>none
 ok s a h:=by
  split at h
  ·have e:=nO h;show(match cK (avs [_])with|some q=>AV.p (.pro q 0)|none=> .any)=_
   rw[avs,avs,e];rfl
  ·cases h
 pl _:=⟨_,rfl⟩
def aPi:Ar Int where
 enc n:= .pro [.int .i64 n] 0
 dec s:=match s with
  | .pro [.int .i64 n] 0=>some n
  |_=>none
 ok s a h:=by(split at h<;>cases h;rfl)
 pl _:=⟨_,rfl⟩
def aCl(f:Nat){α:Type}(A:Arl α):Ar α where
 enc a:= .fnp f [] (A.enc a)
 dec s:=match s with
  | .fnp g [] b=>(match Nat.beq g f with|true=>A.dec b|false=>none)
  |_=>none
 ok s a h:=by
  split at h
  ·split at h
   ·rename_i b e;have:=A.ok _ _ h;simp only[SV.av,this];rw[Nat.eq_of_beq_eq_true e]
   ·cases h
  ·cases h
 pl a:=by
  obtain⟨q,h⟩:=A.pl a;exact⟨.fn (.func f) [] q,by simp only[SV.av,h,avs,bT];rfl⟩
def aEl:Ar (Geo.aH×Int×Unit):=aCl 180 (ac aPR (ac aPi a0))
theorem Ic{t:LT}{l:List t.ty}{q:t.ty->Bool}{j:Nat}(hj:j<l.length)(h:q (t.nth l j)=false):l.all q=false:=
 List.all_eq_false.2 ⟨_,List.getElem_mem hj,by rw[<-t.nth_eq l hj,h];simp⟩
theorem Am{t:LT}{l:List t.ty}{q:t.ty->Bool}(h:bE (fun j=>q (t.nth l j)=true) l.length):l.all q=true:=
 List.all_eq_true.2 fun x hx=>by
  obtain⟨j,hj,rfl⟩:=List.getElem_of_mem hx;have:=h j hj;dsimp only at this;rwa[t.nth_eq l hj]at this
def aH2:Con:=con (ac aV (ac aPR (a1 aPi))) (fun(_,r,_)=>[r.length<=1000]) (fun(v,r,p)=> .bool (decide (¬Geo.dH r v=p))
 )
theorem aKy:aH2.Ok Tryz.prog 180:=bF (bP aDL) (raw:=bR) (fun(_,_,_)=>[]) (fun(_,_,_)=>⟨_,rfl⟩) fun(v,r,p) hp=>bQ (q:=r.length<=1000/\decide (¬Geo.dH r v=p)=decide (¬Geo.dH r v=p)) (by kernel_rfl) (by
 change r.length<=1000 at hp
 repeat' first|with_reducible apply And.intro|with_reducible intro
 all_goals repeat with_reducible cases‹_/\_›
 all_goals first|assumption|rfl|exact trivial|exact nb ‹_› |exact nb' ‹_› |omega|exact dU (by omega)|(unfold ix;omega)|(unfold aK;omega)|exact bW _|exact aO ‹_› ‹_› |(refine aO ‹_› ?_;simp_all;done)|grind)
def aGp:Tab:=cJ [(180,aH2)] aG9
theorem aDc:aGp.Ok Tryz.prog:=aR aDL ⟨aKy,trivial⟩
def aId:Con:=con (ac (aL .V) (a1 aEl)) (fun(l,c)=>[l.length<=1000000,c.1.length<=1000]) (fun(l,c)=> .int .i64 (fI (fun v=>decide (¬Geo.dH c.1 v=c.2.1)) l))
theorem aKJ:aId.Ok Tryz.prog 157:=bF (bP aDc) (raw:=bR) (fun(l,c)=>[cnt 2 8 l.length (bE fun j=>decide (¬Geo.dH c.1 (Geo.nth l j)=c.2.1)=false)]
  ) (fun(_,_)=>⟨_,rfl⟩) fun(l,c) hp=>bQ (q:=(0=(0:Int)/\(0:Nat)<=l.length/\bE (fun j=>decide (¬Geo.dH c.1 (Geo.nth l j)=c.2.1)=false) 0)/\
 (∀x:Nat,x<=l.length/\bE (fun j=>decide (¬Geo.dH c.1 (Geo.nth l j)=c.2.1)=false) x->((x:Int)<l.length->ix (x:Int) l.length/\c.1.length<=1000/\(decide (¬Geo.dH c.1 (Geo.nth l x)=c.2.1)=true->(x:Int)=fI (fun v=>decide (¬Geo.dH c.1 v=c.2.1)) l)/\
   (decide (¬Geo.dH c.1 (Geo.nth l x)=c.2.1)=false->aK ((x:Int)+1)/\(x:Int)+1=((x+1:Nat):Int)/\x+1<=l.length/\bE (fun j=>decide (¬Geo.dH c.1 (Geo.nth l j)=c.2.1)=false) (x+1)/\l.length-(x+1)<l.length-x))/\
  (¬(x:Int)<l.length-> -1=fI (fun v=>decide (¬Geo.dH c.1 v=c.2.1)) l))) (by kernel_rfl) (by
  change l.length<=1000000/\c.1.length<=1000 at hp
  repeat' first|with_reducible apply And.intro|with_reducible intro
  all_goals repeat with_reducible cases‹_/\_›
  all_goals first|assumption|rfl|exact trivial|exact nb ‹_› |exact nb' ‹_› |omega|exact dU (by omega)|(unfold ix;omega)|(unfold aK;omega)|exact bW _|exact aO ‹_› ‹_› |(refine aO ‹_› ?_;simp_all;done)|exact vQ (t:= .V) (by omega) ‹_› ‹_› |(obtain rfl:_=l.length:=Nat.le_antisymm ‹_› (by omega);exact uP (t:= .V) ‹_›)|grind)
def aGJ:Tab:=cJ [(157,aId)] aGp
theorem aDn:aGJ.Ok Tryz.prog:=aR aDc ⟨aKJ,trivial⟩
def c84:Con:=con (ac (aL .V) (a1 aEl)) (fun(l,c)=>[l.length<=1000000,c.1.length<=1000]) (fun(l,c)=> .bool (l.any fun v=>decide (¬Geo.dH c.1 v=c.2.1))
 )
theorem k84:c84.Ok Tryz.prog 84:=bF (bP aDn) (raw:=bR) (fun(_,_)=>[]) (fun(_,_)=>⟨_,rfl⟩) fun(l,c) hp=>bQ (q:=l.length<=1000000/\c.fst.length<=1000/\decide (0<=fI (fun v=>decide (¬Geo.dH c.fst v=c.2.1)) l)=List.any l (fun v=>decide (¬Geo.dH c.1 v=c.2.1))) (by kernel_rfl) (by
 change l.length<=1000000/\c.1.length<=1000 at hp;exact⟨hp.1,hp.2,xL _ _⟩)
def t84:Tab:=cJ [(84,c84)] aGJ
theorem aFE:t84.Ok Tryz.prog:=aR aDn ⟨k84,trivial⟩
def aEV:Con:=con (ac (aL .V) (ac (aL .V) (a1 aI))) (fun(r,q,_)=>[r.length<=1000,q.length<=1000]) (fun(r,q,p)=> .bool (Geo.cK r q p)
 )
theorem aHA:aEV.Ok Tryz.prog 123:=bF (bP aFE) (raw:=bR) (fun(_,_,_)=>[]) (fun(_,_,_)=>⟨_,rfl⟩) fun(r,q,p) hp=>bQ (q:=r.length<=1000000/\q.length<=1000/\(!List.any r (fun v=>decide (¬Geo.dH q v=p)))=Geo.cK r q p) (by kernel_rfl) (by
 change r.length<=1000/\q.length<=1000 at hp;refine⟨by omega,hp.2,?_⟩
 unfold Geo.cK;rw[List.any_eq_not_all_not,Bool.not_not];congr 1;funext v;rw[Bool.eq_iff_iff];simp)
def aHb:Tab:=cJ [(123,aEV)] t84
theorem aDN:aHb.Ok Tryz.prog:=aR aFE ⟨aHA,trivial⟩
def aEU:Con:=con (ac (aL .V) (a1 (aL .V))) (fun(a,b)=>[a.length<=1000,b.length<=1000]) (fun(a,b)=> .bool (Geo.dY a b))
theorem aHz:aEU.Ok Tryz.prog 124:=bF (bP aDN) (raw:=bR) (fun(a,b)=>[cnt 2 12 (Geo.aD a).length (bE fun i=>((Geo.aD b).all fun y=>Geo.dF (bK (Geo.aD a) i) y==0)=true) fun i=>[cnt 5 19 (Geo.aD b).length (bE fun k=>(Geo.dF (bK (Geo.aD a) i) (bK (Geo.aD b) k)==0)=true)]]
  ) (fun(_,_)=>⟨_,rfl⟩) fun(a,b) hp=>bQ (q:=a.length<=1000/\(0=(0:Int)/\(0:Nat)<=(Geo.aD a).length/\bE (fun i=>List.all (Geo.aD b) (fun y=>Geo.dF (bK (Geo.aD a) i) y==0)=true) 0)/\
 (∀x:Nat,x<=(Geo.aD a).length/\bE (fun i=>List.all (Geo.aD b) (fun y=>Geo.dF (bK (Geo.aD a) i) y==0)=true) x->((x:Int)<(Geo.aD a).length->ix (x:Int) (Geo.aD a).length/\x<(Geo.aD a).length/\b.length<=1000/\(0=(0:Int)/\(0:Nat)<=(Geo.aD b).length/\bE (fun k=>(Geo.dF (bK (Geo.aD a) x) (bK (Geo.aD b) k)==0)=true) 0)/\
   (∀x_1:Nat,x_1<=(Geo.aD b).length/\bE (fun k=>(Geo.dF (bK (Geo.aD a) x) (bK (Geo.aD b) k)==0)=true) x_1->((x_1:Int)<(Geo.aD b).length->ix (x_1:Int) (Geo.aD b).length/\x_1<(Geo.aD b).length/\(¬Geo.dF (bK (Geo.aD a) x) (bK (Geo.aD b) x_1)=0->false=Geo.dY a b)/\
     (¬(¬Geo.dF (bK (Geo.aD a) x) (bK (Geo.aD b) x_1)=0)->aK ((x_1:Int)+1)/\(x_1:Int)+1=((x_1+1:Nat):Int)/\x_1+1<=(Geo.aD b).length/\bE (fun k=>(Geo.dF (bK (Geo.aD a) x) (bK (Geo.aD b) k)==0)=true) (x_1+1)/\(Geo.aD b).length-(x_1+1)<(Geo.aD b).length-x_1))/\
    (¬(x_1:Int)<(Geo.aD b).length->aK ((x:Int)+1)/\(x:Int)+1=((x+1:Nat):Int)/\x+1<=(Geo.aD a).length/\bE (fun i=>List.all (Geo.aD b) (fun y=>Geo.dF (bK (Geo.aD a) i) y==0)=true) (x+1)/\(Geo.aD a).length-(x+1)<(Geo.aD a).length-x)))/\
  (¬(x:Int)<(Geo.aD a).length->true=Geo.dY a b))) (by kernel_rfl) (by
  change a.length<=1000/\b.length<=1000 at hp;have el:∀r:Geo.aH,r.length<=1000->(Geo.aD r).length<=1000:=fun r h=>by unfold Geo.aD;split<;>simp<;>omega
  have ea:=el a hp.1;have eb:=el b hp.2;have h1:∀x y:Nat,(x:Int)<(Geo.aD a).length->(y:Int)<(Geo.aD b).length->¬Geo.dF (bK (Geo.aD a) x) (bK (Geo.aD b) y)=0->false=Geo.dY a b:=fun x y hx hy h=>
   (Ic (t:= .S) (l:=Geo.aD a) (j:=x) (by omega) (Ic (t:= .S) (l:=Geo.aD b) (q:=fun y=>Geo.dF (bK (Geo.aD a) x) y==0) (j:=y) (by omega) (beq_eq_false_iff_ne.2 h))).symm
  have h2:∀x:Nat,¬(x:Int)<(Geo.aD a).length->x<=(Geo.aD a).length->bE (fun i=>((Geo.aD b).all fun y=>Geo.dF (bK (Geo.aD a) i) y==0)=true) x->true=Geo.dY a b:=fun x hx hx2 h=>by
   obtain rfl:x=(Geo.aD a).length:=by omega
   exact(Am (t:= .S) h).symm
  have h3:∀x y:Nat,¬(y:Int)<(Geo.aD b).length->y<=(Geo.aD b).length->bE (fun k=>(Geo.dF (bK (Geo.aD a) x) (bK (Geo.aD b) k)==0)=true) y->((Geo.aD b).all fun z=>Geo.dF (bK (Geo.aD a) x) z==0)=true:=fun x y hy hy2 h=>by
   obtain rfl:y=(Geo.aD b).length:=by omega
   exact Am (t:= .S) h
  repeat' first|with_reducible apply And.intro|with_reducible intro
  all_goals repeat with_reducible cases‹_/\_›
  all_goals first|assumption|rfl|exact trivial|exact nb ‹_› |exact nb' ‹_› |omega|exact dU (by omega)|(unfold ix;omega)|(unfold aK;omega)|exact bW _|exact aO ‹_› ‹_› |(refine aO ‹_› ?_;simp_all;done)|exact h1 _ _ ‹_› ‹_› ‹_› |exact h2 _ ‹_› ‹_› ‹_› |exact aO ‹_› (h3 _ _ ‹_› ‹_› ‹_›)|exact aO ‹_› (beq_iff_eq.2 (Decidable.of_not_not ‹¬¬_›))|grind)
def aEt:Tab:=cJ [(124,aEU)] aHb
theorem Yb:aEt.Ok Tryz.prog:=aR aDN ⟨aHz,trivial⟩
end
end Go.Proofs.YtdaeofhdgabhjaaGreat
namespace Go.Proofs.YtdaeofhdgabhjaaGreat
open Go.RowKit
theorem aB8{r n:Nat}{P:Program}{row:String}{args:Array Value}{w:World}{R:Value->World->Prop}(h:Rows P row args w R):RowsIn (Fence.wide.inRound r) n P row args w R:=
 fun c cs _=>let⟨v,w',hr,s⟩:=h c cs;⟨v,w',hr,stepsIn_wide.2 s⟩
theorem kR{r n:Nat}{P:Program}{ops:Array Oper}{Q:Exit->Act->World->Prop}(hd:∀(i:Nat) (o:Oper),ops[i]? =some o->∀c,o.op≠ .defer c)(hno:¬LetsOut Q):
  ∀(l:List Nat) (a:Act) (w:World),wpOps P ops Q l a w->wpOpsIn (Fence.wide.inRound r) n P ops Q l a w
 |[],_,_,h=>h
 |i::rest,a,w,h=>by
  unfold wpOps at h;unfold wpOpsIn;cases ho:ops[i]? with
  |none=>rw[ho]at h;exact kR hd hno rest a w h
  |some o=>
   rw[ho]at h;simp only[]at h|-;by_cases hw:Region.wanted o (yielded ops a.tmps)=true
   ·rw[if_pos hw]at h|-;rcases h with h|⟨_,h⟩
    ·refine⟨fun _ _=>trivial,?_⟩
     show o.uponIn _ n P a _ Q ((Oper.semAt (some r) a.eval o).run P w);rw[Oper.semAt_some r a.eval o (hd i o ho)];unfold Oper.wp at h;generalize (execOp a.eval o).run P w=res at h|-;cases res with
     |ok x w'=>
      cases x with
      |value v=>exact kR hd hno rest _ _ h
      |skip=>exact kR hd hno rest _ _ h
      |defer d=>exact kR hd hno rest _ _ h
      |enter f args=>
       refine⟨fun h=>by simp[Fence.wide]at h,CallsIn.inRound r (callsIn_wide.2 (Calls.mono h ?_))⟩
       intro e w'' he;cases e with
       |returned v=>exact kR hd hno rest _ _ he
       |panicked c=>exact he
       |outgrown=>exact he
      |row row args=>
       refine⟨fun h=>by simp[Fence.wide]at h,aB8 (Rows.mono h ?_)⟩
       intro v w'' he;exact kR hd hno rest _ _ he
      |_=>exact h.elim
     |halt x w'=>cases x<;>first|exact h|exact h.elim
    ·exact absurd h hno
   ·rw[if_neg hw]at h|-;exact⟨fun _ _=>trivial,kR hd hno rest _ _ h⟩
def aD1(Q:Exit->Act->World->Prop):Exit->Act->World->Prop:=fun e a w=>e= .normal/\Q .normal a w
theorem aAT(Q:Exit->Act->World->Prop):¬LetsOut (aD1 Q):=fun h=>by
 obtain⟨a,w,e,_⟩:=h;cases e
theorem aAS{F:Fence}{n:Nat}{P:Program}{c:Code}{Q:Exit->Act->World->Prop}{a:Act}{w:World}(h:c.wpIn F n P (aD1 Q) a w):c.wpIn F n P Q a w:=
 wpIn_mono h fun e a w he=>by obtain⟨rfl,he⟩:=he;exact he
theorem Dq{P:Program}{ops:Array Oper}{Q:Exit->Act->World->Prop}{a0:Act}{w0:World}
  (hac:∀(i:Nat) (o:Oper),ops[i]? =some o->∀e∈o.after.toList,Region.binds .any e=true->e.on<i)
  (Inv:(Nat->Bool)->Act->World->Prop) (h0:Inv (fun _=>false) a0 w0.drew)
  (hstep:∀(i:Nat) (o:Oper) (D:Nat->Bool) (a:Act) (w:World),ops[i]? =some o->Inv D a w->D i=false->(∀e∈o.after.toList,Region.binds .any e=true->D e.on=true)->
    wpOp P ops Q i (fun a' w'=>Inv (fun j=>if j=i then true else D j) a' w') a w)
  (hend:∀(D:Nat->Bool) (a:Act) (w:World),Inv D a w->(∀i,i<ops.size->D i=true)->Q .normal a w):
  wpAny P .any ops Q ops.size (Array.replicate ops.size false) a0 w0.drew:=by
 refine(Fp hac Inv hstep hend _ _ _ _ (by simp) ?_ ?_)
 ·simp
 ·have e:(fun j=>(Array.replicate ops.size false).getD j false)=(fun _=>false):=by
   funext j
   rw[Array.getD_eq_getD_getElem?,Array.getElem?_replicate];split<;>rfl
  rw[e];exact h0
theorem Jh{P:Program}{ops:Array Oper}{Q:Exit->Act->World->Prop}{a0:Act}{w0:World}
  (dsts:List Nat)
  (hok:((List.range ops.size).all fun i=>((ops[i]?).map fun o=>(o.after.toList.all fun e=> !Region.binds .any e||decide (e.on<i))&&(match o.dst with|some d=>dsts.contains d|none=>true)).getD true)=true)
  (hds:∀s∈dsts,s<a0.tmps.size)
  (F:(Nat->Bool)->(Nat->Value)->World->Prop) (h0:F (fun _=>false) (fun s=>a0.tmps.getD s undef) w0.drew)
  (hstep:∀(i:Nat) (o:Oper) (D:Nat->Bool) (V:Nat->Value) (w:World),ops[i]? =some o->F D V w->D i=false->(∀e∈o.after.toList,Region.binds .any e=true->D e.on=true)->
    (∀s,s∉dsts->V s=a0.tmps.getD s undef)->
    if Region.wanted o (gdV ops V)=true then
     bZ P o V w (fun v w'=>F (fun j=>if j=i then true else D j) (match o.dst with|some d=>fun s=>if s=d then v else V s|none=>V) w')
    else F (fun j=>if j=i then true else D j) (match o.dst with|some d=>fun s=>if s=d then undef else V s|none=>V) w)
  (hend:∀(D:Nat->Bool) (V:Nat->Value) (w:World),F D V w->(∀i,i<ops.size->D i=true)->Q .normal (dP a0 dsts V) w):
  wpAny P .any ops Q ops.size (Array.replicate ops.size false) a0 w0.drew:=by
 have hops:∀(i:Nat) (o:Oper),ops[i]? =some o->(∀e∈o.after.toList,Region.binds .any e=true->e.on<i)/\(∀d,o.dst=some d->d∈dsts):=by
  intro i o ho;have hi:i<ops.size:=(Array.getElem?_eq_some_iff.1 ho).1;rw[List.all_eq_true]at hok;have:=hok i (List.mem_range.2 hi);rw[ho]at this;simp only[Option.map_some,Option.getD_some,Bool.and_eq_true]at this;obtain⟨g2,g3⟩:=this;refine⟨?_,?_⟩
  ·intro e he hb;rw[List.all_eq_true]at g2;have:=g2 e he;rw[hb]at this;simpa using this
  ·intro d hd;rw[hd]at g3;simpa using g3
 refine Dq (fun i o ho=>(hops i o ho).1) (fun D a w=>a.defers=a0.defers/\a.tmps.size=a0.tmps.size/\(∀s,s∉dsts->a.tmps.getD s undef=a0.tmps.getD s undef)/\F D (fun s=>a.tmps.getD s undef) w) ⟨rfl,rfl,fun _ _=>rfl,h0⟩ ?_ ?_
 ·intro i o D a w ho ⟨i1,i2,i3,i4⟩ hD hpre;obtain⟨_,hdst⟩:=hops i o ho;have hrun:=hstep i o D (fun s=>a.tmps.getD s undef) w ho i4 hD hpre i3
  have hput:∀(v:Value) (w':World),F (fun j=>if j=i then true else D j) (match o.dst with|some d=>fun s=>if s=d then v else a.tmps.getD s undef|none=>fun s=>a.tmps.getD s undef) w'->
    (a.put o.dst v).defers=a0.defers/\(a.put o.dst v).tmps.size=a0.tmps.size/\(∀s,s∉dsts->(a.put o.dst v).tmps.getD s undef=a0.tmps.getD s undef)/\F (fun j=>if j=i then true else D j) (fun s=>(a.put o.dst v).tmps.getD s undef) w':=by
   intro v w' hF;cases hd:o.dst with
   |none=>rw[hd]at hF;exact⟨i1,i2,i3,hF⟩
   |some d=>
    rw[hd]at hF;have hdm:=hdst d hd;have hlt:d<a.tmps.size:=by rw[i2];exact hds d hdm
    have hget:∀s,(a.put (some d) v).tmps.getD s undef=if s=d then v else a.tmps.getD s undef:=by
     intro s;simp only[Act.put,Array.getD_eq_getD_getElem?,Array.getElem?_setIfInBounds];by_cases e:d=s
     ·subst e;rw[if_pos rfl,if_pos hlt,if_pos rfl];rfl
     ·rw[if_neg e,if_neg (fun e'=>e e'.symm)]
    refine⟨i1,by simpa[Act.put]using i2,?_,?_⟩
    ·intro s hs;rw[hget,if_neg (fun e=>hs (by rw[e];exact hdm))]
     exact i3 s hs
    ·have e:(fun s=>(a.put (some d) v).tmps.getD s undef)=(fun s=>if s=d then v else a.tmps.getD s undef):=funext hget
     rw[e];exact hF
  unfold wpOp;rw[ho];simp only[];rw[nR];by_cases hw:Region.wanted o (gdV ops fun s=>a.tmps.getD s undef)=true
  ·rw[if_pos hw]at hrun|-;refine .inl ?_;unfold Oper.wp;rw[Act.eval_evalV];unfold bZ at hrun;cases hr:(execOp (bB fun s=>a.tmps.getD s undef) o).run P w with
   |halt x w'=>rw[hr]at hrun;exact hrun.elim
   |ok n w'=>
    rw[hr]at hrun;cases n<;>simp only[]at hrun<;>first|exact hrun.elim|skip
    ·exact hput _ _ hrun
    ·exact hput _ _ hrun
    ·rename_i f args;show Calls P f args w' _;refine hrun.mono ?_;rintro e w'' ⟨v,rfl,hK⟩;exact hput _ _ hK
  ·rw[if_neg hw]at hrun|-;exact hput _ _ hrun
 ·intro D a w ⟨i1,i2,i3,i4⟩ hall;have:=hend D _ w i4 hall;obtain⟨p1,p2,p3⟩:=kB (fun s=>a.tmps.getD s undef) dsts a0 hds
  have e:dP a0 dsts (fun s=>a.tmps.getD s undef)=a:=by
   obtain⟨t,df⟩:=a;have ht:(dP a0 dsts (fun s=>t.getD s undef)).tmps=t:=by
    apply Array.ext
    ·rw[p2];exact i2.symm
    ·intro s h1 h2;have h3:=p3 s (by rw[<-i2];exact h2)
     rw[Array.getD_eq_getD_getElem?,Array.getElem?_eq_getElem h1,Option.getD_some]at h3;rw[h3];by_cases hm:s∈dsts
     ·rw[if_pos hm];simp[Array.getD_eq_getD_getElem?,h2]
     ·rw[if_neg hm,<-i3 s hm];simp[Array.getD_eq_getD_getElem?,h2]
   have hdf:(dP a0 dsts (fun s=>t.getD s undef)).defers=df:=p1.trans i1.symm
   show dP a0 dsts (fun s=>t.getD s undef)={tmps:=t,defers:=df}
   cases hp:dP a0 dsts (fun s=>t.getD s undef)with
   |mk t' df'=>
    rw[hp]at ht hdf;have e1:t'=t:=ht;have e2:df'=df:=hdf;rw[e1,e2]
  rw[e]at this;exact this
theorem Jj{P:Program}{l:List Oper}{Q:Exit->Act->World->Prop}{a0:Act}{w0:World}
  (dsts:List Nat) (anc:List (List Nat)) (hok:okF l anc=true) (hdst:((List.range l.length).all fun i=>cH l i==1000000||dsts.contains (cH l i))=true) (hds:∀s∈dsts,s<a0.tmps.size)
  (WR:(Nat->Bool)->World->Prop) (fact:Nat->Value->World->Prop) (h0:WR (fun _=>false) w0.drew)
  (hmono:∀j v w w',fact j v w->Below w.heap.size w w'->fact j v w')
  (hstep:oW (Sc P l anc a0 WR fact) l 0)
  (hend:∀(D:Nat->Bool) (V:Nat->Value) (w:World),(∀i,i<l.length->D i=true)->(∀i,i<l.length->fact i (eT l V i) w)->WR D w->Q .normal (dP a0 dsts V) w):
  wpAny P .any l.toArray Q l.toArray.size (Array.replicate l.toArray.size false) a0 w0.drew:=by
 unfold okF at hok;rw[List.all_eq_true]at hok;have hget:∀i o,l[i]? =some o->i<l.length:=fun i o h=>(List.getElem?_eq_some_iff.1 h).1
 have hop:∀i o,l[i]? =some o->(∀e∈o.after.toList,Region.binds .any e=true->e.on<i/\(eA anc i).contains e.on=true)/\o.guard=none/\
   (∀j,(eA anc i).contains j=true->j<i/\∃e∈o.after.toList,Region.binds .any e=true/\(e.on=j\/(eA anc e.on).contains j=true))/\(∀d,o.dst=some d->cH l i=d/\d≠1000000)/\(o.dst=none->cH l i=1000000):=by
  intro i o ho;have h1:=hok i (List.mem_range.2 (hget i o ho));simp only[Bool.and_eq_true]at h1;obtain⟨⟨h2,h3⟩,_⟩:=h1;rw[ho]at h2;simp only[Option.map_some,Option.getD_some,Bool.and_eq_true,Option.isNone_iff_eq_none,bne_iff_ne,ne_eq]at h2;refine⟨?_,h2.1.2,?_,?_,?_⟩
  ·intro e he hb;have:=List.all_eq_true.1 h2.1.1 e he;rw[hb]at this;simpa using this
  ·intro j hj;rw[List.all_eq_true]at h3;have:=h3 j (by simpa using hj)
   simp only[Bool.and_eq_true,decide_eq_true_eq]at this;obtain⟨h4,h5⟩:=this;refine⟨h4,?_⟩;rw[ho]at h5;simp only[Option.map_some,Option.getD_some,List.any_eq_true,Bool.and_eq_true,Bool.or_eq_true,beq_iff_eq]at h5;exact h5
  ·intro d hd;refine⟨by unfold cH;rw[ho];simp[hd],?_⟩
   rintro rfl;exact h2.2 hd
  ·intro hd;unfold cH;rw[ho];simp[hd]
 have huniq:∀i j,i<l.length->j<l.length->j≠i->cH l j=cH l i->cH l i=1000000:=by
  intro i j hi hj hne he;have h1:=hok i (List.mem_range.2 hi);simp only[Bool.and_eq_true]at h1;obtain⟨_,h3⟩:=h1;rw[List.all_eq_true]at h3;have:=h3 j (List.mem_range.2 hj);simp only[Bool.or_eq_true,beq_iff_eq,bne_iff_ne,ne_eq]at this;rcases this with(h|h)|h
  ·exact absurd h hne
  ·exact absurd he h
  ·exact h
 let G:(Nat->Bool)->(Nat->Value)->World->Prop:=fun D V w=>
  (∀i j,D i=true->(eA anc i).contains j=true->D j=true)/\(∀i,i<l.length->D i=true->fact i (eT l V i) w)/\
  (∀s,(∀j,j<l.length->cH l j=s->D j=false)->V s=a0.tmps.getD s undef)/\WR D w
 refine Jh dsts ?_ hds G ?_ ?_ ?_
 ·rw[List.all_eq_true];intro i hi;have hi':=List.mem_range.1 hi;simp only[List.size_toArray]at hi';have ho:l[i]? =some l[i] :=List.getElem?_eq_getElem hi';obtain⟨q1,q2,q3,q4,q5⟩:=hop i _ ho;simp only[List.getElem?_toArray,ho,Option.map_some,Option.getD_some,Bool.and_eq_true];refine⟨?_,?_⟩
  ·rw[List.all_eq_true];intro e he;cases hb:Region.binds .any e with
   |false=>simp
   |true=>simpa using(q1 e he hb).1
  ·cases hd:l[i].dst with
   |none=>rfl
   |some d=>
    have e1:=(q4 d hd).1;rw[List.all_eq_true]at hdst;have:=hdst i (List.mem_range.2 hi');rw[e1]at this;simp only[Bool.or_eq_true,beq_iff_eq]at this;rcases this with h|h
    ·exact absurd h (q4 d hd).2
    ·simpa using h
 ·exact⟨(fun i j h=>by cases h),(fun i _ h=>by cases h),(fun s _=>rfl),h0⟩
 ·intro i o D V w ho ⟨g1,g2,g3,g4⟩ hD hpre hV;have ho':l[i]? =some o:=by simpa using ho
  obtain⟨q1,q2,q3,q4,q5⟩:=hop i o ho';have hi:=hget i o ho';have hanc:∀j,(eA anc i).contains j=true->D j=true:=by
   intro j hj;obtain⟨_,e,he,hb,h⟩:=q3 j hj;have:=hpre e he hb;rcases h with rfl|h
   ·exact this
   ·exact g1 _ _ this h
  have hdesc:∀j,(eA anc j).contains i=true->D j=false:=by
   intro j hj;cases hx:D j with
   |false=>rfl
   |true=>rw[g1 _ _ hx hj]at hD;cases hD
  have hs:=mI l 0 hstep i o ho';rw[Nat.zero_add]at hs;have hrun:=hs D V w hD (fun j hj=>⟨hanc j hj,g2 j (Nat.lt_trans (q3 j hj).1 hi) (hanc j hj)⟩) hdesc (fun s hsl=>g3 s (fun j hj hjs=>by
   unfold Hw at hsl;rw[List.all_eq_true]at hsl;have:=hsl j (List.mem_range.2 hj);simp only[Bool.or_eq_true,bne_iff_ne,ne_eq,beq_iff_eq]at this;rcases this with(h|h)|h
   ·exact absurd hjs h
   ·exact hdesc j h
   ·rw[h];exact hD)) g4
  rw[if_pos (by unfold Region.wanted;rw[q2])]
  have hmono':∀(K K':Value->World->Prop),(∀v w,K v w->K' v w)->bZ P o V w K->bZ P o V w K':=by
   intro K K' hk h;unfold bZ at h|-;split at h
   ·exact hk _ _ h
   ·exact hk _ _ h
   ·exact h.mono fun e w'' ⟨v,he,hv⟩=>⟨v,he,hk _ _ hv⟩
   ·exact h.elim
  have key:∀(U:Nat->Value) (v:Value) (w':World),(∀s,s≠cH l i->U s=V s)->(cH l i≠1000000->U (cH l i)=v)->
    (fact i (if cH l i=1000000 then undef else v) w'/\WR (fF D i) w'/\(w'=w\/Below w.heap.size w w'\/∀j,D j=true->fact j (eT l V j) w->fact j (eT l V j) w'))->G (fF D i) U w':=by
   rintro U v w' hVd hVv ⟨k1,k2,k3⟩;refine⟨?_,?_,?_,k2⟩
   ·intro i' j h1 h2;by_cases e:j=i
    ·simp[fF,e]
    ·by_cases e':i'=i
     ·subst e';simp only[fF,e,if_false];exact hanc j h2
     ·simp only[fF,e',if_false]at h1;simp only[fF,e,if_false];exact g1 _ _ h1 h2
   ·intro i' hi' h1;by_cases e:i'=i
    ·subst e;have:eT l U i'=if cH l i'=1000000 then undef else v:=by
      unfold eT;by_cases h6:cH l i'=1000000
      ·rw[if_pos h6,if_pos h6]
      ·rw[if_neg h6,if_neg h6,hVv h6]
     rw[this];exact k1
    ·simp only[fF,e,if_false]at h1;have:eT l U i'=eT l V i':=by
      unfold eT;by_cases h6:cH l i'=1000000
      ·rw[if_pos h6,if_pos h6]
      ·rw[if_neg h6,if_neg h6,hVd];intro h7;exact h6 (by rw[h7];exact huniq i i' hi hi' e h7)
     rw[this];have h8:=g2 i' hi' h1;rcases k3 with rfl|k3|k3
     ·exact h8
     ·exact hmono _ _ _ _ h8 k3
     ·exact k3 i' h1 h8
   ·intro s hs;have hne:s≠cH l i:=by
     intro h;have:=hs i hi h.symm;simp[fF]at this
    rw[hVd s hne];refine g3 s (fun j hj hjs=> ?_)
    have:=hs j hj hjs;by_cases e:j=i
    ·subst e;exact hD
    ·simpa[fF,e]using this
  refine hmono' _ _ ?_ hrun;intro v w' hk;show G (fF D i) _ w';cases hd:o.dst with
  |none=>
   have e1:=q5 hd;refine key _ v w' ?_ (fun h=>absurd e1 h) hk
   intro s _;rfl
  |some d=>
   have e1:=(q4 d hd).1;refine key _ v w' ?_ ?_ hk
   ·intro s hs;rw[e1]at hs;simp only[];rw[if_neg hs]
   ·intro _;rw[e1];simp
 ·intro D V w ⟨g1,g2,g3,g4⟩ hall;simp only[List.size_toArray]at hall;exact hend D V w hall (fun i hi=>g2 i hi (hall i hi)) g4
theorem oK{r n:Nat}{P:Program}{id:Nat}{l:List Oper}{Q:Exit->Act->World->Prop}{a0:Act}{w0:World}(hm:P.follows .mixedOrders=true)
  (hdf:(l.all fun o=>match o.op with| .defer _=>false|_=>true)=true)
  (dsts:List Nat) (anc:List (List Nat)) (hok:okF l anc=true) (hdst:((List.range l.length).all fun i=>cH l i==1000000||dsts.contains (cH l i))=true) (hds:∀s∈dsts,s<a0.tmps.size)
  (WR:(Nat->Bool)->World->Prop) (fact:Nat->Value->World->Prop) (h0:WR (fun _=>false) w0.drew)
  (hmono:∀j v w w',fact j v w->Below w.heap.size w w'->fact j v w')
  (hstep:oW (Sc P l anc a0 WR fact) l 0)
  (hend:∀(D:Nat->Bool) (V:Nat->Value) (w:World),(∀i,i<l.length->D i=true)->(∀i,i<l.length->fact i (eT l V i) w)->WR D w->Q .normal (dP a0 dsts V) w):
  (Code.region id l.toArray true).wpIn (Fence.wide.inRound r) n P Q a0 w0:=by
 refine aAS (wpIn_region_draw fun t=> ?_)
 simp only[Region.schedule,hm,Bool.true_or,if_true];refine kR ?_ (aAT Q) _ _ _ (wpAny_sound _ t _ _ _ (Jj dsts anc hok hdst hds WR fact h0 hmono hstep fun D V w h1 h2 h3=>⟨rfl,hend D V w h1 h2 h3⟩))
 intro i o ho c hc;have:=List.all_eq_true.1 hdf o (List.mem_of_getElem? (by simpa using ho))
 rw[hc]at this;cases this
end Go.Proofs.YtdaeofhdgabhjaaGreat
namespace Go.Proofs.YtdaeofhdgabhjaaGreat
open Go.RowKit
def RdV(w:World)(a:Option Addr)(xs:List Geo.V):Prop:=
 ∀i,i<xs.length->∃b off,a=some ⟨b,off,none⟩/\b<w.heap.size/\w.cell? ⟨b,off+i*2,none⟩=some (.int .i64 (Geo.nth xs i).x)/\w.cell? ⟨b,off+i*2+1,none⟩=some (.int .i64 (Geo.nth xs i).y)
theorem RdV.below{w w':World}{a:Option Addr}{xs:List Geo.V}(h:RdV w a xs)(hb:Below w.heap.size w w'):RdV w' a xs:=by
 intro i hi;obtain⟨b,off,ha,hlt,h1,h2⟩:=h i hi;exact⟨b,off,ha,Nat.lt_of_lt_of_le hlt hb.size,(hb.cell (p:=⟨b,_,none⟩) hlt).trans h1,(hb.cell (p:=⟨b,_,none⟩) hlt).trans h2⟩
def iH(xs:List Geo.S):List Value:=xs.flatMap fun s=>[.int .i64 s.a.x,.int .i64 s.a.y,.int .i64 s.b.x,.int .i64 s.b.y]
theorem wY(xs:List Geo.S):(iH xs).length=xs.length*4:=by
 induction xs with
 |nil=>rfl
 |cons s l ih=>unfold iH at*;simp only[List.flatMap_cons,List.length_append,ih,List.length_cons,List.length_nil];omega
theorem Jv(xs ys:List Geo.S):iH (xs++ys)=iH xs++iH ys:=by unfold iH;rw[List.flatMap_append]
theorem Rd.Is{w:World}{base:Nat}{e:TypeId}{size:Nat}{v:Value}{n:Nat}{cs:List Value}(h:w.ownsRow base e size v n cs):∃a c,v= .slice a n c/\Rd w a cs/\kQ base a/\(a=none->c=0)/\n<=c:=by
 obtain⟨a,c,hv,h1,h2,h3⟩:=Rd.Pi h;refine⟨a,c,hv,h1,h2,h3,?_⟩;rcases h.2 with⟨h4,h5⟩|⟨g,cap,cur,h4,_,_,h5,_⟩
 ·omega
 ·rw[hv]at h4;simp only[Value.slice.injEq]at h4;omega
theorem wT{w:World}{base base':Nat}{e:TypeId}{size:Nat}{v:Value}{n:Nat}{xs:List Value}(h:w.ownsRow base e size v n xs)(hb:base'<=base):w.ownsRow base' e size v n xs:=
 ⟨h.1,h.2.imp id fun⟨g,cap,cur,h1,h2,h3⟩=>⟨g,cap,cur,h1,Nat.le_trans hb h2,h3⟩⟩
def jQ(xs:List Geo.V):List Value:=xs.flatMap fun v=>[.int .i64 v.x,.int .i64 v.y]
theorem mF(xs:List Geo.V):(jQ xs).length=xs.length*2:=by
 induction xs with
 |nil=>rfl
 |cons s l ih=>unfold jQ at*;simp only[List.flatMap_cons,List.length_append,ih,List.length_cons,List.length_nil];omega
theorem Ws(xs:List Geo.V):∀u∈jQ xs,u.oneCell'=true:=by
 intro u hu;obtain⟨v,_,hv⟩:=List.mem_flatMap.1 hu;simp only[List.mem_cons,List.not_mem_nil,or_false]at hv;rcases hv with rfl|rfl<;>rfl
theorem yJ(xs:List Geo.V):∀(i:Nat),i<xs.length->(jQ xs)[i*2]? =some (.int .i64 (Geo.nth xs i).x)/\(jQ xs)[i*2+1]? =some (.int .i64 (Geo.nth xs i).y):=by
 induction xs with
 |nil=>intro i hi;simp at hi
 |cons s l ih=>
  intro i hi;have e:jQ (s::l)=[.int .i64 s.x,.int .i64 s.y] ++jQ l:=by unfold jQ;rw[List.flatMap_cons]
  rw[e];cases i with
  |zero=>simp[Geo.nth]
  |succ i=>
   have h:=ih i (by simpa using hi)
   have e0:(i+1)*2=2+i*2:=by omega
   rw[e0,List.getElem?_append_right (by simp),List.getElem?_append_right (by simp;omega)]
   simpa[Nat.add_assoc,Nat.add_sub_cancel_left,Geo.nth]using h
theorem RdV.aJh{w:World}{a:Option Addr}{xs:List Geo.V}(h:Rd w a (jQ xs)):RdV w a xs:=by
 intro i hi;obtain⟨g0,g1⟩:=yJ xs i hi;obtain⟨b,off,ha,hlt,h0⟩:=h _ _ g0;obtain⟨b',off',he,_,h1⟩:=h _ _ g1;rw[ha]at he;simp only[Option.some.injEq,Addr.mk.injEq,and_true]at he;obtain⟨rfl,rfl⟩:=he;exact⟨b,off,ha,hlt,h0,h1⟩
theorem RdV.rd{w:World}{a:Option Addr}{xs:List Geo.V}(h:RdV w a xs):Rd w a (jQ xs):=by
 intro i u hi;have hlt:i<(jQ xs).length:=(List.getElem?_eq_some_iff.1 hi).1;rw[mF]at hlt;obtain⟨g0,g1⟩:=yJ xs (i/2) (by omega)
 obtain⟨b,off,ha,hb,h0,h1⟩:=h (i/2) (by omega)
 refine⟨b,off,ha,hb,?_⟩;by_cases hm:i % 2=0
 ·have e:i=i/2*2:=by omega
  rw[e]at hi|-;rw[g0]at hi;cases hi;exact h0
 ·have e:i=i/2*2+1:=by omega
  rw[e]at hi|-;rw[g1]at hi;cases hi;exact h1
structure RV where
 a:Option Addr
 c:Nat
 r:Geo.aH
instance:Inhabited RV:=⟨⟨none,0,[]⟩⟩
def RV.enc(x:RV):Value:= .slice x.a x.r.length x.c
def Len(x:RV):Prop:=x.r.length<=1000/\x.r.length<=x.c/\(x.a=none->x.c=0)
def rA(w:World):bI:=fun b o v=>w.cell? ⟨b,o,none⟩=some v
theorem mY{w:World}{a:Option Addr}{c:Nat}{r:List Geo.V}(h:RdV w a r)(hl:Len ⟨a,c,r⟩):aU (rA w) (.sl r.length (lL r)) (.slice a r.length c):=by
 obtain⟨_,h2,h3⟩:=hl;dsimp only at h2 h3;unfold aU;refine⟨a,c,rfl,h2,fun ha=>⟨h3 ha,?_⟩,?_⟩
 ·cases r with
  |nil=>rfl
  |cons v r=>obtain⟨b,off,hb,_⟩:=h 0 (by simp);rw[ha]at hb;cases hb
 ·rintro ad rfl;refine⟨fun h0=> ?_,dS.of _ _ _ fun i x hi=> ?_⟩
  ·obtain⟨b,off,hb,_⟩:=h 0 h0;cases hb;rfl
  ·have hlt:i<(lL r).length:=(List.getElem?_eq_some_iff.1 hi).1;rw[Ex.length]at hlt;obtain⟨b,off,hb,_,h0,h1⟩:=h (i/2) (by omega)
   cases hb;have h4:=aCx (v:=r) (i:=i/2) (by omega)
   have g:∀j,j<2->(lL r)[i/2*2+j]? =([.int .i64 (Geo.nth r (i/2)).x,.int .i64 (Geo.nth r (i/2)).y] :List PV)[j]? :=fun j hj=>by
    rw[<-h4,List.getElem?_take,if_pos hj,List.getElem?_drop]
   rcases Nat.mod_two_eq_zero_or_one i with hm|hm
   ·have:=g 0 (by decide)
    rw[show i/2*2+0=i by omega,hi]at this
    cases this;exact⟨_,by show w.cell? _=_;rw[show off+i=off+i/2*2 by omega];exact h0,rfl,by unfold aU;rfl⟩
   ·have:=g 1 (by decide)
    rw[show i/2*2+1=i by omega,hi]at this
    cases this;exact⟨_,by show w.cell? _=_;rw[show off+i=off+i/2*2+1 by omega];exact h1,rfl,by unfold aU;rfl⟩
theorem bO.one{C:bI}{x:PV}{v:Value}(h:aU C x v):bO C [x] [v] :=by
 unfold bO;exact⟨_,_,rfl,h,by unfold bO;rfl⟩
theorem bO.Zb{C:bI}{x:PV}{v:Value}{l:List PV}{vs:List Value}(h:aU C x v)(h2:bO C l vs):bO C (x::l) (v::vs):=by
 unfold bO;exact⟨_,_,rfl,h,h2⟩
theorem wL{f:FuncId}{xs:List SV}{r:SV}{B:List PV}{q:PV}{vs:List Value}{u:Value}{w:World}(h:∃A q,avs xs=A.map .p/\r.av= .p q/\Sat Tryz.prog false f A q)(hB:avs xs=B.map .p)(hq:r.av= .p q)
  (hu:∀C v,aU C q v->v=u) (hr:bO (rA w) B vs):Calls Tryz.prog f vs.toArray w fun e w'=>e= .returned u/\Below w.heap.size w w':=by
 obtain⟨A,q',h1,h2,h3⟩:=h;rw[hq]at h2;cases h2;rw[hB]at h1;have:B=A:=by have:=congrArg cK h1;rw[bT,bT]at this;cases this;rfl
 subst this;refine(h3.2 (rA w) w vs (fun _ _ _ h=>h) hr).mono ?_
 rintro e w' ⟨v,rfl,hv,hb⟩;exact⟨by rw[hu _ _ hv],hb⟩
theorem Er(a:Option Addr)(c:Nat)(xs:List Geo.V)(w:World)(h:RdV w a xs)(hl:Len ⟨a,c,xs⟩):
  Calls Tryz.prog 83 #[.slice a xs.length c] w fun e w'=>e= .returned (.bool (Geo.cI xs))/\Below w.heap.size w w':=
 wL (k83 [.lst .V xs] xs rfl ((fM (l:=c83.pre xs)).1 hl.1)) (B:=[.sl xs.length (lL xs)]) rfl rfl (fun C v h=>by unfold aU at h;exact h) (bO.one (mY h hl))
theorem Hc(a:Option Addr)(c:Nat)(xs:List Geo.V)(w:World)(h:RdV w a xs)(hl:Len ⟨a,c,xs⟩):
  Calls Tryz.prog 89 #[.slice a xs.length c] w fun e w'=>e= .returned (.int .i64 (if Geo.cI xs then Geo.eL xs else 0))/\Below w.heap.size w w':=
 wL (k89 [.lst .V xs] xs rfl ((fM (l:=c89.pre xs)).1 hl.1)) (B:=[.sl xs.length (lL xs)]) rfl rfl (fun C v h=>by unfold aU at h;exact h) (bO.one (mY h hl))
theorem jZ(a:Option Addr)(c:Nat)(xs:List Geo.V)(a':Option Addr)(c':Nat)(ys:List Geo.V)(p:Int)(w:World)(h':RdV w a' ys)(hl':Len ⟨a',c',ys⟩)(h:RdV w a xs)(hl:Len ⟨a,c,xs⟩):
  Calls Tryz.prog 123 #[.slice a xs.length c,.slice a' ys.length c',.int .i64 p] w fun e w'=>e= .returned (.bool (Geo.cK xs ys p))/\Below w.heap.size w w':=
 wL (aHA [.lst .V xs,.lst .V ys,.int .i64 p] (xs,ys,p) rfl ((fM (l:=aEV.pre (xs,ys,p))).1 ⟨hl.1,hl'.1⟩)) (B:=[.sl xs.length (lL xs),.sl ys.length (lL ys),.int .i64 p]) rfl rfl (fun C v h=>by unfold aU at h;exact h)
  ((bO.one (by unfold aU;rfl)).Zb (mY h' hl')|>.Zb (mY h hl))
theorem tR(a:Option Addr)(c:Nat)(xs:List Geo.V)(a':Option Addr)(c':Nat)(ys:List Geo.V)(w:World)(h:RdV w a xs)(h':RdV w a' ys)(hl:Len ⟨a,c,xs⟩)(hl':Len ⟨a',c',ys⟩):
  Calls Tryz.prog 124 #[.slice a xs.length c,.slice a' ys.length c'] w fun e w'=>e= .returned (.bool (Geo.dY xs ys))/\Below w.heap.size w w':=
 wL (aHz [.lst .V xs,.lst .V ys] (xs,ys) rfl ((fM (l:=aEU.pre (xs,ys))).1 ⟨hl.1,hl'.1⟩)) (B:=[.sl xs.length (lL xs),.sl ys.length (lL ys)]) rfl rfl (fun C v h=>by unfold aU at h;exact h)
  ((bO.one (mY h' hl')).Zb (mY h hl))
theorem Wx(a:Option Addr)(c:Nat)(xs:List Geo.V)(w:World)(h:RdV w a xs)(hl:Len ⟨a,c,xs⟩):
  Calls Tryz.prog 155 #[.slice a xs.length c] w fun e w'=>∃a' c',e= .returned (.slice a' (Geo.aD xs).length c')/\Rd w' a' (iH (Geo.aD xs))/\kQ w.heap.size a'/\(a'=none->c'=0)/\Below w.heap.size w w':=by
 obtain⟨A,Y,h1,h2,h3⟩:=aHx [.lst .V xs] xs rfl ((fM (l:=aES.pre xs)).1 hl.1);cases Y with
 |cons y Y=>simp[avs]at h2
 |nil=>
 have hA:A=[.sl xs.length (lL xs)] :=by
  have h1:[AV.p (.sl xs.length (lL xs))] =A.map .p:=h1;have:=congrArg cK h1;rw[bT]at this;cases this;rfl
 subst hA;refine(h3.2.2 (rA w) w [_] (fun _ _ _ h=>h) (bO.one (mY h hl))).mono ?_
 rintro e w' ⟨v,us,q,c',rfl,hb,hys,hrow⟩;unfold bO at hys;subst hys;have e1:∀l:List Geo.S,iH l=(l.flatMap fun s=>[s.a.x,s.a.y,s.b.x,s.b.y]).map (Value.int .i64):=fun l=>by unfold iH;rw[List.map_flatMap];rfl
 have e2:∀l:List Geo.S,LT.S.enc l=(l.flatMap fun s=>[s.a.x,s.a.y,s.b.x,s.b.y]).map (PV.int .i64):=fun l=>by unfold LT.enc;rw[List.map_flatMap];rfl
 rcases hrow with⟨_,rfl,hm,_,_⟩|⟨b,arr,_,rfl,h4,h5,h6,_,h7,_,h8⟩
 ·have hn:Geo.aD xs=[] :=List.length_eq_zero_iff.1 hm;rw[hn];exact⟨none,0,rfl,(fun i u hi=>by simp[iH]at hi),(fun b hb=>by cases hb),(fun _=>rfl),hb⟩
 ·refine⟨some ⟨b,0,none⟩,c',rfl,fun i u hi=> ?_,fun b' hb'=>by cases hb';exact h5,(fun e=>by cases e),hb⟩
  rw[e1,List.getElem?_map,Option.map_eq_some_iff]at hi;obtain⟨n,hn,rfl⟩:=hi;obtain⟨u,g1,_,g2⟩:=h8 i (.int .i64 n) (by rw[e2,List.getElem?_map,hn];rfl)
  unfold aU at g2;subst g2;exact⟨b,0,rfl,(Array.getElem?_eq_some_iff.1 h6).1,by rw[Nat.zero_add,cell_of_row w' b i arr 46 (0,0) h6];exact g1⟩
end Go.Proofs.YtdaeofhdgabhjaaGreat
namespace Go.Proofs.YtdaeofhdgabhjaaGreat
open Go.RowKit Go.Shelf
attribute [local go_sem] Oper.semAt_some
def RdH(n0:Nat)(w:World)(ah:Option Addr)(hs:List RV):Prop:=∀i,i<hs.length->∃b off,ah=some ⟨b,off,none⟩/\b<n0/\w.cell? ⟨b,off+i,none⟩=some (RV.enc (hs.getD i default))
theorem RdH.below{n0:Nat}{w w':World}{ah:Option Addr}{hs:List RV}(h:RdH n0 w ah hs)(hb:Below n0 w w'):RdH n0 w' ah hs:=by
 intro i hi;obtain⟨b,off,ha,hlt,h1⟩:=h i hi;exact⟨b,off,ha,hlt,(hb.cell (p:=⟨b,_,none⟩) hlt).trans h1⟩
theorem RdH.mono{n0 n1:Nat}{w:World}{ah:Option Addr}{hs:List RV}(h:RdH n0 w ah hs)(hn:n0<=n1):RdH n1 w ah hs:=by
 intro i hi;obtain⟨b,off,ha,hlt,h1⟩:=h i hi;exact⟨b,off,ha,by omega,h1⟩
def Kp2(n0 b:Nat)(W W':World):Prop:=Below n0 W W'/\W'.heap[b]? =W.heap[b]?
theorem Kp2.trans{n0 b:Nat}{A B C:World}(h:Kp2 n0 b A B)(k:Kp2 n0 b B C):Kp2 n0 b A C:=⟨h.1.trans k.1,k.2.trans h.2⟩
theorem Kp2.blk{n0 b:Nat}{W W':World}{t:TypeId}{cs:Array Value}(h:Kp2 n0 b W W')(hb:Blk W b t cs):Blk W' b t cs:=h.2.trans hb
set_option maxRecDepth 100000 in
set_option maxHeartbeats 2000000 in
theorem Vu(F:Fence)(n:Nat)(h179:F.fn 179)(hro:F.round=none)(hn:1<=n)(l b n0:Nat)(o:RV)(ah:Option Addr)(ch:Nat)(hs:List RV)(hhs:hs.length<=1000)(J Jx:List RV->World->Prop)
  (hY:∀pre x W,x∈o::hs->J pre W->pre.length<hs.length+1->YieldAt F (n-1) Tryz.prog l #[RV.enc x] W fun e W'=>
    (e= .returned (.bool true)/\J (pre++[x]) W'/\Kp2 n0 b W W')\/(e= .returned (.bool false)/\Jx (pre++[x]) W'))
  (W:World) (hB:Blk W b 26 #[RV.enc o,.slice ah hs.length ch]) (hH:RdH n0 W ah hs) (h0:J [] W):
  CallsIn F n Tryz.prog 179 #[.func (.yield l) #[] #[],.pointer (some ⟨b,0,none⟩)] W fun e W'=>(∃v,e= .returned v)/\
   ((∃ys,ys=o::hs/\J ys W')\/(∃pre,pre<+:o::hs/\Jx pre W')):=by
 obtain⟨fn,tmps,assign,body,hy,hR⟩:=hY [] o W List.mem_cons_self h0 (by simp)
 dsimp only[RV.enc]at hy;have c0:=hB.cell 0;have c1:=hB.cell 1;simp[RV.enc]at c0 c1;refine callsIn_of_wp Tryz.func179 rfl h179 ?_ hro;simp only[Tryz.ntmps179,List.size_toArray,List.length_cons,List.length_nil,Nat.reduceAdd,Nat.reduceSub,Array.replicate_succ,Array.replicate_zero,List.push_toArray,List.append_toArray,List.nil_append,List.cons_append]
 gi_wp2
 refine hR.mono ?_;rintro e W1 (⟨rfl,hJ1,hk1⟩|⟨rfl,hJx1⟩)
 ·have hB1:=hk1.blk hB;have hH1:=hH.below hk1.1;clear c0 c1 hR hy;have c0:=hB1.cell 0;have c1:=hB1.cell 1;simp[RV.enc]at c0 c1
  gi_wp2
  gi_loopw [4,13] (fun _ i wr=>∃k:Nat,k<=hs.length/\i= .int .i64 k/\J (o::hs.take k) wr/\Kp2 n0 b W1 wr) (fun _ i _=>hs.length-(intOf i).toNat)
  case atStart=>exact⟨0,by omega,rfl,by simpa using hJ1,Below.refl _ _,rfl⟩
  case round=>
   obtain⟨k,hk,rfl,hJr,hkr⟩:=hrel;by_cases hlt:k<hs.length
   ·obtain⟨bb,off,rfl,hbb,p0⟩:=hH1.below hkr.1 k hlt;have hblt:bb<wr.heap.size:=by
     rcases Nat.lt_or_ge bb wr.heap.size with h|h
     ·exact h
     ·simp[World.cell?,Array.getElem?_eq_none h]at p0
    have htk:o::hs.take (k+1)=(o::hs.take k)++[hs.getD k default] :=by
     rw[List.take_add_one,List.getD_eq_getElem?_getD,List.getElem?_eq_getElem hlt];simp
    obtain⟨fn,tmps,assign,body,hy,hR⟩:=hY (o::hs.take k) (hs.getD k default) wr (List.mem_cons_of_mem _ (by rw[List.getD_eq_getElem?_getD,List.getElem?_eq_getElem hlt];exact List.getElem_mem hlt)) hJr (by simp;omega)
    rw[<-htk]at hR;dsimp only[RV.enc]at hy;unfold RV.enc at p0;clear htk;generalize hs.getD k default=z at hy p0
    gi_wp2
    refine hR.mono ?_;rintro e W3 (⟨rfl,hJ3,hk3⟩|⟨rfl,hJx3⟩)
    ·gi_wp2
     go_roundw
     case rel=>exact⟨k+1,by omega,by go_num,hJ3,hkr.trans hk3⟩
     case measure=>simp[intOf];omega
    ·gi_wp2
     refine bodyPost_ret (results_none rfl _ _ _) rfl ?_;exact⟨⟨_,rfl⟩,.inr ⟨_,⟨hs.drop (k+1),by simp⟩,hJx3⟩⟩
   ·have hk2:k=hs.length:=by omega
    subst hk2;rw[List.take_length]at hJr
    gi_wp2
    go_end0
    exact⟨⟨_,rfl⟩,.inl ⟨_,rfl,hJr⟩⟩
 ·gi_wp2
  refine bodyPost_ret (results_none rfl _ _ _) rfl ?_;exact⟨⟨_,rfl⟩,.inr ⟨_,⟨hs,by simp⟩,hJx1⟩⟩
theorem mD(F:Fence)(n:Nat)(h179:F.fn 179)(hro:F.round=none)(hn:1<=n)(b n0:Nat)(o:RV)(ah:Option Addr)(ch:Nat)(hs:List RV)(hhs:hs.length<=1000)(w:World)(hn0:n0<=w.heap.size)(hB:Blk w b 26 #[RV.enc o,.slice ah hs.length ch])(hH:RdH n0 w ah hs):
  SeqStopsK F n Tryz.prog 179 #[.pointer (some ⟨b,0,none⟩)] (fun x:{x:RV//x∈o::hs}=> #[RV.enc x.1]) (Kp2 n0 b) (fun ys=>ys.map (·.1)=o::hs) (fun pre=>pre.map (·.1)<+:o::hs) (hs.length+1) w:=fun l J Jx W hW _ _ hY h0=>by
 refine(Vu F n h179 hro hn l b n0 o ah ch hs hhs (fun pre W=>∃p:List {x:RV//x∈o::hs},p.map (·.1)=pre/\J p W) (fun pre W=>∃p:List {x:RV//x∈o::hs},p.map (·.1)=pre/\Jx p W) ?_ W (hB.then_ hW) (hH.below (hW.mono hn0)) ⟨[],rfl,h0⟩).mono ?_
 ·rintro pre x W' hx ⟨p,rfl,hJ⟩ hl;obtain⟨fn,tmps,assign,body,hy,hR⟩:=hY p ⟨x,hx⟩ W' hJ (by simpa using hl)
  refine⟨fn,tmps,assign,body,hy,hR.mono ?_⟩;rintro e W2 (⟨rfl,h1,h2⟩|⟨rfl,h1⟩)
  ·exact .inl ⟨rfl,⟨p++[⟨x,hx⟩],by simp,h1⟩,h2⟩
  ·exact .inr ⟨rfl,⟨p++[⟨x,hx⟩],by simp,h1⟩⟩
 ·rintro e W' ⟨hv,⟨ys,rfl,p,hp,hJ⟩|⟨pre,hpre,p,rfl,hJ⟩⟩
  ·exact⟨hv,.inl ⟨p,hp,hJ⟩⟩
  ·exact⟨hv,.inr ⟨p,hpre,hJ⟩⟩
theorem Sn{n0 b:Nat}{w:World}(hn:n0<=w.heap.size)(hb:b<w.heap.size)(W:World)(l:Nat)(o o':Obj)(hl:w.heap.size<=l)(h:W.heap[l]? =some o)(h1:o.isCells=false)(h2:o.isWalk=false):Kp2 n0 b W (W.putObj l o'):=
 ⟨belowK_b hn W l o o' hl h h1 h2,World.putObj_heap_other (by omega)⟩
theorem sZ(o:RV)(ah:Option Addr)(nh ch:Nat)(w:World):
  Calls Tryz.prog 122 #[.agg #[RV.enc o,.slice ah nh ch]] w fun e w'=>e= .returned (.func (.func 179) #[] #[.pointer (some ⟨w.heap.size,0,none⟩)])/\w'=w.alloc (.cells #[RV.enc o,.slice ah nh ch] 26):=by
 unfold RV.enc
 go_enter Tryz.func122,Tryz.ntmps122
 go_wp2
 go_ret
 exact⟨rfl,rfl⟩
end Go.Proofs.YtdaeofhdgabhjaaGreat
namespace Go.Proofs.YtdaeofhdgabhjaaGreat
open Go.RowKit Go.Shelf
open Geo (aB)
attribute [local go_sem] Oper.semAt_some
structure RdSh(w:World)(o:RV)(ah:Option Addr)(hs:List RV):Prop where
 h:RdH w.heap.size w ah hs
 v:∀x∈o::hs,RdV w x.a x.r/\Len x
 n:hs.length<=1000
theorem RdSh.below{w w':World}{o:RV}{ah:Option Addr}{hs:List RV}(H:RdSh w o ah hs)(hb:Below w.heap.size w w'):RdSh w' o ah hs:=
 ⟨(H.h.below hb).mono hb.size,fun x hx=>⟨(H.v x hx).1.below hb,(H.v x hx).2⟩,H.n⟩
def gK(o:RV)(hs:List RV):Geo.Shape:=⟨o.r,hs.map RV.r⟩
section
variable {F:Fence} {n:Nat} {P:Program} {fn:Func} {R:Ending->World->Prop} {a:Act} {w:World} {v:Value}
theorem Cy(hr:(results fn a.tmps).run P w= .ok v w)(hd:a.defers=[])(hR:R (.returned v) w):bodyPostM F n P fn R .ret a w:=by
 show LeavesInM F n P fn a.tmps R a.defers .returning w;rw[hd];exact⟨v,hr,hR⟩
theorem Cw{D:Nat}(hd:a.defers=[{target:= .collected D,args:= #[]}])(hK:w.heap[D]? =some (.deferred (some [])))(hr:(results fn a.tmps).run P (w.putObj D (.deferred none))= .ok v (w.putObj D (.deferred none)))
  (hR:R (.returned v) (w.putObj D (.deferred none))):bodyPostM F n P fn R .ret a w:=by
 show LeavesInM F n P fn a.tmps R a.defers .returning w;rw[hd];exact⟨by simp,.inl ⟨_,_,rfl,run_takeDeferred hK,v,hr,hR⟩⟩
end
theorem eY{n0 D:Nat}{W:World}(hD:n0<=D)(hK:W.heap[D]? =some (.deferred (some []))):Below n0 W (W.putObj D (.deferred none)):=
 (Below.refl n0 W).grown (grownBy_putObj' W D _) (by have:=(Array.getElem?_eq_some_iff.1 hK).1;omega) (fun k e=>by cases e;omega)
theorem nW{W W':World}(h:Below W.heap.size W W'):KeepsOthers W W':=
 ⟨h.size,fun k _o hk _=>(h.block k (Array.getElem?_eq_some_iff.1 hk).1).trans hk⟩
theorem jY{β:Type}{B g:Nat}{t:TypeId}{cs:β->Array Value}:OwnFrom B (fun(s:β) W=>Blk W g t (cs s)):=fun s W W' row h hg hr=>by
 have h':W.heap[g]? =some (.cells (cs s) t (0,0)):=h;show W'.heap[g]? =some (.cells (cs s) t (0,0));refine(hg.block g (Array.getElem?_eq_some_iff.1 h').1 ?_).trans h';intro e;obtain⟨_,o,ho,hc⟩:=hr g e.symm;rw[h']at ho;cases ho;cases hc
theorem rD{β:Type}{B:Nat}{p:β->Prop}:OwnFrom B (fun(s:β) (_:World)=>p s):=fun _ _ _ _ h _ _=>h
theorem aBq{W:World}{D g:Nat}{t:TypeId}{cs:Array Value}(h:Blk W g t cs)(hK:W.heap[D]? =some (.deferred (some [])))(o':Obj):Blk (W.putObj D o') g t cs:=by
 have h':W.heap[g]? =some (.cells cs t (0,0)):=h;refine(World.putObj_heap_other ?_).trans h';intro e;subst e;rw[h']at hK;cases hK
theorem rC{F:Fence}{n:Nat}{R:Ending->World->Prop}{W:World}{D s:Nat}{T:Array Value}{v:Bool}(hT:T.getD 2 undef= .pointer (some ⟨s,0,none⟩))(b2:Blk W s 4 #[.bool v])(hK:W.heap[D]? =some (.deferred (some [])))
  (hR:R (.returned (.bool v)) (W.putObj D (.deferred none))):bodyPostM F n Tryz.prog Tryz.f55 R .ret {tmps:=T,defers:=[{target:= .collected D,args:= #[]}]} W:=by
 refine Cw (v:= .bool v) rfl hK ?_ hR;have c2:=(aBq b2 hK (.deferred none)).cell 0;simp at c2;rw[Array.getD_eq_getD_getElem?]at hT;simp[results,Tryz.f55,go_sem,hT,c2]
theorem Ng{s:Geo.Shape}(h:6<s.holes.length):Geo.aM s=false:=by
 unfold Geo.aM;rw[decide_eq_false (by omega)];simp
def jV(o:Geo.aH)(L:List Geo.aH)(i:Nat):Bool:=Geo.cK (aB L i) o 2&&Geo.dY (aB L i) o&&
 ((List.range i).all fun k=>Geo.dY (aB L i) (aB L k)&&Geo.cK (aB L i) (aB L k) 0&&Geo.cK (aB L k) (aB L i) 0)
def Aw(L:List Geo.aH)(i k:Nat):Bool:=Geo.dY (aB L i) (aB L k)&&Geo.cK (aB L i) (aB L k) 0&&Geo.cK (aB L k) (aB L i) 0
theorem lC(s:Geo.Shape):Geo.aM s=(decide (s.holes.length<=6)&&(Geo.aA s).all Geo.cI&&decide (Geo.eW s<=80)&&((List.range s.holes.length).all (jV s.outer s.holes))):=rfl
theorem Nh{s:Geo.Shape}{i:Nat}(hi:i<s.holes.length)(h:jV s.outer s.holes i=false):Geo.aM s=false:=by
 rw[lC];have:((List.range s.holes.length).all (jV s.outer s.holes))=false:=List.all_eq_false.2 ⟨i,List.mem_range.2 hi,by simp[h]⟩
 rw[this];simp
theorem Dt{s:Geo.Shape}(h:80<Geo.eW s):Geo.aM s=false:=by
 rw[lC,decide_eq_false (show¬Geo.eW s<=80 by omega)];simp
theorem Nf{s:Geo.Shape}{r:Geo.aH}(hr:r∈Geo.aA s)(h:Geo.cI r=false):Geo.aM s=false:=by
 rw[lC];have:((Geo.aA s).all Geo.cI)=false:=List.all_eq_false.2 ⟨r,hr,by simp[h]⟩
 rw[this];simp
theorem Py{s:Geo.Shape}(h1:¬6<s.holes.length)(h2:∀r∈Geo.aA s,Geo.cI r=true)(h3:¬80<Geo.eW s)(h4:∀i,i<s.holes.length->jV s.outer s.holes i=true):Geo.aM s=true:=by
 rw[lC,decide_eq_true (show s.holes.length<=6 by omega),decide_eq_true (show Geo.eW s<=80 by omega),List.all_eq_true.2 h2]
 simp only[Bool.true_and,Bool.and_true,List.all_eq_true,List.mem_range];exact h4
theorem Wq{o:Geo.aH}{L:List Geo.aH}{i:Nat}(h1:Geo.cK (aB L i) o 2=true)(h2:Geo.dY (aB L i) o=true)(h3:∀k,k<i->Aw L i k=true):jV o L i=true:=by
 unfold jV;rw[h1,h2];simp only[Bool.true_and,List.all_eq_true,List.mem_range];exact h3
theorem Ra{o:Geo.aH}{L:List Geo.aH}{i:Nat}(h1:Geo.cK (aB L i) o 2=false):jV o L i=false:=by unfold jV;rw[h1];simp
theorem Qz{o:Geo.aH}{L:List Geo.aH}{i:Nat}(h1:Geo.dY (aB L i) o=false):jV o L i=false:=by unfold jV;rw[h1];simp
theorem Qy{o:Geo.aH}{L:List Geo.aH}{i k:Nat}(hk:k<i)(h1:Aw L i k=false):jV o L i=false:=by
 unfold jV;have:((List.range i).all fun k=>Geo.dY (aB L i) (aB L k)&&Geo.cK (aB L i) (aB L k) 0&&Geo.cK (aB L k) (aB L i) 0)=false:=List.all_eq_false.2 ⟨k,List.mem_range.2 hk,by simpa[Aw]using h1⟩
 rw[this];simp
theorem aAV(hs:List RV){k:Nat}(hk:k<hs.length):aB (hs.map RV.r) k=(hs.getD k default).r:=by
 unfold aB;simp[List.getD_eq_getElem?_getD,hk]
theorem Mj(hs:List RV){k:Nat}(hk:k<hs.length):hs.getD k default∈hs:=by
 rw[List.getD_eq_getElem?_getD,List.getElem?_eq_getElem hk];exact List.getElem_mem hk
set_option maxRecDepth 100000 in
set_option maxHeartbeats 2000000 in
theorem nF(o:RV)(ah:Option Addr)(ch:Nat)(hs:List RV)(w:World)(H:RdSh w o ah hs)(hch:hs.length<=ch):
  Calls Tryz.prog 55 #[.agg #[RV.enc o,.slice ah hs.length ch]] w fun e w'=>e= .returned (.bool (Geo.aM (gK o hs)))/\Below w.heap.size w w':=by
 have hN:=H.n;by_cases c1:6<hs.length
 ·have HV:Hid (Geo.aM (gK o hs)=false):=Lib.hid (Ng (by unfold gK;simpa using c1))
  have d1:decide ((6:Int)<hs.length)=true:=decide_eq_true (by omega)
  refine(callsIn_wide (n:=9)).1 (callsIn_of_wp_marks Tryz.func55 rfl trivial ((wpIn_wide (n:=9)).2 ?_) rfl);simp only[Tryz.ntmps55,List.size_toArray,List.length_cons,List.length_nil,Nat.reduceAdd,Nat.reduceSub,Array.replicate_succ,Array.replicate_zero,List.push_toArray,List.append_toArray,List.nil_append,List.cons_append];dsimp only[RV.enc]
  go_wp2_with fail
  have hBW:Below w.heap.size w (((w.alloc (.cells #[.slice o.a o.r.length o.c,.slice ah hs.length ch] 26)).alloc (.cells #[.bool false] 4))):=((Below.refl _ _).alloc (Nat.le_refl _) _).alloc (by simp) _
  refine Cy (v:= .bool false) ?_ rfl ?_
  ·simp[results,Tryz.f55,go_sem]
  ·exact⟨by rw[HV.out],hBW⟩
 ·have d1:decide ((6:Int)<hs.length)=false:=decide_eq_false (by omega)
  refine(callsIn_wide (n:=9)).1 (callsIn_of_wp_marks Tryz.func55 rfl trivial ((wpIn_wide (n:=9)).2 ?_) rfl);simp only[Tryz.ntmps55,List.size_toArray,List.length_cons,List.length_nil,Nat.reduceAdd,Nat.reduceSub,Array.replicate_succ,Array.replicate_zero,List.push_toArray,List.append_toArray,List.nil_append,List.cons_append];dsimp only[RV.enc]
  go_wp2_with fail
  refine(sZ o ah hs.length ch _).mono ?_;rintro e w1 ⟨rfl,rfl⟩
  go_wp2_with fail
  have B1:=(((Blk.new w 26 #[.slice o.a o.r.length o.c,.slice ah hs.length ch]).alloc (.cells #[.bool false] 4)).alloc (.cells #[.int .i64 0] 3)).alloc (.cells #[RV.enc o,.slice ah hs.length ch] 26);have B2:=((Blk.new (w.alloc (.cells #[.slice o.a o.r.length o.c,.slice ah hs.length ch] 26)) 4 #[.bool false]).alloc (.cells #[.int .i64 0] 3)).alloc (.cells #[RV.enc o,.slice ah hs.length ch] 26);have B3:=(Blk.new ((w.alloc (.cells #[.slice o.a o.r.length o.c,.slice ah hs.length ch] 26)).alloc (.cells #[.bool false] 4)) 3 #[.int .i64 0]).alloc (.cells #[RV.enc o,.slice ah hs.length ch] 26);have B4:=Blk.new (((w.alloc (.cells #[.slice o.a o.r.length o.c,.slice ah hs.length ch] 26)).alloc (.cells #[.bool false] 4)).alloc (.cells #[.int .i64 0] 3)) 26 #[RV.enc o,.slice ah hs.length ch];have hBW:Below w.heap.size w ((((w.alloc (.cells #[.slice o.a o.r.length o.c,.slice ah hs.length ch] 26)).alloc (.cells #[.bool false] 4)).alloc (.cells #[.int .i64 0] 3)).alloc (.cells #[RV.enc o,.slice ah hs.length ch] 26)):=((((Below.refl _ _).alloc (Nat.le_refl _) _).alloc (by simp) _).alloc (by simp;omega) _).alloc (by simp;omega) _
  have hs0:w.heap.size+4=((((w.alloc (.cells #[.slice o.a o.r.length o.c,.slice ah hs.length ch] 26)).alloc (.cells #[.bool false] 4)).alloc (.cells #[.int .i64 0] 3)).alloc (.cells #[RV.enc o,.slice ah hs.length ch] 26)).heap.size:=by simp
  simp only[World.size_alloc]at B1 B2 B3 B4;generalize (((w.alloc (.cells #[.slice o.a o.r.length o.c,.slice ah hs.length ch] 26)).alloc (.cells #[.bool false] 4)).alloc (.cells #[.int .i64 0] 3)).alloc (.cells #[RV.enc o,.slice ah hs.length ch] 26)=W0 at B1 B2 B3 B4 hBW hs0|-;refine(wpIn_wide (n:=9)).1 ?_
  refine' wpIn_rangeFunc_ownF (F:=Fence.wide) (n:=9) rfl (by omega) (gf:=179) (lb:= #[.pointer (some ⟨w.heap.size+1+1+1,0,none⟩)]) rfl trivial (enters_of Tryz.func179 (by kernel_rfl) rfl)
   (mD Fence.wide 8 trivial rfl (by omega) (w.heap.size+1+1+1) w.heap.size o ah ch hs H.n W0 (by omega) B4 (H.h.below hBW)) Kp2.trans (Sn (by omega) (by omega)) (Below.refl _ _) (fun _=>rfl)
   (fun pre W=>((Blk W w.heap.size 26 #[.slice o.a o.r.length o.c,.slice ah hs.length ch]/\(Blk W (w.heap.size+1) 4 #[.bool false]/\Blk W (w.heap.size+1+1+1) 26 #[RV.enc o,.slice ah hs.length ch]))/\Blk W (w.heap.size+1+1) 3 #[.int .i64 ((pre.map fun x=>x.1.r.length).sum:Nat)])/\(((pre.map fun x=>x.1.r.length).sum<=1000*pre.length/\∀x∈pre,Geo.cI x.1.r=true)/\Below w.heap.size w W))
   (fun c pre W=>Blk W (w.heap.size+1) 4 #[.bool false]/\((c= .ret/\∃x∈pre,Geo.cI x.1.r=false)/\Below w.heap.size w W))
   (OwnFrom.and (OwnFrom.and (OwnFrom.and jY (OwnFrom.and jY jY)) jY) (OwnFrom.and rD (ownFrom_below (Nat.le_refl _) (by omega))))
   (fun c=>OwnFrom.and jY (OwnFrom.and rD (ownFrom_below (Nat.le_refl _) (by omega))))
   ⟨⟨⟨B1,B2,B4⟩,B3⟩,⟨by simp,by simp⟩,hBW⟩ _ ?assign ?body ?done ?stop
  case assign=>
   intro l x W K hK;dsimp only[RV.enc]
   gi_wp2
   exact hK
  case body=>
   rintro l pre ⟨⟨xa,xc,xr⟩,hxm⟩ W ⟨⟨⟨b1,b2,b4⟩,b3⟩,⟨hsum,hval⟩,hb⟩ hlen;obtain⟨hxr,hxl⟩:=H.v _ hxm;dsimp only at hxr hxl;have hxn:xr.length<=1000:=hxl.1;have HS:Hid (((pre++[(⟨⟨xa,xc,xr⟩,hxm⟩:{x:RV//x∈o::hs})]).map fun x:{x:RV//x∈o::hs}=>x.1.r.length).sum=(pre.map fun x=>x.1.r.length).sum+xr.length):=Lib.hid (by simp)
   obtain⟨S,hS⟩:∃S,S=(List.map (fun x:{x:RV//x∈o::hs}=>List.length x.1.r) pre).sum:=⟨_,rfl⟩
   rw[<-hS]at b3 hsum HS;clear hS;have hSb:S<=1001000:=by have:=H.n;omega
   have c2:=b2.cell 0;have c3:=b3.cell 0;have f2:=b2.frozen 0;have f3:=b3.frozen 0;simp at c2 c3;dsimp only[RV.enc];clear H d1 hN hBW B1 B2 B3 B4 hs0
   gi_wp2_with fail
   refine⟨trivial,(CallsIn.inRound l (callsIn_wide.2 (Er xa xc xr _ (hxr.below (hb.setCell (p:=⟨w.heap.size+1+1,0,none⟩) (by simp;omega) _)) hxl))).mono ?_⟩
   rintro e w1 ⟨rfl,hb1⟩;have hk:KeepsOthers W w1:=(KeepsOthers.setCell W _ _).trans (nW hb1);have q2:=(b2.far (p:=⟨w.heap.size+1+1,0,none⟩) (by simp) (.int .i64 ((S:Int)+xr.length))).then_ hb1
   have q1:=(b1.far (p:=⟨w.heap.size+1+1,0,none⟩) (by simp;omega) (.int .i64 ((S:Int)+xr.length))).then_ hb1
   have q4:=(b4.far (p:=⟨w.heap.size+1+1,0,none⟩) (by simp) (.int .i64 ((S:Int)+xr.length))).then_ hb1
   have q3:=(b3.oM 0 (.int .i64 ((S:Int)+xr.length))).then_ hb1;have hB1:Below w.heap.size W w1:=((Below.refl _ W).setCell (p:=⟨w.heap.size+1+1,0,none⟩) (by simp;omega) _).trans (hb1.mono (by have:=hb.size;simpa using this))
   have hK:Kp2 w.heap.size (w.heap.size+1+1+1) W w1:=⟨hB1,Eq.trans q4 (Eq.symm b4)⟩;clear hb1 c2 c3 f2 f3 b1 b2 b3 b4;cases hv:Geo.cI xr with
   |true=>
    gi_wp2
    refine⟨hk,hK,⟨⟨q1,q2,q4⟩,?_⟩,⟨?_,?_⟩,hb.trans hB1⟩
    ·rw[HS.out];simpa using q3
    ·rw[HS.out];simp;omega
    ·intro x hx;rcases List.mem_append.1 hx with h|h
     ·exact hval x h
     ·simp at h;subst h;exact hv
   |false=>
    have c2:=q2.cell 0;have f2:=q2.frozen 0;simp at c2
    gi_wp2
    refine⟨hk.trans (KeepsOthers.setCell _ _ _),by simpa using q2.oM 0 (.bool false),⟨rfl,⟨_,List.mem_append.2 (.inr List.mem_cons_self),hv⟩⟩,(hb.trans hB1).setCell (p:=⟨w.heap.size+1,0,none⟩) (by simp) _⟩
  case stop=>
   rintro D c pre W hD hpre ⟨b2,⟨rfl,x,hx,hv⟩,hb⟩ hK;have HV:Hid (Geo.aM (gK o hs)=false):=Lib.hid (Nf (r:=x.1.r) (by have:=x.2;unfold gK Geo.aA;simp only[List.mem_cons]at this|-;rcases this with h|h;exact .inl (by rw[h]);exact .inr (List.mem_map.2 ⟨_,h,rfl⟩)) hv)
   gi_wp2
   exact rC rfl b2 hK ⟨by rw[HV.out],hb.trans (eY (by omega) hK)⟩
  case done=>
   rintro D xs W hD hxs ⟨⟨⟨b1,b2,b4⟩,b3⟩,⟨hsum,hval⟩,hb⟩ hK;have hN7:xs.length<=7:=by have:=congrArg List.length hxs;simp at this;omega
   have HC:(xs.map fun x=>x.1.r.length).sum=Geo.eW (gK o hs):=by
    have e:(xs.map fun x=>x.1.r.length)=(xs.map (·.1)).map fun x=>x.r.length:=by rw[List.map_map];rfl
    rw[e,hxs];unfold Geo.eW Geo.aA gK;simp[Function.comp_def]
   have HA:Hid (∀r∈Geo.aA (gK o hs),Geo.cI r=true):=Lib.hid (by
    intro r hr;have hr2:r∈(o::hs).map RV.r:=by unfold Geo.aA gK at hr;simpa using hr
    obtain⟨y,hy,rfl⟩:=List.mem_map.1 hr2;rw[<-hxs]at hy;obtain⟨z,hz,rfl⟩:=List.mem_map.1 hy;exact hval z hz)
   rw[HC]at b3 hsum;clear HC hval hxs b4 B1 B2 B3 B4;have c80':=Lib.hid (fun h:80<Geo.eW (gK o hs)=>Dt h)
   have HVA:=Lib.hid (fun(h:¬80<Geo.eW (gK o hs)) h4=>Py (s:=gK o hs) (by unfold gK;simpa using c1) HA.out h h4)
   generalize Geo.eW (gK o hs)=N at b3 hsum c80' HVA;have hNb:N<=7000:=by omega
   clear HA hsum hN7 xs;have c3:=b3.cell 0;have f2:=b2.frozen 0;have c2:=b2.cell 0;have d0:=b1.cell 0;have d1':=b1.cell 1;simp at c2 c3 d0 d1';have hne:D≠w.heap.size+1:=by omega
   have hKs:∀v,(W.setCell ⟨w.heap.size+1,0,none⟩ v).heap[D]? =some (.deferred (some [])):=fun v=>(Below.heap_setCell W ⟨w.heap.size+1,0,none⟩ v D (by simpa using hne)).trans hK
   by_cases c80:80<N
   ·have d80:decide ((80:Int)<N)=true:=decide_eq_true (by omega)
    have HV:=Lib.hid (c80'.out c80);clear c80' HVA hNb c80
    go_wp2
    exact rC rfl (by simpa using b2.oM 0 (.bool false)) (hKs _) ⟨by rw[HV.out],(hb.setCell (p:=⟨w.heap.size+1,0,none⟩) (by simp) _).trans (eY (by omega) (hKs _))⟩
   ·have d80:decide ((80:Int)<N)=false:=decide_eq_false (by omega)
    replace HVA:=Lib.hid (HVA.out c80);clear c80' c80 hNb b3
    go_wp2_with fail
    have hDl:D<W.heap.size:=(Array.getElem?_eq_some_iff.1 hK).1;have hKX:∀wx,Below W.heap.size W wx->(wx.setCell ⟨w.heap.size+1,0,none⟩ (.bool false)).heap[D]? =some (.deferred (some [])):=fun wx h=>(Below.heap_setCell wx ⟨w.heap.size+1,0,none⟩ _ D (by simpa using hne)).trans ((h.block D hDl).trans hK)
    have hKT:∀wx,Below W.heap.size W wx->(wx.setCell ⟨w.heap.size+1,0,none⟩ (.bool true)).heap[D]? =some (.deferred (some [])):=fun wx h=>(Below.heap_setCell wx ⟨w.heap.size+1,0,none⟩ _ D (by simpa using hne)).trans ((h.block D hDl).trans hK)
    have ho:=H.v o List.mem_cons_self;have hol:(gK o hs).outer=o.r:=rfl;have hhl:(gK o hs).holes=hs.map RV.r:=rfl;have hlen:(gK o hs).holes.length=hs.length:=by rw[hhl,List.length_map]
    have HNO:=Lib.hid (fun i (hi:i<hs.length) h=>Nh (s:=gK o hs) (i:=i) (by rw[hlen];exact hi) h)
    rw[hol,hhl]at HNO;rw[hol,hhl,List.length_map]at HVA;have HM:=Lib.hid (fun k (hk:k<hs.length)=>aAV hs hk)
    clear hol hhl hlen hKs f2 c2 c3 d0 d1' hBW;have HC:=Lib.hid (fun(wx:World) (h:Below W.heap.size W wx)=>(show wx.cell? ⟨w.heap.size,0,none⟩=some (.slice o.a o.r.length o.c)/\wx.cell? ⟨w.heap.size,1,none⟩=some (.slice ah hs.length ch)/\wx.cell? ⟨w.heap.size+1,0,none⟩=some (.bool false)/\wx.frozen? ⟨w.heap.size+1,0,none⟩=false from
     ⟨by simpa using(b1.then_ h).cell 0,by simpa using(b1.then_ h).cell 1,by simpa using(b2.then_ h).cell 0,(b2.then_ h).frozen 0⟩))
    go_loopw [5,6,8,28] (fun _ _ _ i wr=>∃k:Nat,k<=hs.length/\i= .int .i64 k/\Hid (∀i,i<k->jV o.r (hs.map RV.r) i=true)/\Below W.heap.size W wr) (fun _ _ _ i _=>hs.length-(intOf i).toNat)
    case atStart=>exact⟨0,by omega,rfl,Lib.hid (fun i hi=>by omega),Below.refl _ _⟩
    case round=>
     obtain⟨k,hk,rfl,HT,hbr⟩:=hrel;by_cases hlt:k<hs.length
     ·obtain⟨bb,off,rfl,hbb,p0⟩:=H.h k hlt;have hbw:=hb.trans (hbr.mono hb.size);replace p0:=(hbw.cell (p:=⟨bb,_,none⟩) hbb).trans p0;have hx:=H.v _ (List.mem_cons_of_mem _ (Mj hs hlt));have HMk:=HM.out k hlt;obtain⟨d0,d1',e1,e2⟩:=HC.out _ hbr;have hbbr:bb<wr.heap.size:=Nat.lt_of_lt_of_le hbb hbw.size;obtain⟨⟨xa,xc,xr⟩,hz⟩:∃z,z=hs.getD k default:=⟨_,rfl⟩;rw[<-hz]at p0 hx HMk;dsimp only[RV.enc]at p0 hx HMk;clear hz;have HNK:=Lib.hid (HNO.out k hlt);cases h1:Geo.cK xr o.r 2 with
      |false=>
       have HV:=Lib.hid (HNK.out (Ra (by rw[HMk];exact h1)))
       clear HNK HMk
       go_wp2_with fail
       refine(jZ xa xc xr o.a o.c o.r 2 _ (ho.1.below hbw) ho.2 (hx.1.below hbw) hx.2).mono ?_;rintro e w1 ⟨rfl,hb1⟩;rw[h1];have hbX:=hbr.trans (hb1.mono hbr.size);clear d0 d1' e1 e2 p0 hb1;obtain⟨d0,d1',e1,e2⟩:=HC.out _ hbX
       go_wp2
       exact rC rfl (by simpa using(b2.then_ hbX).oM 0 (.bool false)) (hKX _ hbX) ⟨by rw[HV.out],((hb.trans (hbX.mono hb.size)).setCell (p:=⟨w.heap.size+1,0,none⟩) (by simp) _).trans (eY (by omega) (hKX _ hbX))⟩
      |true=>
       go_wp2_with fail
       refine(jZ xa xc xr o.a o.c o.r 2 _ (ho.1.below hbw) ho.2 (hx.1.below hbw) hx.2).mono ?_;rintro e w1 ⟨rfl,hb1⟩;rw[h1];have hbY:=hbr.trans (hb1.mono hbr.size);have hbv:=hbw.trans (hb1.mono hbw.size);clear d0 d1' e1 e2 hb1 p0 hbr hbw;obtain⟨d0,d1',e1,e2⟩:=HC.out _ hbY;cases h2:Geo.dY xr o.r with
       |false=>
        have HV:=Lib.hid (HNK.out (Qz (by rw[HMk];exact h2)))
        clear HNK HMk
        go_wp2_with fail
        refine(tR xa xc xr o.a o.c o.r _ (hx.1.below hbv) (ho.1.below hbv) hx.2 ho.2).mono ?_;rintro e w2 ⟨rfl,hb2⟩;rw[h2];have hbX:=hbY.trans (hb2.mono hbY.size);clear d0 d1' e1 e2 hb2;obtain⟨d0,d1',e1,e2⟩:=HC.out _ hbX
        go_wp2
        exact rC rfl (by simpa using(b2.then_ hbX).oM 0 (.bool false)) (hKX _ hbX) ⟨by rw[HV.out],((hb.trans (hbX.mono hb.size)).setCell (p:=⟨w.heap.size+1,0,none⟩) (by simp) _).trans (eY (by omega) (hKX _ hbX))⟩
       |true=>
        go_wp2_with fail
        refine(tR xa xc xr o.a o.c o.r _ (hx.1.below hbv) (ho.1.below hbv) hx.2 ho.2).mono ?_;rintro e w2 ⟨rfl,hb2⟩;rw[h2];have hbX:=hbY.trans (hb2.mono hbY.size);clear d0 d1' e1 e2 hb2 hbY hbv hbbr;obtain⟨d0,d1',e1,e2⟩:=HC.out _ hbX;have hkc:k<=ch:=by omega
        go_wp2_with fail
        clear d0 d1' e1 e2 HNO;have hbv2:=hb.trans (hbX.mono hb.size)
        go_loopw [8,50] (fun _ i wr=>∃q:Nat,q<=k/\i= .int .i64 q/\Hid (∀i,i<q->Aw (hs.map RV.r) k i=true)/\Below W.heap.size W wr) (fun _ i _=>k-(intOf i).toNat)
        case atStart=>exact⟨0,by omega,rfl,Lib.hid (fun i hi=>by omega),hbX⟩
        case round=>
         obtain⟨q,hq,rfl,HQ,hbq⟩:=hrel;by_cases hlq:q<k
         ·have hqs:q<hs.length:=by omega
          obtain⟨bb',off',he,hbb',p0⟩:=H.h q hqs;simp only[Option.some.injEq,Addr.mk.injEq,and_true]at he;obtain⟨rfl,rfl⟩:=he;have hbw:=hb.trans (hbq.mono hb.size);replace p0:=(hbw.cell (p:=⟨bb,_,none⟩) hbb).trans p0;have hy:=H.v _ (List.mem_cons_of_mem _ (Mj hs hqs));have HMq:=HM.out q hqs;have hbbr:bb<wr.heap.size:=Nat.lt_of_lt_of_le hbb hbw.size;obtain⟨⟨ya,yc,yr⟩,hz⟩:∃z,z=hs.getD q default:=⟨_,rfl⟩;rw[<-hz]at p0 hy HMq;dsimp only[RV.enc]at p0 hy HMq;clear hz hbb';have HNQ:=Lib.hid (fun h=>HNK.out (Qy hlq h))
          have HP:Hid (Aw (hs.map RV.r) k q=(Geo.dY xr yr&&Geo.cK xr yr 0&&Geo.cK yr xr 0)):=Lib.hid (by unfold Aw;rw[HMk,HMq])
          cases h3:Geo.dY xr yr with
          |false=>
           have HV:=Lib.hid (HNQ.out (by rw[HP.out,h3];rfl))
           go_wp2_with fail
           refine(tR xa xc xr ya yc yr _ (hx.1.below hbw) (hy.1.below hbw) hx.2 hy.2).mono ?_;rintro e w3 ⟨rfl,hbw3⟩;rw[h3];have hbz:=hbq.trans (hbw3.mono hbq.size);have hbv3:=hbw.trans (hbw3.mono hbw.size);clear hbw3;obtain⟨d0,d1',e1,e2⟩:=HC.out _ hbz
           go_wp2
           exact rC rfl (by simpa using(b2.then_ hbz).oM 0 (.bool false)) (hKX _ hbz) ⟨by rw[HV.out],((hb.trans (hbz.mono hb.size)).setCell (p:=⟨w.heap.size+1,0,none⟩) (by simp) _).trans (eY (by omega) (hKX _ hbz))⟩
          |true=>
           go_wp2_with fail
           refine(tR xa xc xr ya yc yr _ (hx.1.below hbw) (hy.1.below hbw) hx.2 hy.2).mono ?_;rintro e w3 ⟨rfl,hbw3⟩;rw[h3];have hbz:=hbq.trans (hbw3.mono hbq.size);have hbv3:=hbw.trans (hbw3.mono hbw.size);clear hbw3;clear p0 hbw;cases h4:Geo.cK xr yr 0 with
           |false=>
            have HV:=Lib.hid (HNQ.out (by rw[HP.out,h3,h4];rfl))
            go_wp2_with fail
            refine(jZ xa xc xr ya yc yr 0 _ (hy.1.below hbv3) hy.2 (hx.1.below hbv3) hx.2).mono ?_;rintro e w4 ⟨rfl,hbw4⟩;rw[h4];have hbz4:=hbz.trans (hbw4.mono hbz.size);have hbv4:=hbv3.trans (hbw4.mono hbv3.size);clear hbw4;obtain⟨d0,d1',e1,e2⟩:=HC.out _ hbz4
            go_wp2
            exact rC rfl (by simpa using(b2.then_ hbz4).oM 0 (.bool false)) (hKX _ hbz4) ⟨by rw[HV.out],((hb.trans (hbz4.mono hb.size)).setCell (p:=⟨w.heap.size+1,0,none⟩) (by simp) _).trans (eY (by omega) (hKX _ hbz4))⟩
           |true=>
            go_wp2_with fail
            refine(jZ xa xc xr ya yc yr 0 _ (hy.1.below hbv3) hy.2 (hx.1.below hbv3) hx.2).mono ?_;rintro e w4 ⟨rfl,hbw4⟩;rw[h4];have hbz4:=hbz.trans (hbw4.mono hbz.size);have hbv4:=hbv3.trans (hbw4.mono hbv3.size);clear hbw4;clear hbv3;cases h5:Geo.cK yr xr 0 with
            |false=>
             have HV:=Lib.hid (HNQ.out (by rw[HP.out,h3,h4,h5];rfl))
             go_wp2_with fail
             refine(jZ ya yc yr xa xc xr 0 _ (hx.1.below hbv4) hx.2 (hy.1.below hbv4) hy.2).mono ?_;rintro e w5 ⟨rfl,hbw5⟩;rw[h5];have hbz5:=hbz4.trans (hbw5.mono hbz4.size);have hbv5:=hbv4.trans (hbw5.mono hbv4.size);clear hbw5;obtain⟨d0,d1',e1,e2⟩:=HC.out _ hbz5
             go_wp2
             exact rC rfl (by simpa using(b2.then_ hbz5).oM 0 (.bool false)) (hKX _ hbz5) ⟨by rw[HV.out],((hb.trans (hbz5.mono hb.size)).setCell (p:=⟨w.heap.size+1,0,none⟩) (by simp) _).trans (eY (by omega) (hKX _ hbz5))⟩
            |true=>
             have HQ2:Hid (∀i,i<q+1->Aw (hs.map RV.r) k i=true):=Lib.hid (fun i hi=>by
              by_cases e:i=q
              ·subst e;rw[HP.out,h3,h4,h5];rfl
              ·exact HQ.out i (by omega))
             go_wp2_with fail
             refine(jZ ya yc yr xa xc xr 0 _ (hx.1.below hbv4) hx.2 (hy.1.below hbv4) hy.2).mono ?_;rintro e w5 ⟨rfl,hbw5⟩;rw[h5];have hbz5:=hbz4.trans (hbw5.mono hbz4.size);have hbv5:=hbv4.trans (hbw5.mono hbv4.size);clear hbw5
             go_wp2
             go_roundw
             case rel=>exact⟨q+1,by omega,by go_num,HQ2,hbz5⟩
             case measure=>simp[intOf];omega
         ·have HT2:Hid (∀i,i<k+1->jV o.r (hs.map RV.r) i=true):=Lib.hid (fun i hi=>by
           by_cases e:i=k
           ·subst e;exact Wq (by rw[HMk];exact h1) (by rw[HMk];exact h2) (fun j hj=>HQ.out j (by omega))
           ·exact HT.out i (by omega))
          go_wp2
          go_roundw
          case rel=>exact⟨k+1,by omega,by go_num,HT2,hbq⟩
          case measure=>simp[intOf];omega
     ·have HV:=Lib.hid (HVA.out (fun i hi=>HT.out i (by omega)))
      obtain⟨d0,d1',e1,e2⟩:=HC.out _ hbr
      go_wp2
      exact rC rfl (by simpa using(b2.then_ hbr).oM 0 (.bool true)) (hKT _ hbr) ⟨by rw[HV.out],((hb.trans (hbr.mono hb.size)).setCell (p:=⟨w.heap.size+1,0,none⟩) (by simp) _).trans (eY (by omega) (hKT _ hbr))⟩
end Go.Proofs.YtdaeofhdgabhjaaGreat
namespace Go.Proofs.YtdaeofhdgabhjaaGreat
open Go.RowKit Go.Shelf
attribute [local go_sem] Oper.semAt_some
theorem rP{W W':World}{base:Nat}{e:TypeId}{size:Nat}{v:Value}{n:Nat}{xs:List Value}{row:Option Nat}(h:W.ownsRow base e size v n xs)(hg:W.grownBy W' row)(hr:∀r,row=some r->∃o:Obj,W.heap[r]? =some o/\o.isCells=false):W'.ownsRow base e size v n xs:=
 ⟨h.1,h.2.imp id fun⟨g,cap,cur,h1,h2,h3,h4⟩=>⟨g,cap,cur,h1,h2,(hg.block g (Array.getElem?_eq_some_iff.1 h3).1 (fun e=>by
   obtain⟨o,ho,hc⟩:=hr g e.symm;rw[h3]at ho;cases ho;cases hc)).trans h3,h4⟩⟩
theorem aB9{β:Type}{B bx base:Nat}{t:TypeId}{e:TypeId}{size:Nat}{n:β->Nat}{xs:β->List Value}:OwnFrom B (fun(s:β) W=>∃v,Blk W bx t #[v]/\W.ownsRow base e size v (n s) (xs s)):=fun s W W' row ⟨v,h1,h2⟩ hg hr=>
 ⟨v,jY (cs:=fun _:β=> #[v]) s W W' row h1 hg hr,rP h2 hg (fun r e=>(hr r e).2)⟩
theorem wR{W:World}{D base:Nat}{e:TypeId}{size:Nat}{v:Value}{n:Nat}{xs:List Value}(h:W.ownsRow base e size v n xs)(hK:W.heap[D]? =some (.deferred (some [])))(o':Obj):(W.putObj D o').ownsRow base e size v n xs:=
 rP h (grownBy_putObj' W D o') (fun r e=>by cases e;exact⟨_,hK,rfl⟩)
theorem Hd{W W':World}{base:Nat}{e:TypeId}{size:Nat}{v:Value}{n:Nat}{xs:List Value}(h:W.ownsRow base e size v n xs)(hg:W.grownBy W' v.ownBlock):KeepsOthers W W':=
 KeepsOthers.of_grownBy hg (fun j o hj ho=>by
  rcases h.2 with⟨h1,h2⟩|⟨g,cap,cur,h1,h2,h3,h4⟩
  ·rw[h1]at hj;simp[Value.ownBlock]at hj
  ·rw[h1]at hj;simp[Value.ownBlock]at hj;subst hj;rw[h3]at ho;cases ho;rfl)
theorem xW{F:Fence}{n:Nat}{P:Program}{fn:Func}{R:Ending->World->Prop}{W:World}{D:Nat}{T:Array Value}{t:Tmp}{v:Value}(hf:fn.results= #[.tmp t])(hT:T.getD t undef=v)(hK:W.heap[D]? =some (.deferred (some [])))
  (hR:R (.returned v) (W.putObj D (.deferred none))):bodyPostM F n P fn R .ret {tmps:=T,defers:=[{target:= .collected D,args:= #[]}]} W:=by
 refine Cw (v:=v) rfl hK ?_ hR;rw[<-hT];simp[results,hf]
theorem Wt(xs:List Geo.S):∀u∈iH xs,u.oneCell'=true:=by
 intro u hu;obtain⟨v,_,hv⟩:=List.mem_flatMap.1 hu;simp only[List.mem_cons,List.not_mem_nil,or_false]at hv;rcases hv with rfl|rfl|rfl|rfl<;>rfl
theorem Rd.grown{w w':World}{a:Option Addr}{cs:List Value}{row:Option Nat}{m:Nat}(h:Rd w a cs)(hF:kQ m a)(hr:∀k,row=some k->k<m)(hg:w.grownBy w' row):Rd w' a cs:=by
 intro i u hi;obtain⟨b,off,rfl,hb,hc⟩:=h i u hi;have hm:m<=b:=hF _ rfl;refine⟨b,off,rfl,Nat.lt_of_lt_of_le hb hg.size,(World.cell?_of_block (a:=⟨b,off+i,none⟩) (hg.block b hb ?_)).trans hc⟩;intro e;have:=hr b e.symm;omega
theorem Rd.oM{w:World}{a:Option Addr}{cs:List Value}{m:Nat}{p:Addr}{u:Value}(h:Rd w a cs)(hF:kQ m a)(hp:p.block<m):Rd (w.setCell p u) a cs:=by
 intro i v hi;obtain⟨b,off,rfl,hb,hc⟩:=h i v hi;have hm:m<=b:=hF _ rfl;exact⟨b,off,rfl,by simpa using hb,(World.cell?_of_block (a:=⟨b,off+i,none⟩) (Below.heap_setCell w p u b (by omega))).trans hc⟩
theorem nV{W:World}{base:Nat}{e:TypeId}{size:Nat}{v:Value}{n:Nat}{xs:List Value}{p:Addr}{u:Value}(h:W.ownsRow base e size v n xs)(hp:p.block<base):(W.setCell p u).ownsRow base e size v n xs:=
 ⟨h.1,h.2.imp id fun⟨g,cap,cur,h1,h2,h3,h4⟩=>⟨g,cap,cur,h1,h2,(Below.heap_setCell W p u g (by omega)).trans h3,h4⟩⟩
abbrev Mem(o:RV)(hs:List RV):={x:RV//x∈o::hs}
def fZ{o:RV}{hs:List RV}(pre:List (Mem o hs)):List Geo.S:=pre.flatMap fun x=>Geo.aD x.1.r
theorem Jw{o:RV}{hs:List RV}(pre:List (Mem o hs))(x:Mem o hs):fZ (pre++[x])=fZ pre++Geo.aD x.1.r:=by unfold fZ;simp
theorem Rp{o:RV}{hs:List RV}(h:∀x∈o::hs,x.r.length<=1000)(pre:List (Mem o hs)):(fZ pre).length<=1000*pre.length:=by
 induction pre with
 |nil=>simp[fZ]
 |cons x l ih=>
  have h1:=h x.1 x.2;have h2:=Mt x.1.r;unfold fZ at*;simp only[List.flatMap_cons,List.length_append,List.length_cons];omega
theorem Od{o:RV}{hs:List RV}{xs:List (Mem o hs)}(h:xs.map (·.1)=o::hs):fZ xs=Geo.bX (gK o hs):=by
 have e:fZ xs=(xs.map (·.1)).flatMap fun x=>Geo.aD x.r:=by unfold fZ;rw[List.flatMap_map]
 rw[e,h];unfold Geo.bX Geo.aA gK;simp[List.flatMap_cons,List.flatMap_map]
set_option maxRecDepth 100000 in
set_option maxHeartbeats 2000000 in
theorem Dv(o:RV)(ah:Option Addr)(ch:Nat)(hs:List RV)(w:World)(H:RdSh w o ah hs)(hn:hs.length<=900):
  Calls Tryz.prog 131 #[.agg #[RV.enc o,.slice ah hs.length ch]] w fun e w'=>∃v,e= .returned v/\w'.ownsRow w.heap.size 46 4 v (Geo.bX (gK o hs)).length (iH (Geo.bX (gK o hs)))/\Below w.heap.size w w':=by
 refine(callsIn_wide (n:=9)).1 (callsIn_of_wp_marks Tryz.func131 rfl trivial ((wpIn_wide (n:=9)).2 ?_) rfl);simp only[Tryz.ntmps131,List.size_toArray,List.length_cons,List.length_nil,Nat.reduceAdd,Nat.reduceSub,Array.replicate_succ,Array.replicate_zero,List.push_toArray,List.append_toArray,List.nil_append,List.cons_append];dsimp only[RV.enc]
 go_wp2_with fail
 refine(sZ o ah hs.length ch _).mono ?_;rintro e w1 ⟨rfl,rfl⟩
 go_wp2_with fail
 have B3:=(Blk.new (w.alloc (.cells #[.slice o.a o.r.length o.c,.slice ah hs.length ch] 26)) 32 #[.slice none 0 0]).alloc (.cells #[RV.enc o,.slice ah hs.length ch] 26);have B4:=Blk.new ((w.alloc (.cells #[.slice o.a o.r.length o.c,.slice ah hs.length ch] 26)).alloc (.cells #[.slice none 0 0] 32)) 26 #[RV.enc o,.slice ah hs.length ch];have hBW:Below w.heap.size w ((((w.alloc (.cells #[.slice o.a o.r.length o.c,.slice ah hs.length ch] 26)).alloc (.cells #[.slice none 0 0] 32))).alloc (.cells #[RV.enc o,.slice ah hs.length ch] 26)):=(((Below.refl _ _).alloc (Nat.le_refl _) _).alloc (by simp) _).alloc (by simp;omega) _
 have hs0:w.heap.size+3=((((w.alloc (.cells #[.slice o.a o.r.length o.c,.slice ah hs.length ch] 26)).alloc (.cells #[.slice none 0 0] 32))).alloc (.cells #[RV.enc o,.slice ah hs.length ch] 26)).heap.size:=by simp
 simp only[World.size_alloc]at B3 B4;generalize (((w.alloc (.cells #[.slice o.a o.r.length o.c,.slice ah hs.length ch] 26)).alloc (.cells #[.slice none 0 0] 32))).alloc (.cells #[RV.enc o,.slice ah hs.length ch] 26)=W0 at B3 B4 hBW hs0|-;refine(wpIn_wide (n:=9)).1 ?_
 refine' wpIn_rangeFunc_ownF (F:=Fence.wide) (n:=9) rfl (by omega) (gf:=179) (lb:= #[.pointer (some ⟨w.heap.size+1+1,0,none⟩)]) rfl trivial (enters_of Tryz.func179 (by kernel_rfl) rfl)
  (mD Fence.wide 8 trivial rfl (by omega) (w.heap.size+1+1) w.heap.size o ah ch hs H.n W0 (by omega) B4 (H.h.below hBW)) Kp2.trans (Sn (by omega) (by omega)) (Below.refl _ _) (fun _=>rfl)
  (fun pre W=>(Blk W (w.heap.size+1+1) 26 #[RV.enc o,.slice ah hs.length ch]/\∃v,Blk W (w.heap.size+1) 32 #[v]/\W.ownsRow (w.heap.size+3) 46 4 v (fZ pre).length (iH (fZ pre)))/\(w.heap.size+3<=W.heap.size/\Below w.heap.size w W))
  (fun c pre W=>False/\False)
  (OwnFrom.and (OwnFrom.and jY aB9) (OwnFrom.and (fun s A B row h hg _=>Nat.le_trans h hg.size) (ownFrom_below (Nat.le_refl _) (by omega))))
  (fun c=>OwnFrom.and rD rD)
  ⟨⟨B4,_,B3,World.ownsRow_nil _ _ _ _⟩,by omega,hBW⟩ _ ?assign ?body ?done ?stop
 case assign=>
  intro l x W K hK;dsimp only[RV.enc]
  gi_wp2
  exact hK
 case stop=>
  rintro D c pre W hD hpre ⟨h,_⟩ hK;exact h.elim
 case done=>
  rintro D xs W hD hxs ⟨⟨b4,v,b3,hrow⟩,_,hb⟩ hK;have c3:=b3.cell 0;simp at c3;have hD2:w.heap.size<=D:=by omega
  rw[Od hxs]at hrow;clear hxs b4 B3 B4 hBW hs0 hD b3
  go_wp2
  exact xW (v:=v) rfl rfl hK ⟨v,rfl,wT (wR hrow hK _) (by omega),hb.trans (eY hD2 hK)⟩
 case body=>
  rintro l pre ⟨⟨xa,xc,xr⟩,hxm⟩ W ⟨⟨b4,u3,b3,hrow⟩,hsz,hb⟩ hlen;obtain⟨hxr,hxl⟩:=H.v _ hxm;dsimp only at hxr hxl;have hxn:xr.length<=1000:=hxl.1;have HE:Hid (fZ (pre++[(⟨⟨xa,xc,xr⟩,hxm⟩:Mem o hs)])=fZ pre++Geo.aD xr):=Lib.hid (Jw _ _);have hle:=Rp (fun x hx=>(H.v x hx).2.1) pre
  have hle2:=Mt xr;have hsz2:(fZ pre).length+(Geo.aD xr).length<=1000000:=by omega
  rw[show(w.heap.size+3)=w.heap.size+3 from rfl]at hrow
  generalize fZ pre=E at HE hrow hsz2;clear hle hle2 B3 B4 hBW hs0;refine wpIn_block ?_;dsimp only[RV.enc];refine oK (by kernel_rfl) (by kernel_rfl) [8,9,10,11] [[],[],[1],[0,1,2],[0,1,2,3]] (by kernel_rfl) (by kernel_rfl) (by intro s hs;simp at hs|-;omega)
   (WR3 3 4 (fun wx=>Below W.heap.size W wx) (fun wx=>Blk wx (w.heap.size+1) 32 #[u3]/\Blk wx (w.heap.size+1+1) 26 #[RV.enc o,.slice ah hs.length ch]/\Below w.heap.size w wx/\KeepsOthers W wx/\Below w.heap.size W wx/\w.heap.size+3<=wx.heap.size) (fun wx=>∃v,Blk wx (w.heap.size+1) 32 #[v]/\wx.ownsRow (w.heap.size+3) 46 4 v (E.length+(Geo.aD xr).length) (iH (E++Geo.aD xr))/\Blk wx (w.heap.size+1+1) 26 #[RV.enc o,.slice ah hs.length ch]/\Below w.heap.size w wx/\KeepsOthers W wx/\Below w.heap.size W wx/\w.heap.size+3<=wx.heap.size))
   (fun i v wx=>match i with
     |0=>v=u3
     |1=>v= .slice xa xr.length xc
     |2=>∃a c,v= .slice a (Geo.aD xr).length c/\Rd wx a (iH (Geo.aD xr))/\(a=none->c=0)/\kQ W.heap.size a
     |3=>wx.ownsRow (w.heap.size+3) 46 4 v (E.length+(Geo.aD xr).length) (iH (E++Geo.aD xr))
     |4=>True
     |_=>True)
   (WR3.start (Below.refl _ _).drew) ?_ ?_ ?_
  ·intro j v wx wy hf hxy;match j with
   |0=>exact hf
   |1=>exact hf
   |2=>obtain⟨a,c,h1,h2,h3⟩:=hf;exact⟨a,c,h1,h2.below hxy,h3⟩
   |3=>exact fO hf hxy
   |4=>exact hf
   |_+5=>exact trivial
  ·refine⟨?_,?_,?_,?_,?_,trivial⟩
   ·intro D V wx hD hanc hdesc hin hWR;have hA:=hWR.lo (hdesc 3 (by kernel_rfl)) (hdesc 4 (by kernel_rfl))
    have e3:=hin 3 (by kernel_rfl)
    simp at e3;have q0:=(Blk.then_ b3 hA).cell 0;simp at q0;refine opK ?_;intro K hK;simp[bZ,execOp,bB,e3,q0,go_sem];exact hK _ _ ⟨rfl,(hWR.keep (by decide) (by decide)),.inl rfl⟩
   ·intro D V wx hD hanc hdesc hin hWR;have hA:=hWR.lo (hdesc 3 (by kernel_rfl)) (hdesc 4 (by kernel_rfl))
    have e4:=hin 4 (by kernel_rfl)
    simp at e4;refine opK ?_;intro K hK;simp[bZ,execOp,bB,e4,go_sem];exact hK _ _ ⟨rfl,(hWR.keep (by decide) (by decide)),.inl rfl⟩
   ·intro D V wx hD hanc hdesc hin hWR;have hA:=hWR.lo (hdesc 3 (by kernel_rfl)) (hdesc 4 (by kernel_rfl))
    have e9:V 9= .slice xa xr.length xc:=(hanc 1 (by kernel_rfl)).2
    refine opK ?_;intro K hK;simp[bZ,execOp,bB,e9,go_sem];refine(Wx xa xc xr _ (hxr.below (hb.trans (hA.mono hb.size))) hxl).mono ?_;rintro e w1 ⟨a,c,rfl,hR,hF,hN,hc⟩;exact⟨_,rfl,hK _ _ ⟨⟨a,c,rfl,hR,hN,hF.mono hA.size⟩,(.mkLo (hdesc 3 (by kernel_rfl)) (hdesc 4 (by kernel_rfl)) (by decide) (by decide) (Below.then_ hA hc)),.inr (.inl hc)⟩⟩
   ·intro D V wx hD hanc hdesc hin hWR;have hA:=hWR.lo hD (hdesc 4 (by kernel_rfl))
    have e8:V 8=u3:=(hanc 0 (by kernel_rfl)).2
    have e10:=(hanc 2 (by kernel_rfl)).2
    refine opK ?_;intro K hK;obtain⟨a,c,e10,hR,hN,hF⟩:=e10;have e10:V 10=_:=e10;refine tG (.tmp 8) (.tmp 10) 32 rfl (w.heap.size+3) 46 (.agg #[.int .i64 0,.int .i64 0,.int .i64 0,.int .i64 0]) 4 32 Tryz.underlying32 (by kernel_rfl) rfl (by decide) u3 _ _ e8 (fO hrow hA) _ _ _ (iH (Geo.aD xr)) e10 (wY _) hR hN (Wt _) (by omega) (by omega) (by have:=hA.size;omega) ?_
    intro v' w' h1 h2 h3 h4;have hbx:=(Blk.then_ b3 hA);have hbr:=(Blk.then_ b4 hA);have hro:=fO hrow hA;refine hK _ _ ⟨by rw[Jv];exact h1,.mkMid (hdesc 4 (by kernel_rfl)) (by decide) ⟨lH h3 hbx (wC hro (by omega)),lH h3 hbr (wC hro (by omega)),(hb.trans (hA.mono hb.size)).trans (h2.mono (by omega)),(nW hA).trans (Hd hro h3),((Below.refl w.heap.size W).trans (hA.mono hb.size)).trans (h2.mono (by omega)),by have:=hA.size;have:=h2.size;omega⟩,.inr (.inr ?_)⟩
    intro j hj hf;match j with
    |0=>exact hf
    |1=>exact hf
    |2=>obtain⟨a,c,g1,g2,g3,g4⟩:=hf;exact⟨a,c,g1,g2.grown g4 (fun k hk=>(eQ hrow k hk).2) h3,g3,g4⟩
    |3=>exact absurd (hj.symm.trans hD) (by decide)
    |4=>exact absurd (hj.symm.trans (hdesc 4 (by kernel_rfl))) (by decide)
    |_+5=>exact trivial
   ·intro D V wx hD hanc hdesc hin hWR;have hB:=hWR.mid (hanc 3 (by kernel_rfl)).1 hD
    have e3:=hin 3 (by kernel_rfl)
    simp at e3;have e11:=(hanc 3 (by kernel_rfl)).2
    refine opK ?_;intro K hK;have q0:=hB.1.cell 0;have f0:=hB.1.frozen 0;simp at q0;have e11:wx.ownsRow (w.heap.size+3) 46 4 (V 11) (E.length+(Geo.aD xr).length) (iH (E++Geo.aD xr)):=e11;have e3:V 3=_:=e3;obtain⟨ra,rc,hv11,_,_,_⟩:=Rd.Pi e11;rw[hv11]at e11;simp[bZ,execOp,bB,e3,hv11,q0,f0,go_sem];refine hK _ _ ⟨trivial,.mkHi ⟨_,by simpa using hB.1.oM 0 (.slice ra (E.length+(Geo.aD xr).length) rc),nV e11 (by show w.heap.size+1<w.heap.size+3;omega),hB.2.1.far (by simp) _,hB.2.2.1.setCell (p:=⟨w.heap.size+1,0,none⟩) (by simp) _,hB.2.2.2.1.trans (KeepsOthers.setCell _ _ _),hB.2.2.2.2.1.setCell (p:=⟨w.heap.size+1,0,none⟩) (by simp) _,by simpa using hB.2.2.2.2.2⟩,.inr (.inr ?_)⟩
    intro j hj hf;match j with
    |0=>exact hf
    |1=>exact hf
    |2=>obtain⟨a,c,g1,g2,g3,g4⟩:=hf;exact⟨a,c,g1,g2.oM g4 b3.lt,g3,g4⟩
    |3=>exact nV hf (by show w.heap.size+1<_;omega)
    |4=>exact absurd (hj.symm.trans hD) (by decide)
    |_+5=>exact trivial
  intro D V wx hall hf hWR;replace hWR:=hWR.hi (hall 4 (by decide))
  have f0:V 8=u3:=hf 0 (by decide)
  have f1:V 9= .slice xa xr.length xc:=hf 1 (by decide)
  have f2:=hf 2 (by decide)
  have f3:=hf 3 (by decide)
  clear hf hall;simp only[dP,List.foldl_cons,List.foldl_nil,f0,f1];simp only[Act.put,List.setIfInBounds_toArray,List.set_cons_succ,List.set_cons_zero];clear f0 f1;obtain⟨v',k1,k2,k3,k4,k5,k6,k7⟩:=hWR;refine⟨k5,⟨k6,Eq.trans k3 (Eq.symm b4)⟩,⟨k3,v',k1,?_⟩,k7,k4⟩;rw[HE.out,List.length_append];exact k2
end Go.Proofs.YtdaeofhdgabhjaaGreat
namespace Go.Proofs.YtdaeofhdgabhjaaGreat
open Go.RowKit Go.Shelf
set_option maxRecDepth 100000
attribute [local go_sem] Oper.semAt_some
set_option maxHeartbeats 2000000 in
theorem Xe(a:Option Addr)(c:Nat)(xs:List Geo.V)(w:World)(h:RdV w a xs)(hl:xs.length<=1000):
  Calls Tryz.prog 125 #[.slice a xs.length c] w fun e w'=>∃a' c',e= .returned (.slice a' xs.length c')/\Rd w' a' (jQ xs)/\kQ w.heap.size a'/\(a'=none->c'=0)/\xs.length<=c'/\Below w.heap.size w w':=by
 have hq:∀(w:World) (a:Option Addr) (n c n' c':Nat),(binOp .eql 23 (.slice a n c) (.slice none n' c')).run Tryz.prog w= .ok (.bool a.isNone) w:=fun w a n c n' c'=>Lib.run_eql_slice_nil w _ _ a n c n' c' Tryz.underlying23
 cases a with
 |none=>
  have h0:xs.length=0:=by
   rcases Nat.eq_zero_or_pos xs.length with h0|h0
   ·exact h0
   ·obtain⟨b,off,he,_⟩:=h 0 h0;cases he
  have hx:xs=[] :=List.length_eq_zero_iff.1 h0;subst hx
  go_enter Tryz.func125,Tryz.ntmps125
  go_wp2
  go_ret
  exact⟨none,0,rfl,(fun i u hi=>by simp[jQ]at hi),(fun b hb=>by cases hb),(fun _=>rfl),Nat.le_refl _,Below.refl _ _⟩
 |some ad=>
  go_enter Tryz.func125,Tryz.ntmps125
  go_upto_region 3 with fail
  refine Jk [2,5,6,7] [[],[],[0,1],[0,1,2]] (by kernel_rfl) (by kernel_rfl) (by intro s hs;simp at hs|-;omega)
   (WR3 0 2 (fun wx=>wx=w) (fun wx=>Blk wx w.heap.size 44 #[]/\Below w.heap.size w wx) (fun wx=>Below w.heap.size w wx))
   (fun i v wx=>match i with
     |0=>v= .slice (some ⟨w.heap.size,0,none⟩) 0 0
     |1=>v= .slice (some ad) xs.length c
     |2=>wx.ownsRow w.heap.size 44 2 v (0+xs.length) ([] ++jQ xs)
     |3=>wx.ownsRow w.heap.size 44 2 v xs.length (jQ xs)
     |_=>True)
   (WR3.start rfl) ?_ ?_ ?_
  ·intro j v wx wy hf hxy;match j with
   |0=>exact hf
   |1=>exact hf
   |2=>exact fO hf hxy
   |3=>exact fO hf hxy
   |_+4=>exact trivial
  ·refine⟨?_,?_,?_,?_,trivial⟩
   ·intro D V wx hD hanc hdesc hin hWR;have hA:=hWR.lo hD (hdesc 2 (by kernel_rfl))
    rw[hA];refine opK ?_;intro K hK;simp[bZ,execOp,bB,go_sem];exact hK _ _ ⟨rfl,.mkMid (hdesc 2 (by kernel_rfl)) (by decide) ⟨Blk.new _ _ _,(Below.refl _ _).alloc (Nat.le_refl _) _⟩,.inr (.inl ((Below.refl _ _).alloc (Nat.le_refl _) _))⟩
   ·intro D V wx hD hanc hdesc hin hWR;have e0:=hin 0 (by kernel_rfl)
    simp at e0;refine opK ?_;intro K hK;simp[bZ,execOp,bB,e0,go_sem];exact hK _ _ ⟨rfl,(hWR.keep (by decide) (by decide)),.inl rfl⟩
   ·intro D V wx hD hanc hdesc hin hWR;have hB:=hWR.mid (hanc 0 (by kernel_rfl)).1 hD
    have e5:V 5= .slice (some ⟨w.heap.size,0,none⟩) 0 0:=(hanc 0 (by kernel_rfl)).2
    have e6:V 6= .slice (some ad) xs.length c:=(hanc 1 (by kernel_rfl)).2
    refine opK ?_;intro K hK;have hrow:wx.ownsRow w.heap.size 44 2 (.slice (some ⟨w.heap.size,0,none⟩) 0 0) 0 [] :=⟨rfl,.inr ⟨_,0, #[],rfl,Nat.le_refl _,hB.1,Nat.le_refl _,by simp,by simp,by simp⟩⟩
    refine tG (.tmp 5) (.tmp 6) 23 rfl w.heap.size 44 (.agg #[.int .i64 0,.int .i64 0]) 2 16 Tryz.underlying23 (by kernel_rfl) rfl (by decide) _ _ _ e5 hrow _ _ _ (jQ xs) e6 (mF _) (h.below hB.2).rd (fun h=>by cases h) (Ws _) (by omega) (by omega) hB.2.size ?_
    intro v' w' h1 h2 h3 h4;refine hK _ _ ⟨h1,.mkHi (hB.2.trans h2),.inr (.inr ?_)⟩;intro j hj hf;match j with
    |0=>exact hf
    |1=>exact hf
    |2=>exact absurd (hj.symm.trans hD) (by decide)
    |3=>exact absurd (hj.symm.trans (hdesc 3 (by kernel_rfl))) (by decide)
    |_+4=>exact trivial
   ·intro D V wx hD hanc hdesc hin hWR;have e7:=(hanc 2 (by kernel_rfl)).2
    refine opK ?_;intro K hK;simp[bZ,execOp,bB,go_sem];rw[Nat.zero_add,List.nil_append]at e7;exact hK _ _ ⟨e7,(hWR.keep (by decide) (by decide)),.inl rfl⟩
  intro D V wx hall hf hWR;replace hWR:=hWR.hi (hall 2 (by decide))
  have f0:V 5= .slice (some ⟨w.heap.size,0,none⟩) 0 0:=hf 0 (by decide)
  have f1:V 6= .slice (some ad) xs.length c:=hf 1 (by decide)
  have f2:=hf 2 (by decide)
  have f3:=hf 3 (by decide)
  clear hf hall;simp only[dP,List.foldl_cons,List.foldl_nil,f0,f1];simp only[Act.put,List.setIfInBounds_toArray,List.set_cons_succ,List.set_cons_zero];clear f0 f1
  go_wp2
  go_ret
  obtain⟨a',c',hv,k1,k2,k3,k4⟩:=Rd.Is f3;have hv:V 2=_:=hv;exact⟨a',c',by simp[hv],k1,k2,k3,k4,hWR⟩
theorem RdV.grown{w w':World}{a:Option Addr}{xs:List Geo.V}{row:Option Nat}(h:RdV w a xs)(hr:0<xs.length->∀b,a=some b->row≠some b.block)(hg:w.grownBy w' row):RdV w' a xs:=by
 intro i hi;obtain⟨b,off,rfl,hb,h0,h1⟩:=h i hi;have e:=hg.block b hb (fun e=>hr (by omega) _ rfl e.symm)
 exact⟨b,off,rfl,Nat.lt_of_lt_of_le hb hg.size,(World.cell?_of_block (a:=⟨b,_,none⟩) e).trans h0,(World.cell?_of_block (a:=⟨b,_,none⟩) e).trans h1⟩
theorem RdV.oM{w:World}{a:Option Addr}{xs:List Geo.V}{p:Addr}{u:Value}(h:RdV w a xs)(hp:0<xs.length->∀b,a=some b->p.block≠b.block):RdV (w.setCell p u) a xs:=by
 intro i hi;obtain⟨b,off,rfl,hb,h0,h1⟩:=h i hi;have e:=Below.heap_setCell w p u b (fun e=>hp (by omega) _ rfl (by simpa using e.symm))
 exact⟨b,off,rfl,by simpa using hb,(World.cell?_of_block (a:=⟨b,_,none⟩) e).trans h0,(World.cell?_of_block (a:=⟨b,_,none⟩) e).trans h1⟩
theorem RdV.own{W W':World}{a:Option Addr}{xs:List Geo.V}{row:Option Nat}(h:RdV W a xs)(hg:W.grownBy W' row)(hr:∀r,row=some r->∃o:Obj,W.heap[r]? =some o/\o.isCells=false):RdV W' a xs:=by
 intro i hi;obtain⟨b,off,rfl,hb,h0,h1⟩:=h i hi;exact⟨b,off,rfl,Nat.lt_of_lt_of_le hb hg.size,cell_kept h0 hg hr,cell_kept h1 hg hr⟩
theorem RdV.lt{w:World}{a:Option Addr}{xs:List Geo.V}(h:RdV w a xs)(h0:0<xs.length):∀b,a=some b->b.block<w.heap.size:=by
 intro b e;obtain⟨b',off,he,hb,_⟩:=h 0 h0;rw[e]at he;cases he;exact hb
structure RingOk(base:Nat)(w:World)(v:Value)(x:RV):Prop where
 rd:RdV w x.a x.r
 fresh:kQ base x.a
 cap:x.r.length<=x.c
 len:x.r.length<=1000
 sep:0<x.r.length->∀b,x.a=some b->v.ownBlock≠some b.block
structure Rings(base bx:Nat)(w:World)(v:Value)(rs:List RV):Prop where
 box:Blk w bx 24 #[v]
 row:w.ownsRow base 23 1 v rs.length (rs.map RV.enc)
 ok:∀x∈rs,RingOk base w v x
theorem Vt{β:Type}{B base bx:Nat}{p:β->List RV->Prop}:OwnFrom B (fun(s:β) W=>∃v rs,Rings base bx W v rs/\p s rs):=fun s W W' row ⟨v,rs,h,hp⟩ hg hr=>
 ⟨v,rs,⟨jY (cs:=fun _:β=> #[v]) s W W' row h.box hg hr,rP h.row hg (fun r e=>(hr r e).2),fun x hx=>⟨(h.ok x hx).rd.own hg (fun r e=>(hr r e).2),(h.ok x hx).fresh,(h.ok x hx).cap,(h.ok x hx).len,(h.ok x hx).sep⟩⟩,hp⟩
set_option maxHeartbeats 2000000 in
theorem Du(o:RV)(ah:Option Addr)(ch:Nat)(hs:List RV)(w:World)(H:RdSh w o ah hs):
  Calls Tryz.prog 56 #[.agg #[RV.enc o,.slice ah hs.length ch]] w fun e w'=>∃(v:Value) (rs:List RV),e= .returned v/\rs.map RV.r=Geo.aA (gK o hs)/\w'.ownsRow w.heap.size 23 1 v rs.length (rs.map RV.enc)/\(∀x∈rs,RingOk w.heap.size w' v x)/\Below w.heap.size w w':=by
 refine(callsIn_wide (n:=9)).1 (callsIn_of_wp_marks Tryz.func56 rfl trivial ((wpIn_wide (n:=9)).2 ?_) rfl);simp only[Tryz.ntmps56,List.size_toArray,List.length_cons,List.length_nil,Nat.reduceAdd,Nat.reduceSub,Array.replicate_succ,Array.replicate_zero,List.push_toArray,List.append_toArray,List.nil_append,List.cons_append];dsimp only[RV.enc]
 go_wp2_with fail
 refine(sZ o ah hs.length ch _).mono ?_;rintro e w1 ⟨rfl,rfl⟩
 go_wp2_with fail
 have B3:=(Blk.new (w.alloc (.cells #[.slice o.a o.r.length o.c,.slice ah hs.length ch] 26)) 24 #[.slice none 0 0]).alloc (.cells #[RV.enc o,.slice ah hs.length ch] 26);have B4:=Blk.new ((w.alloc (.cells #[.slice o.a o.r.length o.c,.slice ah hs.length ch] 26)).alloc (.cells #[.slice none 0 0] 24)) 26 #[RV.enc o,.slice ah hs.length ch];have hBW:Below w.heap.size w ((((w.alloc (.cells #[.slice o.a o.r.length o.c,.slice ah hs.length ch] 26)).alloc (.cells #[.slice none 0 0] 24))).alloc (.cells #[RV.enc o,.slice ah hs.length ch] 26)):=(((Below.refl _ _).alloc (Nat.le_refl _) _).alloc (by simp) _).alloc (by simp;omega) _
 have hs0:w.heap.size+3=((((w.alloc (.cells #[.slice o.a o.r.length o.c,.slice ah hs.length ch] 26)).alloc (.cells #[.slice none 0 0] 24))).alloc (.cells #[RV.enc o,.slice ah hs.length ch] 26)).heap.size:=by simp
 simp only[World.size_alloc]at B3 B4;generalize (((w.alloc (.cells #[.slice o.a o.r.length o.c,.slice ah hs.length ch] 26)).alloc (.cells #[.slice none 0 0] 24))).alloc (.cells #[RV.enc o,.slice ah hs.length ch] 26)=W0 at B3 B4 hBW hs0|-;refine(wpIn_wide (n:=9)).1 ?_
 refine' wpIn_rangeFunc_ownF (F:=Fence.wide) (n:=9) rfl (by omega) (gf:=179) (lb:= #[.pointer (some ⟨w.heap.size+1+1,0,none⟩)]) rfl trivial (enters_of Tryz.func179 (by kernel_rfl) rfl)
  (mD Fence.wide 8 trivial rfl (by omega) (w.heap.size+1+1) w.heap.size o ah ch hs H.n W0 (by omega) B4 (H.h.below hBW)) Kp2.trans (Sn (by omega) (by omega)) (Below.refl _ _) (fun _=>rfl)
  (fun pre W=>(Blk W (w.heap.size+1+1) 26 #[RV.enc o,.slice ah hs.length ch]/\∃v rs,Rings (w.heap.size+3) (w.heap.size+1) W v rs/\rs.map RV.r=pre.map fun x=>x.1.r)/\(w.heap.size+3<=W.heap.size/\Below w.heap.size w W))
  (fun c pre W=>False/\False)
  (OwnFrom.and (OwnFrom.and jY Vt) (OwnFrom.and (fun s A B row h hg _=>Nat.le_trans h hg.size) (ownFrom_below (Nat.le_refl _) (by omega))))
  (fun c=>OwnFrom.and rD rD)
  ⟨⟨B4,_,[],⟨B3,World.ownsRow_nil _ _ _ _,fun x hx=>by cases hx⟩,rfl⟩,by omega,hBW⟩ _ ?assign ?body ?done ?stop
 case assign=>
  intro l x W K hK;dsimp only[RV.enc]
  gi_wp2
  exact hK
 case stop=>
  rintro D c pre W hD hpre ⟨h,_⟩ hK;exact h.elim
 case done=>
  rintro D xs W hD hxs ⟨⟨b4,v,rs,hR,hm⟩,_,hb⟩ hK;have c3:=hR.box.cell 0;simp at c3;have hD2:w.heap.size<=D:=by omega
  have hm2:rs.map RV.r=Geo.aA (gK o hs):=by
   have e:(xs.map fun x=>x.1.r)=(xs.map (·.1)).map RV.r:=by rw[List.map_map];rfl
   rw[hm,e,hxs];rfl
  clear hxs b4 B3 B4 hBW hs0 hD hm;have hmk:∀x∈rs,RingOk w.heap.size (W.putObj D (.deferred none)) v x:=fun x hx=>⟨(hR.ok x hx).rd.own (grownBy_putObj' W D _) (fun r e=>by cases e;exact⟨_,hK,rfl⟩),(hR.ok x hx).fresh.mono (by omega),(hR.ok x hx).cap,(hR.ok x hx).len,(hR.ok x hx).sep⟩
  have hrow:=hR.row;clear hR
  go_wp2
  exact xW (v:=v) rfl rfl hK ⟨v,rs,rfl,hm2,wT (wR hrow hK _) (by omega),hmk,hb.trans (eY hD2 hK)⟩
 case body=>
  rintro l pre ⟨⟨xa,xc,xr⟩,hxm⟩ W ⟨⟨b4,u3,rs,hR,hm⟩,hsz,hb⟩ hlen;obtain⟨hxr,hxl⟩:=H.v _ hxm;dsimp only at hxr hxl;have hxn:xr.length<=1000:=hxl.1;have hrl:rs.length<=1001:=by have h1:=congrArg List.length hm;have h2:=H.n;simp at h1;omega
  have HE:Hid (∀rs':List RV,rs'.map RV.r=rs.map RV.r++[xr]->rs'.map RV.r=(pre++[(⟨⟨xa,xc,xr⟩,hxm⟩:Mem o hs)]).map fun x=>x.1.r):=Lib.hid (fun rs' h=>by rw[h,hm];simp)
  have b3:=hR.box;have hrow:=hR.row;clear hm B3 B4 hBW hs0;refine wpIn_block ?_;dsimp only[RV.enc];refine oK (by kernel_rfl) (by kernel_rfl) [8,9,10,11,12] [[],[],[1],[1,2],[0,1,2,3],[0,1,2,3,4]] (by kernel_rfl) (by kernel_rfl) (by intro s hs;simp at hs|-;omega)
   (WR3 4 5 (fun wx=>Below W.heap.size W wx) (fun wx=>(∀x∈rs,RdV wx x.a x.r)/\Blk wx (w.heap.size+1) 24 #[u3]/\Blk wx (w.heap.size+1+1) 26 #[RV.enc o,.slice ah hs.length ch]/\Below w.heap.size w wx/\KeepsOthers W wx/\Below w.heap.size W wx/\w.heap.size+3<=wx.heap.size) (fun wx=>∃v rs',Rings (w.heap.size+3) (w.heap.size+1) wx v rs'/\rs'.map RV.r=rs.map RV.r++[xr]/\Blk wx (w.heap.size+1+1) 26 #[RV.enc o,.slice ah hs.length ch]/\Below w.heap.size w wx/\KeepsOthers W wx/\Below w.heap.size W wx/\w.heap.size+3<=wx.heap.size))
   (fun i v wx=>match i with
     |0=>v=u3
     |1=>v= .slice xa xr.length xc
     |2=>∃a c,v= .slice a xr.length c/\RdV wx a xr/\kQ W.heap.size a/\xr.length<=c
     |3=>∃a c g,v= .slice (some ⟨g,0,none⟩) 1 1/\Blk wx g 23 #[.slice a xr.length c]/\W.heap.size<=g/\RdV wx a xr/\kQ W.heap.size a/\xr.length<=c
     |4=>∃a c,wx.ownsRow (w.heap.size+3) 23 1 v (rs.length+1) (rs.map RV.enc++[.slice a xr.length c])/\RdV wx a xr/\kQ W.heap.size a/\xr.length<=c/\(∀k,v.ownBlock=some k->u3.ownBlock=some k\/W.heap.size<=k)/\(0<xr.length->∀b,a=some b->v.ownBlock≠some b.block)
     |5=>True
     |_=>True)
   (WR3.start (Below.refl _ _).drew) ?_ ?_ ?_
  ·intro j v wx wy hf hxy;match j with
   |0=>exact hf
   |1=>exact hf
   |2=>obtain⟨a,c,h1,h2,h3⟩:=hf;exact⟨a,c,h1,h2.below hxy,h3⟩
   |3=>obtain⟨a,c,g,h1,h2,h3,h4,h5⟩:=hf;exact⟨a,c,g,h1,h2.then_ hxy,h3,h4.below hxy,h5⟩
   |4=>obtain⟨a,c,h1,h2,h3⟩:=hf;exact⟨a,c,fO h1 hxy,h2.below hxy,h3⟩
   |5=>exact hf
   |_+6=>exact trivial
  ·refine⟨?_,?_,?_,?_,?_,?_,trivial⟩
   ·intro D V wx hD hanc hdesc hin hWR;have hA:=hWR.lo (hdesc 4 (by kernel_rfl)) (hdesc 5 (by kernel_rfl))
    have e3:=hin 3 (by kernel_rfl)
    simp at e3;have q0:=(Blk.then_ b3 hA).cell 0;simp at q0;refine opK ?_;intro K hK;simp[bZ,execOp,bB,e3,q0,go_sem];exact hK _ _ ⟨rfl,(hWR.keep (by decide) (by decide)),.inl rfl⟩
   ·intro D V wx hD hanc hdesc hin hWR;have hA:=hWR.lo (hdesc 4 (by kernel_rfl)) (hdesc 5 (by kernel_rfl))
    have e4:=hin 4 (by kernel_rfl)
    simp at e4;refine opK ?_;intro K hK;simp[bZ,execOp,bB,e4,go_sem];exact hK _ _ ⟨rfl,(hWR.keep (by decide) (by decide)),.inl rfl⟩
   ·intro D V wx hD hanc hdesc hin hWR;have hA:=hWR.lo (hdesc 4 (by kernel_rfl)) (hdesc 5 (by kernel_rfl))
    have e9:V 9= .slice xa xr.length xc:=(hanc 1 (by kernel_rfl)).2
    refine opK ?_;intro K hK;simp[bZ,execOp,bB,e9,go_sem];refine(Xe xa xc xr _ (hxr.below (hb.trans (hA.mono hb.size))) hxl.1).mono ?_;rintro e w1 ⟨a,c,rfl,hR',hF,hN,hC,hc⟩;exact⟨_,rfl,hK _ _ ⟨⟨a,c,rfl,RdV.aJh hR',hF.mono hA.size,hC⟩,(.mkLo (hdesc 4 (by kernel_rfl)) (hdesc 5 (by kernel_rfl)) (by decide) (by decide) (Below.then_ hA hc)),.inr (.inl hc)⟩⟩
   ·intro D V wx hD hanc hdesc hin hWR;have hA:=hWR.lo (hdesc 4 (by kernel_rfl)) (hdesc 5 (by kernel_rfl))
    have e10:=(hanc 2 (by kernel_rfl)).2
    refine opK ?_;intro K hK;obtain⟨a,c,e10,r1,r2,r3⟩:=e10;have e10:V 10=_:=e10;simp[bZ,execOp,bB,e10,go_sem];refine hK _ _ ⟨⟨a,c,_,rfl,Blk.new _ _ _,hA.size,r1.below ((Below.refl _ _).alloc (Nat.le_refl _) _),r2,r3⟩,(.mkLo (hdesc 4 (by kernel_rfl)) (hdesc 5 (by kernel_rfl)) (by decide) (by decide) (hA.alloc hA.size _)),.inr (.inl ((Below.refl _ _).alloc (Nat.le_refl _) _))⟩
   ·intro D V wx hD hanc hdesc hin hWR;have hA:=hWR.lo hD (hdesc 5 (by kernel_rfl))
    have e8:V 8=u3:=(hanc 0 (by kernel_rfl)).2
    have e11:=(hanc 3 (by kernel_rfl)).2
    refine opK ?_;intro K hK;obtain⟨a,c,g,e11,k1,k2,k3,k4,k5⟩:=e11;have e11:V 11=_:=e11;refine tG (.tmp 8) (.tmp 11) 24 rfl (w.heap.size+3) 23 (.slice none 0 0) 1 24 Tryz.underlying24 (by kernel_rfl) rfl (by decide) u3 _ _ e8 (fO hrow hA) _ _ _ [.slice a xr.length c] e11 rfl (Rd.aFk k1) (fun h=>by cases h) (by intro u hu;simp at hu;subst hu;rfl) (by omega) (by omega) (by have:=hA.size;omega) ?_
    intro v' w' h1 h2 h3 h4;have hbx:=(Blk.then_ b3 hA);have hbr:=(Blk.then_ b4 hA);have hro:=fO hrow hA;have hlt:=k3.lt;refine hK _ _ ⟨⟨a,c,h1,k3.grown (fun _ b hb e=>by have:=k4 b hb;have:=(eQ hrow _ e).2;omega) h3,k4,k5,(fun k hk=>(h4 k hk).imp id (fun h=>Nat.le_trans hA.size h)),(fun h0 b hb e=>by have:=hlt h0 b hb;have:=k4 b hb;rcases h4 _ e with h|h<;>first|omega|(have:=(eQ hrow _ h).2;omega))⟩,.mkMid (hdesc 5 (by kernel_rfl)) (by decide) ⟨(fun x hx=>((hR.ok x hx).rd.below hA).grown (hR.ok x hx).sep h3),lH h3 hbx (wC hro (by omega)),lH h3 hbr (wC hro (by omega)),(hb.trans (hA.mono hb.size)).trans (h2.mono (by omega)),(nW hA).trans (Hd hro h3),((Below.refl w.heap.size W).trans (hA.mono hb.size)).trans (h2.mono (by omega)),by have:=hA.size;have:=h2.size;omega⟩,.inr (.inr ?_)⟩
    intro j hj hf;match j with
    |0=>exact hf
    |1=>exact hf
    |2=>obtain⟨a,c,g1,g2,g3,g4⟩:=hf;exact⟨a,c,g1,g2.grown (fun _ b hb e=>by have:=g3 b hb;have:=(eQ hrow _ e).2;omega) h3,g3,g4⟩
    |3=>obtain⟨a,c,g,g1,g2,g5,g6,g3,g4⟩:=hf;exact⟨a,c,g,g1,lH h3 g2 (fun e=>by have:=(eQ hrow _ e).2;omega),g5,g6.grown (fun _ b hb e=>by have:=g3 b hb;have:=(eQ hrow _ e).2;omega) h3,g3,g4⟩
    |4=>exact absurd (hj.symm.trans hD) (by decide)
    |5=>exact absurd (hj.symm.trans (hdesc 5 (by kernel_rfl))) (by decide)
    |_+6=>exact trivial
   ·intro D V wx hD hanc hdesc hin hWR;have hB:=hWR.mid (hanc 4 (by kernel_rfl)).1 hD
    have e3:=hin 3 (by kernel_rfl)
    simp at e3;have e12:=(hanc 4 (by kernel_rfl)).2
    refine opK ?_;intro K hK;have q0:=hB.2.1.cell 0;have f0:=hB.2.1.frozen 0;simp at q0;obtain⟨a,c,e12,k2,k3,k4,k5,k6⟩:=e12;have e12:wx.ownsRow (w.heap.size+3) 23 1 (V 12) (rs.length+1) (rs.map RV.enc++[.slice a xr.length c]):=e12;have e3:V 3=_:=e3;have k5:∀k,(V 12).ownBlock=some k->_:=k5;have k6:0<xr.length->∀b,a=some b->(V 12).ownBlock≠some b.block:=k6;obtain⟨ra,rc,hv,_,_,_⟩:=Rd.Pi e12;rw[hv]at e12 k5 k6;simp[bZ,execOp,bB,e3,hv,q0,f0,go_sem];have HRK:∀x∈rs++[(⟨a,c,xr⟩:RV)],RingOk (w.heap.size+3) (wx.setCell ⟨w.heap.size+1,0,none⟩ (.slice ra (rs.length+1) rc)) (.slice ra (rs.length+1) rc) x:=by
     intro x hx;rcases List.mem_append.1 hx with h|h
     ·have ok:=hR.ok x h;refine⟨(hB.1 x h).oM (fun _ b hb=>by have:=ok.fresh b hb;show w.heap.size+1≠_;omega),ok.fresh,ok.cap,ok.len,fun h0 b hb e=> ?_⟩
      rcases k5 _ e with e2|e2
      ·exact ok.sep h0 b hb e2
      ·have:=ok.rd.lt h0 b hb;omega
     ·simp at h;subst h;exact⟨k2.oM (fun _ b hb=>by have:=k3 b hb;have:=b3.lt;show w.heap.size+1≠_;omega),k3.mono hsz,k4,hxn,k6⟩
    refine hK _ _ ⟨trivial,.mkHi ⟨_,rs++[⟨a,c,xr⟩],⟨by simpa using hB.2.1.oM 0 (.slice ra (rs.length+1) rc),by simpa[RV.enc]using nV e12 (by show w.heap.size+1<w.heap.size+3;omega),HRK⟩,by simp,hB.2.2.1.far (by simp) _,hB.2.2.2.1.setCell (p:=⟨w.heap.size+1,0,none⟩) (by simp) _,hB.2.2.2.2.1.trans (KeepsOthers.setCell _ _ _),hB.2.2.2.2.2.1.setCell (p:=⟨w.heap.size+1,0,none⟩) (by simp) _,by simpa using hB.2.2.2.2.2.2⟩,.inr (.inr ?_)⟩
    intro j hj hf;match j with
    |0=>exact hf
    |1=>exact hf
    |2=>obtain⟨a,c,g1,g2,g3,g4⟩:=hf;exact⟨a,c,g1,g2.oM (fun _ b hb=>by have:=g3 b hb;have:=b3.lt;show w.heap.size+1≠_;omega),g3,g4⟩
    |3=>obtain⟨a,c,g,g1,g2,g5,g6,g3,g4⟩:=hf;exact⟨a,c,g,g1,g2.far (by have:=b3.lt;show g≠w.heap.size+1;omega) _,g5,g6.oM (fun _ b hb=>by have:=g3 b hb;have:=b3.lt;show w.heap.size+1≠_;omega),g3,g4⟩
    |4=>obtain⟨a,c,g1,g2,g3,g4,g5,g6⟩:=hf;exact⟨a,c,nV g1 (by show w.heap.size+1<_;omega),g2.oM (fun _ b hb=>by have:=g3 b hb;have:=b3.lt;show w.heap.size+1≠_;omega),g3,g4,g5,g6⟩
    |5=>exact absurd (hj.symm.trans hD) (by decide)
    |_+6=>exact trivial
  intro D V wx hall hf hWR;replace hWR:=hWR.hi (hall 5 (by decide))
  have f0:V 8=u3:=hf 0 (by decide)
  have f1:V 9= .slice xa xr.length xc:=hf 1 (by decide)
  have f2:=hf 2 (by decide)
  have f3:=hf 3 (by decide)
  have f4:=hf 4 (by decide)
  clear hf hall;simp only[dP,List.foldl_cons,List.foldl_nil,f0,f1];simp only[Act.put,List.setIfInBounds_toArray,List.set_cons_succ,List.set_cons_zero];clear f0 f1;obtain⟨v',rs',k1,k2,k3,k4,k5,k6,k7⟩:=hWR;exact⟨k5,⟨k6,Eq.trans k3 (Eq.symm b4)⟩,⟨k3,v',rs',k1,HE.out _ k2⟩,k7,k4⟩
end Go.Proofs.YtdaeofhdgabhjaaGreat
namespace Go.Proofs.YtdaeofhdgabhjaaGreat
open Go.RowKit Go.Shelf
attribute [local go_sem] Oper.semAt_some
def mX(s:Geo.Shape):Int:=Geo.eL s.outer-(s.holes.map Geo.eL).sum
theorem Jf{xs:List Geo.V}(h:Geo.cI xs=true): -8000000000<=Geo.eL xs/\Geo.eL xs<=8000000000:=by
 have V:=(Geo.eM xs).1 h;have h:=Kv V.near xs.length (Nat.le_refl _);have e:ar xs xs.length=Geo.eL xs:=rfl;have:=V.most;rw[e]at h;omega
def fL{o:RV}{hs:List RV}(pre:List (Mem o hs)):Int:=(pre.map fun x=>Geo.eL x.1.r).sum
theorem Kd{o:RV}{hs:List RV}(pre:List (Mem o hs))(x:Mem o hs):fL (pre++[x])=fL pre+Geo.eL x.1.r:=by unfold fL;simp
theorem Rx{o:RV}{hs:List RV}(hv:∀x∈o::hs,Geo.cI x.r=true)(pre:List (Mem o hs)): -(8000000000*(pre.length:Int))<=fL pre/\fL pre<=8000000000*(pre.length:Int):=by
 induction pre with
 |nil=>simp[fL]
 |cons x l ih=>
  have:=Jf (hv x.1 x.2);unfold fL at*;simp only[List.map_cons,List.sum_cons,List.length_cons];omega
theorem Oj{o:RV}{hs:List RV}{xs:List (Mem o hs)}(h:xs.map (·.1)=o::hs):Geo.eL o.r*2-fL xs=mX (gK o hs):=by
 have e:(xs.map fun x=>Geo.eL x.1.r)=(xs.map (·.1)).map fun x=>Geo.eL x.r:=by rw[List.map_map];rfl
 unfold fL mX gK;rw[e,h];simp only[List.map_cons,List.sum_cons,List.map_map,Function.comp_def];omega
theorem Jl{s:Geo.Shape}(h:Geo.aM s=true):∀r∈Geo.aA s,Geo.cI r=true:=by
 rw[lC]at h;simp only[Bool.and_eq_true]at h;exact List.all_eq_true.1 h.1.1.2
set_option maxRecDepth 100000 in
set_option maxHeartbeats 2000000 in
theorem Em(o:RV)(ah:Option Addr)(ch:Nat)(hs:List RV)(w:World)(H:RdSh w o ah hs)(hch:hs.length<=ch):
  Calls Tryz.prog 90 #[.agg #[RV.enc o,.slice ah hs.length ch]] w fun e w'=>e= .returned (.int .i64 (if Geo.aM (gK o hs)then mX (gK o hs)else 0))/\Below w.heap.size w w':=by
 have HB0:=Blk.new w 26 #[RV.enc o,.slice ah hs.length ch];have hB0:Below w.heap.size w (w.alloc (.cells #[RV.enc o,.slice ah hs.length ch] 26)):=(Below.refl _ _).alloc (Nat.le_refl _) _;cases hv:Geo.aM (gK o hs)with
 |false=>
  refine(callsIn_wide (n:=9)).1 (callsIn_of_wp_marks Tryz.func90 rfl trivial ((wpIn_wide (n:=9)).2 ?_) rfl);simp only[Tryz.ntmps90,List.size_toArray,List.length_cons,List.length_nil,Nat.reduceAdd,Nat.reduceSub,Array.replicate_succ,Array.replicate_zero,List.push_toArray,List.append_toArray,List.nil_append,List.cons_append]
  go_wp2_with fail
  refine(nF o ah ch hs _ (H.below hB0) hch).mono ?_;rintro e w1 ⟨rfl,hb1⟩;rw[hv]
  go_wp2_with fail
  exact Cy (v:= .int .i64 0) (by simp[results,Tryz.f90]) rfl ⟨rfl,hB0.trans (hb1.mono hB0.size)⟩
 |true=>
  have hval:∀x∈o::hs,Geo.cI x.r=true:=fun x hx=>Jl hv x.r (by
   unfold Geo.aA gK;simp only[List.mem_cons]at hx|-;rcases hx with h|h
   ·exact .inl (by rw[h])
   ·exact .inr (List.mem_map.2 ⟨_,h,rfl⟩))
  have hAO:=Jf (hval o List.mem_cons_self);have hAO2:(if Geo.cI o.r then Geo.eL o.r else 0)=Geo.eL o.r:=by rw[hval o List.mem_cons_self];rfl
  refine(callsIn_wide (n:=9)).1 (callsIn_of_wp_marks Tryz.func90 rfl trivial ((wpIn_wide (n:=9)).2 ?_) rfl);simp only[Tryz.ntmps90,List.size_toArray,List.length_cons,List.length_nil,Nat.reduceAdd,Nat.reduceSub,Array.replicate_succ,Array.replicate_zero,List.push_toArray,List.append_toArray,List.nil_append,List.cons_append]
  go_wp2_with fail
  refine(nF o ah ch hs _ (H.below hB0) hch).mono ?_;rintro e w1 ⟨rfl,hb1⟩;rw[hv];have B1:=HB0.then_ hb1;have hB1:=hB0.trans (hb1.mono hB0.size);have hsz1:w.heap.size+1<=w1.heap.size:=by simpa using hb1.size
  clear HB0 hB0 hb1;have c0:=B1.cell 0;have c1:=B1.cell 1;simp at c0 c1
  go_wp2_with fail
  refine(Hc o.a o.c o.r _ ((H.v o List.mem_cons_self).1.below hB1) (H.v o List.mem_cons_self).2).mono ?_;rintro e w2 ⟨rfl,hb2⟩;rw[hAO2];have B2:=B1.then_ hb2;have hB2:=hB1.trans (hb2.mono hB1.size);have hsz2:w.heap.size+1<=w2.heap.size:=Nat.le_trans hsz1 hb2.size;clear B1 hB1 hb2 c0 c1 hsz1 hAO2;generalize hAe:Geo.eL o.r=A at hAO;have B2a:=B2.alloc (.cells #[.int .i64 (2*A)] 3);have B3:=Blk.new w2 3 #[.int .i64 (2*A)];have hB2a:=hB2.alloc hB2.size (.cells #[.int .i64 (2*A)] 3);have hsz3:w.heap.size+1<=(w2.alloc (.cells #[.int .i64 (2*A)] 3)).heap.size:=by simp;omega
  have hp3:w2.heap.size<(w2.alloc (.cells #[.int .i64 (2*A)] 3)).heap.size:=by simp
  have c0:=B2a.cell 0;have c1:=B2a.cell 1;simp at c0 c1;obtain⟨p3,hp3e⟩:∃p,p=w2.heap.size:=⟨_,rfl⟩;rw[<-hp3e]at B3 hp3 hsz2
  go_wp2_with fail
  rw[<-hp3e];clear hp3e;generalize w2.alloc (.cells #[.int .i64 (2*A)] 3)=w3 at B2a B3 hB2a hsz3 hp3 c0 c1|-;clear B2 hB2;refine(sZ o ah hs.length ch _).mono ?_;rintro e w4 ⟨rfl,rfl⟩
  go_wp2_with fail
  have B3':=B3.alloc (.cells #[RV.enc o,.slice ah hs.length ch] 26);have B4:=Blk.new w3 26 #[RV.enc o,.slice ah hs.length ch];have hB4:=hB2a.alloc hB2a.size (.cells #[RV.enc o,.slice ah hs.length ch] 26);have hsz4:w3.heap.size<(w3.alloc (.cells #[RV.enc o,.slice ah hs.length ch] 26)).heap.size:=by simp
  obtain⟨p4,hp4e⟩:∃p,p=w3.heap.size:=⟨_,rfl⟩;rw[<-hp4e]at B4 hp3 hsz3 hsz4;rw[<-hp4e];clear hp4e B3 B2a c0 c1 hB2a;generalize w3.alloc (.cells #[RV.enc o,.slice ah hs.length ch] 26)=W0 at B3' B4 hB4 hsz4|-;refine(wpIn_wide (n:=9)).1 ?_
  refine' wpIn_rangeFunc_ownF (F:=Fence.wide) (n:=9) rfl (by omega) (gf:=179) (lb:= #[.pointer (some ⟨p4,0,none⟩)]) rfl trivial (enters_of Tryz.func179 (by kernel_rfl) rfl)
   (mD Fence.wide 8 trivial rfl (by omega) p4 w.heap.size o ah ch hs H.n W0 (by omega) B4 (H.h.below hB4)) Kp2.trans (Sn (by omega) (by omega)) (Below.refl _ _) (fun _=>rfl)
   (fun pre W=>(Blk W p4 26 #[RV.enc o,.slice ah hs.length ch]/\Blk W p3 3 #[.int .i64 (2*A-fL pre)])/\Below w.heap.size w W)
   (fun c pre W=>False/\False)
   (OwnFrom.and (OwnFrom.and jY jY) (ownFrom_below (Nat.le_refl _) (by omega)))
   (fun c=>OwnFrom.and rD rD)
   ⟨⟨B4,by simpa[fL]using B3'⟩,hB4⟩ _ ?assign ?body ?done ?stop
  case assign=>
   intro l x W K hK;dsimp only[RV.enc]
   gi_wp2
   exact hK
  case stop=>
   rintro D c pre W hD hpre ⟨h,_⟩ hK;exact h.elim
  case done=>
   rintro D xs W hD hxs ⟨⟨b4,b3⟩,hb⟩ hK;have hres:2*A-fL xs=mX (gK o hs):=by have:=Oj hxs;rw[hAe]at this;omega
   rw[hres]at b3;have hD2:w.heap.size<=D:=by omega
   clear hxs hres b4 B4 B3' hB4;have c3:=b3.cell 0;simp at c3
   go_wp2
   exact xW (v:= .int .i64 (mX (gK o hs))) rfl rfl hK ⟨rfl,hb.trans (eY hD2 hK)⟩
  case body=>
   rintro l pre ⟨⟨xa,xc,xr⟩,hxm⟩ W ⟨⟨b4,b3⟩,hb⟩ hlen;obtain⟨hxr,hxl⟩:=H.v _ hxm;have hvx:=hval _ hxm;have hA:=Jf hvx;dsimp only at hxr hxl hvx hA;have HE:Hid (fL (pre++[(⟨⟨xa,xc,xr⟩,hxm⟩:Mem o hs)])=fL pre+Geo.eL xr):=Lib.hid (Kd _ _);have hbd:=Rx hval pre;have hN:=H.n;have hX2:(if Geo.cI xr then Geo.eL xr else 0)=Geo.eL xr:=by rw[hvx];rfl
   have hwrap:IntKind.i64.wrap (2*A-fL pre-Geo.eL xr)=2*A-fL pre-Geo.eL xr:=IntWalk.i64_in _ ⟨by omega,by omega⟩
   generalize fL pre=S at HE hbd b3 hwrap;have hX:=Lib.hid hX2;clear hX2 hvx hval B4 B3' hB4;refine wpIn_block ?_;dsimp only[RV.enc];refine oK (by kernel_rfl) (by kernel_rfl) [15,16,17,18] [[],[],[1],[0,1,2],[0,1,2,3]] (by kernel_rfl) (by kernel_rfl) (by intro s hs;simp at hs|-;omega)
    (WR2 4 (fun wx=>Below W.heap.size W wx) (fun wx=>Blk wx p3 3 #[.int .i64 (2*A-S-Geo.eL xr)]/\Blk wx p4 26 #[RV.enc o,.slice ah hs.length ch]/\Below w.heap.size w wx/\KeepsOthers W wx/\Below w.heap.size W wx))
    (fun i v wx=>match i with
      |0=>v= .int .i64 (2*A-S)
      |1=>v= .slice xa xr.length xc
      |2=>v= .int .i64 (Geo.eL xr)
      |3=>v= .int .i64 (2*A-S-Geo.eL xr)
      |4=>True
      |_=>True)
    (WR2.start (Below.refl _ _).drew) ?_ ?_ ?_
   ·intro j v wx wy hf hxy;match j with
    |0=>exact hf
    |1=>exact hf
    |2=>exact hf
    |3=>exact hf
    |4=>exact hf
    |_+5=>exact trivial
   ·refine⟨?_,?_,?_,?_,?_,trivial⟩
    ·intro D V wx hD hanc hdesc hin hWR;have hA:=hWR.lo (hdesc 4 (by kernel_rfl))
     have e3:=hin 3 (by kernel_rfl)
     simp at e3;have q0:=(Blk.then_ b3 hA).cell 0;simp at q0;refine opK ?_;intro K hK;simp[bZ,execOp,bB,e3,q0,go_sem];exact hK _ _ ⟨rfl,(hWR.keep (by decide)),.inl rfl⟩
    ·intro D V wx hD hanc hdesc hin hWR;have hA:=hWR.lo (hdesc 4 (by kernel_rfl))
     have e4:=hin 4 (by kernel_rfl)
     simp at e4;refine opK ?_;intro K hK;simp[bZ,execOp,bB,e4,go_sem];exact hK _ _ ⟨rfl,(hWR.keep (by decide)),.inl rfl⟩
    ·intro D V wx hD hanc hdesc hin hWR;have hA:=hWR.lo (hdesc 4 (by kernel_rfl))
     have e16:V 16= .slice xa xr.length xc:=(hanc 1 (by kernel_rfl)).2
     refine opK ?_;intro K hK;simp[bZ,execOp,bB,e16,go_sem];refine(Hc xa xc xr _ (hxr.below (hb.trans (hA.mono hb.size))) hxl).mono ?_;rintro e w1 ⟨rfl,hc⟩;rw[hX.out];exact⟨_,rfl,hK _ _ ⟨rfl,(.mkLo (hdesc 4 (by kernel_rfl)) (by decide) (Below.then_ hA hc)),.inr (.inl hc)⟩⟩
    ·intro D V wx hD hanc hdesc hin hWR;have hA:=hWR.lo (hdesc 4 (by kernel_rfl))
     have e15:V 15= .int .i64 (2*A-S):=(hanc 0 (by kernel_rfl)).2
     have e17:V 17= .int .i64 (Geo.eL xr):=(hanc 2 (by kernel_rfl)).2
     refine opK ?_;intro K hK;simp[bZ,execOp,bB,e15,e17,hwrap,go_sem];exact hK _ _ ⟨rfl,(hWR.keep (by decide)),.inl rfl⟩
    ·intro D V wx hD hanc hdesc hin hWR;have hA:=hWR.lo hD;have e3:=hin 3 (by kernel_rfl)
     simp at e3;have e18:V 18= .int .i64 (2*A-S-Geo.eL xr):=(hanc 3 (by kernel_rfl)).2
     refine opK ?_;intro K hK;have q0:=(Blk.then_ b3 hA).cell 0;have f0:=(Blk.then_ b3 hA).frozen 0;simp at q0;simp[bZ,execOp,bB,e3,e18,q0,f0,go_sem];refine hK _ _ ⟨trivial,.mkHi ⟨by simpa using(Blk.then_ b3 hA).oM 0 (.int .i64 (2*A-S-Geo.eL xr)),(Blk.then_ b4 hA).far (by show p4≠p3;omega) _,(hb.trans (hA.mono hb.size)).setCell (p:=⟨p3,0,none⟩) (by show w.heap.size<=p3;omega) _,(nW hA).trans (KeepsOthers.setCell _ _ _),((Below.refl w.heap.size W).trans (hA.mono hb.size)).setCell (p:=⟨p3,0,none⟩) (by show w.heap.size<=p3;omega) _⟩,.inr (.inr ?_)⟩
     intro j hj hf;match j with
     |0=>exact hf
     |1=>exact hf
     |2=>exact hf
     |3=>exact hf
     |4=>exact absurd (hj.symm.trans hD) (by decide)
     |_+5=>exact trivial
   intro D V wx hall hf hWR;replace hWR:=hWR.hi (hall 4 (by decide))
   have f0:V 15= .int .i64 (2*A-S):=hf 0 (by decide)
   have f1:V 16= .slice xa xr.length xc:=hf 1 (by decide)
   have f2:V 17= .int .i64 (Geo.eL xr):=hf 2 (by decide)
   have f3:V 18= .int .i64 (2*A-S-Geo.eL xr):=hf 3 (by decide)
   clear hf hall;simp only[dP,List.foldl_cons,List.foldl_nil,f0,f1,f2,f3];simp only[Act.put,List.setIfInBounds_toArray,List.set_cons_succ,List.set_cons_zero];clear f0 f1 f2 f3;obtain⟨k1,k2,k3,k4,k5⟩:=hWR;refine⟨k4,⟨k5,Eq.trans k2 (Eq.symm b4)⟩,⟨k2,?_⟩,k3⟩;rw[HE.out,show 2*A-(S+Geo.eL xr)=2*A-S-Geo.eL xr by omega]
   exact k1
end Go.Proofs.YtdaeofhdgabhjaaGreat
namespace Go.Proofs.YtdaeofhdgabhjaaGreat
open Go.RowKit
section
variable {C:bI} {w:World}
theorem dS.rdV(hC:∀b o v,C b o v->w.cell? ⟨b,o,none⟩=some v){r:List Geo.V}{b o:Nat}(h:dS C (lL r) b o):RdV w (some ⟨b,o,none⟩) r:=by
 intro i hi;have h1:=Ex.at r i hi;have g0:(lL r)[i*2]? =some (.int .i64 r[i].x):=by
  have:=congrArg (fun l=>l[0]?) h1
  simpa[List.getElem?_take,List.getElem?_drop]using this
 have g1:(lL r)[i*2+1]? =some (.int .i64 r[i].y):=by
  have:=congrArg (fun l=>l[1]?) h1
  simpa[List.getElem?_take,List.getElem?_drop]using this
 obtain⟨v0,a1,_,a3⟩:=dS.get _ _ _ h _ _ g0;obtain⟨v1,b1,_,b3⟩:=dS.get _ _ _ h _ _ g1;unfold aU at a3 b3;subst a3 b3;have en:Geo.nth r i=r[i] :=by unfold Geo.nth;rw[List.getD_eq_getElem?_getD,List.getElem?_eq_getElem hi];rfl
 refine⟨b,o,rfl,World.block_lt_of_cell? w ⟨b,_,none⟩ (hC _ _ _ a1),?_,?_⟩
 ·rw[en];exact hC _ _ _ a1
 ·rw[en];have:=hC _ _ _ b1;rwa[show o+(i*2+1)=o+i*2+1 by omega]at this
theorem Bw(hC:∀b o v,C b o v->w.cell? ⟨b,o,none⟩=some v){r:List Geo.V}{v:Value}(h:aU C (gF r) v):∃a c,v= .slice a r.length c/\RdV w a r/\r.length<=c/\(a=none->c=0):=by
 unfold gF aU at h;obtain⟨a,c,rfl,h1,h2,h3⟩:=h;refine⟨a,c,rfl,?_,h1,fun e=>(h2 e).1⟩
 cases a with
 |none=>
  have:r=[] :=by
   have:=congrArg List.length (h2 rfl).2;rw[Ex.length]at this;exact List.length_eq_zero_iff.1 (by simp at this;omega)
  subst this;intro i hi;simp at hi
 |some ad=>
  obtain⟨b,o,sp⟩:=ad;obtain⟨h4,h5⟩:=h3 _ rfl;dsimp only at h4 h5;rcases Nat.eq_zero_or_pos r.length with hr0|hr0
  ·intro i hi;omega
  ·have h4:=h4 hr0;subst h4;exact h5.rdV hC
theorem zE(hC:∀b o v,C b o v->w.cell? ⟨b,o,none⟩=some v):∀(l:List Geo.aH) (b o:Nat),dS C (l.map gF) b o->∃hs:List RV,hs.map RV.r=l/\(∀i,i<hs.length->b<w.heap.size/\w.cell? ⟨b,o+i,none⟩=some (RV.enc (hs.getD i default)))/\∀x∈hs,RdV w x.a x.r/\x.r.length<=x.c/\(x.a=none->x.c=0)
 |[],b,o,_=>⟨[],rfl,(fun i h=>by simp at h),fun x h=>by cases h⟩
 |r::l,b,o,h=>by
  rw[List.map_cons]at h;unfold dS at h;obtain⟨⟨v,h1,_,h2⟩,h3⟩:=h;obtain⟨a,c,rfl,h4,h5⟩:=Bw hC h2;obtain⟨hs,g1,g2,g3⟩:=zE hC l b (o+1) h3;refine⟨⟨a,c,r⟩::hs,by simp[g1],?_,?_⟩
  ·intro i hi;cases i with
   |zero=>exact⟨World.block_lt_of_cell? w ⟨b,_,none⟩ (hC _ _ _ h1),by simpa[RV.enc]using hC _ _ _ h1⟩
   |succ i=>
    have:=g2 i (by simpa using hi)
    rw[show o+1+i=o+(i+1) by omega]at this
    simpa using this
  ·intro x hx;rcases List.mem_cons.1 hx with rfl|hx
   ·exact⟨h4,h5⟩
   ·exact g3 x hx
theorem Vr(hC:∀b o v,C b o v->w.cell? ⟨b,o,none⟩=some v){l:List Geo.aH}{v:Value}(h:aU C (iS l) v):
  ∃ah ch,∃hs:List RV,v= .slice ah hs.length ch/\hs.length<=ch/\hs.map RV.r=l/\RdH w.heap.size w ah hs/\∀x∈hs,RdV w x.a x.r/\x.r.length<=x.c/\(x.a=none->x.c=0):=by
 unfold iS aU at h;obtain⟨a,c,rfl,h1,h2,h3⟩:=h;cases a with
 |none=>
  have:l=[] :=by simpa using(h2 rfl).2
  subst this;exact⟨none,c,[],rfl,Nat.zero_le _,rfl,(fun i hi=>by simp at hi),fun x hx=>by cases hx⟩
 |some ad=>
  obtain⟨b,o,sp⟩:=ad;obtain⟨h4,h5⟩:=h3 _ rfl;dsimp only at h4 h5;rcases Nat.eq_zero_or_pos l.length with hl0|hl0
  ·have:l=[] :=List.length_eq_zero_iff.1 hl0;subst this;exact⟨_,c,[],rfl,Nat.zero_le _,rfl,(fun i hi=>by simp at hi),fun x hx=>by cases hx⟩
  have h4:=h4 hl0;subst h4;obtain⟨hs,g1,g2,g3⟩:=zE hC l b o h5;have hl:hs.length=l.length:=by rw[<-g1];simp
  exact⟨_,c,hs,by rw[hl],by omega,g1,fun i hi=>⟨b,o,rfl,(g2 i hi).1,(g2 i hi).2⟩,g3⟩
theorem sW(hC:∀b o v,C b o v->w.cell? ⟨b,o,none⟩=some v){s:Geo.Shape}{v:Value}(hf:Fit s)(h:aU C (mU s) v):
  ∃o ah ch hs,v= .agg #[RV.enc o,.slice ah hs.length ch]/\RdSh w o ah hs/\hs.length<=ch/\(∀x∈o::hs,x.r.length<=x.c)/\gK o hs=s:=by
 unfold mU aU at h;obtain⟨vs,rfl,h1,_⟩:=h;unfold bO at h1;obtain⟨v1,r1,rfl,h2,h3⟩:=h1;unfold bO at h3;obtain⟨v2,r2,rfl,h4,h5⟩:=h3;unfold bO at h5;subst h5;obtain⟨a,c,rfl,g1,g2⟩:=Bw hC h2;obtain⟨ah,ch,hs,rfl,k1,k2,k3,k4⟩:=Vr hC h4;have hl:hs.length=s.holes.length:=by rw[<-k2];simp
 refine⟨⟨a,c,s.outer⟩,ah,ch,hs,rfl,⟨k3,?_,by rw[hl];have:=hf.2.1;omega⟩,k1,?_,by unfold gK;rw[k2]⟩
 ·intro x hx;rcases List.mem_cons.1 hx with rfl|hx
  ·exact⟨g1,hf.1,g2.1,g2.2⟩
  ·exact⟨(k4 x hx).1,hf.2.2 _ (by rw[<-k2];exact List.mem_map.2 ⟨x,hx,rfl⟩),(k4 x hx).2.1,(k4 x hx).2.2⟩
 ·intro x hx;rcases List.mem_cons.1 hx with rfl|hx
  ·exact g2.1
  ·exact(k4 x hx).2.1
theorem xT{cs:List PV}{us:List Value}{a:Option Addr}{n c N:Nat}(hr:Rd w a us)(hf:kQ N a)(hn:a=none->c=0)(hc:n<=c)(hu:us.length=cs.length)(hsp:cs=[]->∀ad,a=some ad->ad.spot=none)
  (hv:∀(i:Nat) x u,cs[i]? =some x->us[i]? =some u->u.oneCell'=true/\aU (fun b o x=>N<=b/\w.cell? ⟨b,o,none⟩=some x) x u):aU (fun b o x=>N<=b/\w.cell? ⟨b,o,none⟩=some x) (.sl n cs) (.slice a n c):=by
 unfold aU;refine⟨a,c,rfl,hc,fun ha=>⟨hn ha,?_⟩,fun ad ha=> ?_⟩
 ·cases cs with
  |nil=>rfl
  |cons x cs=>
   cases us with
   |nil=>simp at hu
   |cons u us=>obtain⟨b,off,h1,_⟩:=hr 0 u rfl;rw[ha]at h1;cases h1
 ·subst ha;cases cs with
  |nil=>
   exact⟨fun _=>hsp rfl _ rfl,by unfold dS;trivial⟩
  |cons x cs=>
   cases us with
   |nil=>simp at hu
   |cons u us=>
    obtain⟨b,off,h1,_⟩:=hr 0 u rfl;cases h1;refine⟨fun _=>rfl,dS.of _ _ _ fun i y hi=> ?_⟩
    have hlt:i<(u::us).length:=by rw[hu];exact(List.getElem?_eq_some_iff.1 hi).1
    have hui:(u::us)[i]? =some (u::us)[i] :=List.getElem?_eq_getElem hlt;obtain⟨b',off',h2,_,h3⟩:=hr i _ hui;cases h2;obtain⟨g1,g2⟩:=hv i y _ hi hui;exact⟨_,⟨hf _ rfl,h3⟩,g1,g2⟩
end
theorem Rn{C:bI}(r:List Geo.V):(jQ r).length=(lL r).length/\∀(i:Nat) x u,(lL r)[i]? =some x->(jQ r)[i]? =some u->u.oneCell'=true/\aU C x u:=by
 refine⟨by rw[mF,Ex.length],?_⟩
 have key:∀(l:List Geo.V) (i:Nat) x u,(l.flatMap fun v=>[PV.int .i64 v.x,PV.int .i64 v.y])[i]? =some x->(l.flatMap fun v=>[Value.int .i64 v.x,Value.int .i64 v.y])[i]? =some u->u.oneCell'=true/\aU C x u:=by
  intro l;induction l with
  |nil=>intro i x u h;simp at h
  |cons v l ih=>
   intro i x u h1 h2;simp only[List.flatMap_cons,List.cons_append,List.nil_append]at h1 h2;match i with
   |0=>simp at h1 h2;subst h1 h2;exact⟨rfl,by unfold aU;rfl⟩
   |1=>simp at h1 h2;subst h1 h2;exact⟨rfl,by unfold aU;rfl⟩
   |i+2=>exact ih i x u (by simpa using h1) (by simpa using h2)
 exact key r
theorem Ro{C:bI}(r:List Geo.S):(iH r).length=(aBO r).length/\∀(i:Nat) x u,(aBO r)[i]? =some x->(iH r)[i]? =some u->u.oneCell'=true/\aU C x u:=by
 refine⟨by rw[wY,aIM.length],?_⟩
 have key:∀(l:List Geo.S) (i:Nat) x u,(l.flatMap fun s=>[PV.int .i64 s.a.x,PV.int .i64 s.a.y,PV.int .i64 s.b.x,PV.int .i64 s.b.y])[i]? =some x->(l.flatMap fun s=>[Value.int .i64 s.a.x,Value.int .i64 s.a.y,Value.int .i64 s.b.x,Value.int .i64 s.b.y])[i]? =some u->u.oneCell'=true/\aU C x u:=by
  intro l;induction l with
  |nil=>intro i x u h;simp at h
  |cons v l ih=>
   intro i x u h1 h2;simp only[List.flatMap_cons,List.cons_append,List.nil_append]at h1 h2;match i with
   |0=>simp at h1 h2;subst h1 h2;exact⟨rfl,by unfold aU;rfl⟩
   |1=>simp at h1 h2;subst h1 h2;exact⟨rfl,by unfold aU;rfl⟩
   |2=>simp at h1 h2;subst h1 h2;exact⟨rfl,by unfold aU;rfl⟩
   |3=>simp at h1 h2;subst h1 h2;exact⟨rfl,by unfold aU;rfl⟩
   |i+4=>exact ih i x u (by simpa using h1) (by simpa using h2)
 exact key r
theorem aAK{w:World}{N:Nat}{v:Value}{xs:List Geo.S}(h:w.ownsRow N 46 4 v xs.length (iH xs)):aU (fun b o x=>N<=b/\w.cell? ⟨b,o,none⟩=some x) (Yo xs) v:=by
 have hsp:∀a c,v= .slice a xs.length c->∀ad,a=some ad->ad.spot=none:=by
  intro a c hv ad ha;rcases h.2 with⟨h1,_⟩|⟨g,cap,cur,h1,_⟩
  ·rw[h1]at hv;injection hv with e1;rw[<-e1]at ha;cases ha
  ·rw[h1]at hv;injection hv with e1;rw[<-e1]at ha;cases ha;rfl
 obtain⟨a,c,rfl,h1,h2,h3,h4⟩:=Rd.Is h;obtain⟨g1,g2⟩:=Ro (C:=fun b o x=>N<=b/\w.cell? ⟨b,o,none⟩=some x) xs
 exact xT h1 h2 h3 h4 g1 (fun _=>hsp a c rfl) g2
theorem aAO{w:World}{N:Nat}{a:Option Addr}{c:Nat}{xs:List Geo.V}(h:RdV w a xs)(hf:kQ N a)(hc:xs.length<=c)(h0:0<xs.length):aU (fun b o x=>N<=b/\w.cell? ⟨b,o,none⟩=some x) (gF xs) (.slice a xs.length c):=by
 obtain⟨b0,o0,rfl,_⟩:=h 0 h0;obtain⟨g1,g2⟩:=Rn (C:=fun b o x=>N<=b/\w.cell? ⟨b,o,none⟩=some x) xs
 refine xT (us:=jQ xs) ?_ hf (fun h=>by cases h) hc g1 (fun _ ad ha=>by cases ha;rfl) g2
 intro i u hi;have hlt:i<xs.length*2:=by rw[<-mF];exact(List.getElem?_eq_some_iff.1 hi).1
 obtain⟨k,hk⟩:∃k,i=k*2\/i=k*2+1:=⟨i/2,by omega⟩
 obtain⟨b,o,he,h1,h2,h3⟩:=h k (by omega)
 cases he;obtain⟨f0,f1⟩:=yJ xs k (by omega)
 rcases hk with rfl|rfl
 ·rw[f0]at hi;cases hi;exact⟨b0,o0,rfl,h1,h2⟩
 ·rw[f1]at hi;cases hi;exact⟨b0,o0,rfl,h1,h3⟩
section
variable {fr:Bool}
theorem Dw(s:Geo.Shape)(hf:Fit s):Sat Tryz.prog true 55 [mU s] (.bool (Geo.aM s)):=by
 refine⟨by kernel_rfl,fun C w vs hC h=> ?_⟩
 unfold bO at h;obtain⟨v,r,rfl,h1,h2⟩:=h;unfold bO at h2;subst h2;obtain⟨o,ah,ch,hs,rfl,H,hch,_,rfl⟩:=sW hC hf h1;refine(nF o ah ch hs w H hch).mono ?_;rintro e w' ⟨rfl,hb⟩;exact⟨_,rfl,by unfold aU;rfl,hb⟩
theorem Dy(s:Geo.Shape)(hf:Fit s):Sat Tryz.prog true 131 [mU s] (Yo (Geo.bX s)):=by
 refine⟨by kernel_rfl,fun C w vs hC h=> ?_⟩
 unfold bO at h;obtain⟨v,r,rfl,h1,h2⟩:=h;unfold bO at h2;subst h2;obtain⟨o,ah,ch,hs,rfl,H,hch,_,rfl⟩:=sW hC hf h1;have hn:hs.length<=900:=by have:=hf.2.1;simpa[gK]using this
 refine(Dv o ah ch hs w H hn).mono ?_;rintro e w' ⟨v,rfl,hrow,hb⟩;exact⟨_,rfl,aU.mono (fun b o x h=> .inr h) _ _ (aAK hrow),hb⟩
theorem En(s:Geo.Shape)(hf:Fit s):Sat Tryz.prog true 90 [mU s] (.int .i64 (if Geo.aM s then mX s else 0)):=by
 refine⟨by kernel_rfl,fun C w vs hC h=> ?_⟩
 unfold bO at h;obtain⟨v,r,rfl,h1,h2⟩:=h;unfold bO at h2;subst h2;obtain⟨o,ah,ch,hs,rfl,H,hch,_,rfl⟩:=sW hC hf h1;refine(Em o ah ch hs w H hch).mono ?_;rintro e w' ⟨rfl,hb⟩;exact⟨_,rfl,by unfold aU;rfl,hb⟩
theorem Qk{w:World}{N:Nat}{v:Value}{rs:List RV}(h:w.ownsRow N 23 1 v rs.length (rs.map RV.enc))(hx:∀x∈rs,RdV w x.a x.r/\kQ N x.a/\x.r.length<=x.c/\0<x.r.length):
  aU (fun b o x=>N<=b/\w.cell? ⟨b,o,none⟩=some x) (iS (rs.map RV.r)) v:=by
 have hsp:∀a c,v= .slice a rs.length c->∀ad,a=some ad->ad.spot=none:=by
  intro a c hv ad ha;rcases h.2 with⟨h1,_⟩|⟨g,cap,cur,h1,_⟩
  ·rw[h1]at hv;injection hv with e1;rw[<-e1]at ha;cases ha
  ·rw[h1]at hv;injection hv with e1;rw[<-e1]at ha;cases ha;rfl
 obtain⟨a,c,rfl,h1,h2,h3,h4⟩:=Rd.Is h;unfold iS;rw[List.length_map];refine xT h1 h2 h3 h4 (by simp) (fun _=>hsp a c rfl) ?_
 intro i x u hi hu;rw[List.getElem?_map,List.getElem?_map]at hi;rw[List.getElem?_map]at hu;cases hr:rs[i]? with
 |none=>rw[hr]at hi;cases hi
 |some y=>
  rw[hr]at hi hu;simp only[Option.map_some,Option.some.injEq]at hi hu;subst hi hu;obtain⟨k1,k2,k3,k4⟩:=hx y (List.mem_of_getElem? hr);exact⟨rfl,aAO k1 k2 k3 k4⟩
theorem Dx(s:Geo.Shape)(hf:Fit s)(hp:0<s.outer.length/\∀r∈s.holes,0<r.length):Sat Tryz.prog true 56 [mU s] (iS (Geo.aA s)):=by
 refine⟨by kernel_rfl,fun C w vs hC h=> ?_⟩
 unfold bO at h;obtain⟨v,r,rfl,h1,h2⟩:=h;unfold bO at h2;subst h2;obtain⟨o,ah,ch,hs,rfl,H,hch,_,rfl⟩:=sW hC hf h1;refine(Du o ah ch hs w H).mono ?_;rintro e w' ⟨v,rs,rfl,hrs,hrow,hok,hb⟩;refine⟨_,rfl,aU.mono (fun b o x h=> .inr h) _ _ ?_,hb⟩
 rw[<-hrs];refine Qk hrow fun x hx=>⟨(hok x hx).rd,(hok x hx).fresh,(hok x hx).cap,?_⟩
 have hm:x.r∈Geo.aA (gK o hs):=by rw[<-hrs];exact List.mem_map.2 ⟨x,hx,rfl⟩
 unfold Geo.aA at hm;rcases List.mem_cons.1 hm with h|h
 ·rw[h];exact hp.1
 ·exact hp.2 _ h
end
def Xu{α:Type}(fr:Bool)(A:Arl α)(pre:α->List Prop)(res:α->SV):Con:=⟨α,A.dec,pre,.val fr res⟩
theorem Ak{f:FuncId}{fr:Bool}{α:Type}{A:Arl α}{pre:α->List Prop}{res:α->SV}(B:α->List PV)(q:α->PV)(hB:∀x,avs (A.enc x)=(B x).map .p)(hq:∀x,(res x).av= .p (q x))(h:∀x,Hl (pre x)->Sat Tryz.prog fr f (B x) (q x)):(Xu fr A pre res).Ok Tryz.prog f:=by
 intro s x hd hp;exact⟨B x,q x,(A.ok s x hd).trans (hB x),hq x,h x (fM.2 hp)⟩
theorem Az(l:List Geo.aH):LT.R.enc l=l.map gF:=by
 unfold LT.enc;induction l with
 |nil=>rfl
 |cons r l ih=>rw[List.flatMap_cons,ih];rfl
theorem Hy(s:Geo.Shape):avs ((a1 aSh).enc s)=[mU s].map .p:=by
 show [SV.av (.agg [.lst .V s.outer,.lst .R s.holes])] =_;show [eN [.p (.sl s.outer.length (lL s.outer)),.p (.sl s.holes.length (LT.R.enc s.holes))]] =_;rw[Az];rfl
def c55:Con:=Xu true (a1 aSh) (fun s=>[Fit s]) (fun s=> .bool (Geo.aM s))
theorem k55:c55.Ok Tryz.prog 55:=Ak (fun s=>[mU s]) (fun s=> .bool (Geo.aM s)) Hy (fun _=>rfl) fun s h=>Dw s h
def aIv:Con:=Xu true (a1 aSh) (fun s=>[Fit s]) (fun s=> .lst .S (Geo.bX s))
theorem aK1:aIv.Ok Tryz.prog 131:=Ak (fun s=>[mU s]) (fun s=>Yo (Geo.bX s)) Hy (fun _=>rfl) fun s h=>Dy s h
def c90:Con:=Xu true (a1 aSh) (fun s=>[Fit s]) (fun s=> .int .i64 (if Geo.aM s=true then mX s else 0))
theorem k90:c90.Ok Tryz.prog 90:=Ak (fun s=>[mU s]) (fun s=> .int .i64 (if Geo.aM s=true then mX s else 0)) Hy (fun _=>rfl) fun s h=>En s h
def c56:Con:=Xu true (a1 aSh) (fun s=>[Fit s,0<s.outer.length,∀r∈s.holes,0<r.length]) (fun s=> .lst .R (Geo.aA s))
theorem k56:c56.Ok Tryz.prog 56:=Ak (fun s=>[mU s]) (fun s=>iS (Geo.aA s)) Hy (fun s=>by show AV.p (.sl _ (LT.R.enc _))=_;rw[Az];rfl) fun s h=>Dx s h.1 h.2
noncomputable def tS:Tab:=cJ [(55,c55),(131,aIv),(90,c90),(56,c56)] aEt
theorem tSo:tS.Ok Tryz.prog:=aR Yb ⟨k55,aK1,k90,k56,trivial⟩
end Go.Proofs.YtdaeofhdgabhjaaGreat
/-
  DERIVED: THE SHELF's CONTRACTS AT THIS DUMP, IN PLAIN WORDS (tools/lay-plain.mjs out of 'YtdaeofhdgabhjaaGreatLayS.lean', which tools/lay-shelf.mjs wrote): THE SAME DECLARATIONS UNDER THE SAME NAMES: 'import', 'namespace', 'open', 'def', 'theorem' AND NOTHING ELSE: no command of the shelf's: FOR A HAND-IN. Each laying: the table of numbers ('.._ren') and one theorem, a field a fact of the dump's own or the kernel's comparison; each contract: ONE APPLICATION.
-/
namespace Go.Proofs
open Go.Shelf
def Tryz.sort68_ren:Go.Shelf.Ren:=⟨fun|6=>68|15=>143|14=>142|28=>195|29=>196|20=>187|21=>188|22=>189|23=>190|24=>191|25=>192|26=>193|27=>194|46=>210|47=>211|48=>212|49=>213|50=>214|57=>226|n=>n,fun|22=>24|24=>23|25=>40|3=>3|39=>134|0=>0|53=>170|55=>172|4=>4|46=>163|45=>162|50=>167|5=>5|9=>9|66=>180|70=>184|76=>193|77=>60|n=>n,fun|n=>n⟩
theorem Tryz.sort68:Go.Proofs.SlLaysF.n6 Tryz.prog Tryz.sort68_ren:={
 mixed:=by kernel_rfl
 f6:=⟨Tryz.f68.name,by decide,Tryz.func68.trans (congrArg some (by kernel_rfl))⟩
 f14:=⟨Tryz.f142.name,by decide,Tryz.func142.trans (congrArg some (by kernel_rfl))⟩
 f15:=Tryz.func143.trans (congrArg some (by kernel_rfl))
 f20:=⟨Tryz.f187.name,by decide,Tryz.func187.trans (congrArg some (by kernel_rfl))⟩
 f21:=⟨Tryz.f188.name,by decide,Tryz.func188.trans (congrArg some (by kernel_rfl))⟩
 f22:=⟨Tryz.f189.name,by decide,Tryz.func189.trans (congrArg some (by kernel_rfl))⟩
 f23:=⟨Tryz.f190.name,by decide,Tryz.func190.trans (congrArg some (by kernel_rfl))⟩
 f24:=⟨Tryz.f191.name,by decide,Tryz.func191.trans (congrArg some (by kernel_rfl))⟩
 f25:=⟨Tryz.f192.name,by decide,Tryz.func192.trans (congrArg some (by kernel_rfl))⟩
 f26:=⟨Tryz.f193.name,by decide,Tryz.func193.trans (congrArg some (by kernel_rfl))⟩
 f27:=⟨Tryz.f194.name,by decide,Tryz.func194.trans (congrArg some (by kernel_rfl))⟩
 f28:=Tryz.func195.trans (congrArg some (by kernel_rfl))
 f29:=Tryz.func196.trans (congrArg some (by kernel_rfl))
 f46:=⟨Tryz.f210.name,by decide,Tryz.func210.trans (congrArg some (by kernel_rfl))⟩
 f47:=Tryz.func211.trans (congrArg some (by kernel_rfl))
 f48:=Tryz.func212.trans (congrArg some (by kernel_rfl))
 f49:=⟨Tryz.f213.name,by decide,Tryz.func213.trans (congrArg some (by kernel_rfl))⟩
 f50:=⟨Tryz.f214.name,by decide,Tryz.func214.trans (congrArg some (by kernel_rfl))⟩
 f57:=⟨Tryz.f226.name,by decide,Tryz.func226.trans (congrArg some (by kernel_rfl))⟩
 t0:=Tryz.underlying0
 a0:=Tryz.isAgg0
 z0:=Tryz.sizeOf0
 v0:=Tryz.zeroValue0
 t3:=Tryz.underlying3
 a3:=Tryz.isAgg3
 z3:=Tryz.sizeOf3
 v3:=Tryz.zeroValue3
 t4:=Tryz.underlying4
 a4:=Tryz.isAgg4
 z4:=Tryz.sizeOf4
 v4:=Tryz.zeroValue4
 t5:=Tryz.underlying5
 a5:=Tryz.isAgg5
 z5:=Tryz.sizeOf5
 v5:=Tryz.zeroValue5
 t9:=Tryz.underlying9
 a9:=Tryz.isAgg9
 z9:=Tryz.sizeOf9
 v9:=Tryz.zeroValue9
 t22:=Tryz.underlying24
 a22:=Tryz.isAgg24
 z22:=Tryz.sizeOf24
 v22:=Tryz.zeroValue24
 a24:=Tryz.isAgg23
 z24:=Tryz.sizeOf23
 t25:=Tryz.underlying40
 a25:=Tryz.isAgg40
 z25:=Tryz.sizeOf40
 v25:=Tryz.zeroValue40
 t39:=Tryz.underlying134
 a39:=Tryz.isAgg134
 z39:=Tryz.sizeOf134
 v39:=Tryz.zeroValue134
 t45:=Tryz.underlying162
 a45:=Tryz.isAgg162
 z45:=Tryz.sizeOf162
 v45:=Tryz.zeroValue162
 t46:=Tryz.underlying163
 a46:=Tryz.isAgg163
 z46:=Tryz.sizeOf163
 v46:=Tryz.zeroValue163
 t50:=Tryz.underlying167
 a50:=Tryz.isAgg167
 z50:=Tryz.sizeOf167
 v50:=Tryz.zeroValue167
 t53:=Tryz.underlying170
 a53:=Tryz.isAgg170
 z53:=Tryz.sizeOf170
 v53:=Tryz.zeroValue170
 t55:=Tryz.underlying172
 a55:=Tryz.isAgg172
 z55:=Tryz.sizeOf172
 v55:=Tryz.zeroValue172
 t66:=Tryz.underlying180
 a66:=Tryz.isAgg180
 z66:=Tryz.sizeOf180
 v66:=Tryz.zeroValue180
 t70:=Tryz.underlying184
 a70:=Tryz.isAgg184
 z70:=Tryz.sizeOf184
 v70:=Tryz.zeroValue184
 t76:=Tryz.underlying193
 a76:=Tryz.isAgg193
 z76:=Tryz.sizeOf193
 v76:=Tryz.zeroValue193
 t77:=Tryz.underlying60
 a77:=Tryz.isAgg60
 z77:=Tryz.sizeOf60
 v77:=Tryz.zeroValue60}
end Go.Proofs
namespace Go.Proofs.YtdaeofhdgabhjaaGreat
open Go.RowKit
set_option maxRecDepth 100000
open Geo (nth)
structure Lay(w w':World):Prop where
 below:Below w.heap.size w w'
 drawn:w.drawn<=w'.drawn
theorem Lay.refl(w:World):Lay w w:=⟨Below.refl _ _,Nat.le_refl _⟩
theorem Lay.trans{a b c:World}(h:Lay a b)(k:Lay b c):Lay a c:=⟨Below.then_ h.below k.below,Nat.le_trans h.drawn k.drawn⟩
theorem Lay.alloc{a b:World}(h:Lay a b)(x:Obj):Lay a (b.alloc x):=⟨h.below.alloc h.below.size _,h.drawn⟩
theorem Lay.drew{a b:World}(h:Lay a b):Lay a b.drew:=⟨h.below.drew,Nat.le_trans h.drawn (Nat.le_succ _)⟩
theorem Lay.grow{w w':World}(h:Lay w w'):∃q os,w'=Sort.grow (w.drewN q) os:=by
 obtain⟨p,hp⟩:=wW h.below;refine⟨w'.drawn-w.drawn,p.os,?_⟩;have hd:=h.drawn;have hn:w'.drawn=p.n:=by rw[hp];rfl
 rw[hp];unfold grD Sort.grow World.drewN;simp only[World.mk.injEq,true_and,and_true];rw[hn]at hd;omega
set_option maxHeartbeats 2000000 in
theorem wZ(ax ay bx b_y:Int)(w:World):Calls Tryz.prog 78 #[.agg #[.int .i64 ax,.int .i64 ay],.agg #[.int .i64 bx,.int .i64 b_y]] w
  fun e w'=>e= .returned (.int .i64 (lP ax ay bx b_y))/\Lay w w':=by
 have B1:=(Blk.new w 44 #[.int .i64 ax,.int .i64 ay]).alloc (.cells #[.int .i64 bx,.int .i64 b_y] 44);have B2:=Blk.new (w.alloc (.cells #[.int .i64 ax,.int .i64 ay] 44)) 44 #[.int .i64 bx,.int .i64 b_y];have hL:Lay w ((w.alloc (.cells #[.int .i64 ax,.int .i64 ay] 44)).alloc (.cells #[.int .i64 bx,.int .i64 b_y] 44)):=((Lay.refl w).alloc _).alloc _;rw[World.size_alloc]at B2
 go_enter Tryz.func78,Tryz.ntmps78
 go_upto_region 1 with fail
 generalize (w.alloc (.cells #[.int .i64 ax,.int .i64 ay] 44)).alloc (.cells #[.int .i64 bx,.int .i64 b_y] 44)=W at B1 B2 hL|-;refine zA (by kernel_rfl) [4,5,6,7,8,9,10,11,12,13,14,15,16] [[],[0],[],[2],[0,1,2,3],[],[5],[],[7],[0,1,2,3,4,5,6,7,8],[0,1,2,3,4,5,6,7,8,9],[0,1,2,3,4,5,6,7,8,9,10],[0,1,2,3,4,5,6,7,8,9,10,11]] (by kernel_rfl) (by kernel_rfl) (by intro s hs;simp at hs|-;omega)
  (fun D wx=>Lay W wx)
  (fun i v wx=>match i with
    |0=>v= .pointer (some ⟨w.heap.size,1,none⟩)
    |1=>v= .int .i64 ay
    |2=>v= .pointer (some ⟨w.heap.size+1,1,none⟩)
    |3=>v= .int .i64 b_y
    |4=>v= .int .i64 (eO ay b_y)
    |5=>v= .pointer (some ⟨w.heap.size,0,none⟩)
    |6=>v= .int .i64 ax
    |7=>v= .pointer (some ⟨w.heap.size+1,0,none⟩)
    |8=>v= .int .i64 bx
    |9=>v= .int .i64 (eO ax bx)
    |10=>∃g,v= .slice (some ⟨g,0,none⟩) 2 2/\Blk wx g 3 #[.int .i64 (eO ay b_y),.int .i64 (eO ax bx)]
    |11=>v= .int .i64 (lP ax ay bx b_y)
    |12=>v= .int .i64 (lP ax ay bx b_y)
    |_=>True)
  (Lay.refl _).drew ?_ ?_ ?_
 ·intro j v wx wy hf hxy;match j with
  |0=>exact hf
  |1=>exact hf
  |2=>exact hf
  |3=>exact hf
  |4=>exact hf
  |5=>exact hf
  |6=>exact hf
  |7=>exact hf
  |8=>exact hf
  |9=>exact hf
  |10=>obtain⟨g,h1,h2⟩:=hf;exact⟨g,h1,h2.then_ hxy⟩
  |11=>exact hf
  |12=>exact hf
  |_+13=>exact trivial
 ·refine⟨?_,?_,?_,?_,?_,?_,?_,?_,?_,?_,?_,?_,?_,trivial⟩
  ·intro D V wx hD hanc hdesc hin hWR;have hA:=hWR;have e2:=hin 2 (by kernel_rfl)
   simp at e2;refine opK ?_;intro K hK;simp[bZ,execOp,bB,e2,go_sem];exact hK _ _ ⟨rfl,hWR,.inl rfl⟩
  ·intro D V wx hD hanc hdesc hin hWR;have hA:=hWR;have e5:V 5= .pointer (some ⟨w.heap.size,1,none⟩):=(hanc 0 (by kernel_rfl)).2
   have q0:=(Blk.then_ B1 hA.below).cell 1;simp at q0;refine opK ?_;intro K hK;simp[bZ,execOp,bB,e5,q0,go_sem];exact hK _ _ ⟨rfl,hWR,.inl rfl⟩
  ·intro D V wx hD hanc hdesc hin hWR;have hA:=hWR;have e3:=hin 3 (by kernel_rfl)
   simp at e3;refine opK ?_;intro K hK;simp[bZ,execOp,bB,e3,go_sem];exact hK _ _ ⟨rfl,hWR,.inl rfl⟩
  ·intro D V wx hD hanc hdesc hin hWR;have hA:=hWR;have e7:V 7= .pointer (some ⟨w.heap.size+1,1,none⟩):=(hanc 2 (by kernel_rfl)).2
   have q0:=(Blk.then_ B2 hA.below).cell 1;simp at q0;refine opK ?_;intro K hK;simp[bZ,execOp,bB,e7,q0,go_sem];exact hK _ _ ⟨rfl,hWR,.inl rfl⟩
  ·intro D V wx hD hanc hdesc hin hWR;have hA:=hWR;have e6:V 6= .int .i64 ay:=(hanc 1 (by kernel_rfl)).2
   have e8:V 8= .int .i64 b_y:=(hanc 3 (by kernel_rfl)).2
   refine opK ?_;intro K hK;simp[bZ,execOp,bB,e6,e8,go_sem];refine(Uk _ _ _).mono ?_;rintro e w1 ⟨rfl,rfl⟩;exact⟨_,rfl,hK _ _ ⟨rfl,hWR,.inl rfl⟩⟩
  ·intro D V wx hD hanc hdesc hin hWR;have hA:=hWR;have e2:=hin 2 (by kernel_rfl)
   simp at e2;refine opK ?_;intro K hK;simp[bZ,execOp,bB,e2,go_sem];exact hK _ _ ⟨rfl,hWR,.inl rfl⟩
  ·intro D V wx hD hanc hdesc hin hWR;have hA:=hWR;have e10:V 10= .pointer (some ⟨w.heap.size,0,none⟩):=(hanc 5 (by kernel_rfl)).2
   have q0:=(Blk.then_ B1 hA.below).cell 0;simp at q0;refine opK ?_;intro K hK;simp[bZ,execOp,bB,e10,q0,go_sem];exact hK _ _ ⟨rfl,hWR,.inl rfl⟩
  ·intro D V wx hD hanc hdesc hin hWR;have hA:=hWR;have e3:=hin 3 (by kernel_rfl)
   simp at e3;refine opK ?_;intro K hK;simp[bZ,execOp,bB,e3,go_sem];exact hK _ _ ⟨rfl,hWR,.inl rfl⟩
  ·intro D V wx hD hanc hdesc hin hWR;have hA:=hWR;have e12:V 12= .pointer (some ⟨w.heap.size+1,0,none⟩):=(hanc 7 (by kernel_rfl)).2
   have q0:=(Blk.then_ B2 hA.below).cell 0;simp at q0;refine opK ?_;intro K hK;simp[bZ,execOp,bB,e12,q0,go_sem];exact hK _ _ ⟨rfl,hWR,.inl rfl⟩
  ·intro D V wx hD hanc hdesc hin hWR;have hA:=hWR;have e11:V 11= .int .i64 ax:=(hanc 6 (by kernel_rfl)).2
   have e13:V 13= .int .i64 bx:=(hanc 8 (by kernel_rfl)).2
   refine opK ?_;intro K hK;simp[bZ,execOp,bB,e11,e13,go_sem];refine(Uk _ _ _).mono ?_;rintro e w1 ⟨rfl,rfl⟩;exact⟨_,rfl,hK _ _ ⟨rfl,hWR,.inl rfl⟩⟩
  ·intro D V wx hD hanc hdesc hin hWR;have hA:=hWR;have e9:V 9= .int .i64 (eO ay b_y):=(hanc 4 (by kernel_rfl)).2
   have e14:V 14= .int .i64 (eO ax bx):=(hanc 9 (by kernel_rfl)).2
   refine opK ?_;intro K hK;simp[bZ,execOp,bB,e9,e14,go_sem];exact hK _ _ ⟨⟨_,rfl,Blk.new _ _ _⟩,(hA.alloc _),.inr (.inl ((Below.refl _ _).alloc (Nat.le_refl _) _))⟩
  ·intro D V wx hD hanc hdesc hin hWR;have hA:=hWR;have e15:=(hanc 10 (by kernel_rfl)).2
   refine opK ?_;intro K hK;obtain⟨g,e15,hg⟩:=e15;have e15:V 15=_:=e15;have q0:=hg.cell 0;have q1:=hg.cell 1;simp at q0 q1;simp[bZ,execOp,bB,e15,go_sem];refine(aFj _ _ _ _ q0 q1).mono ?_;rintro e w1 ⟨rfl,rfl⟩;exact⟨_,rfl,hK _ _ ⟨rfl,hWR,.inl rfl⟩⟩
  ·intro D V wx hD hanc hdesc hin hWR;have hA:=hWR;have e16:V 16= .int .i64 (lP ax ay bx b_y):=(hanc 11 (by kernel_rfl)).2
   refine opK ?_;intro K hK;simp[bZ,execOp,bB,e16,go_sem];exact hK _ _ ⟨rfl,hWR,.inl rfl⟩
 intro D V wx hall hf hWR;have f0:V 5= .pointer (some ⟨w.heap.size,1,none⟩):=hf 0 (by decide)
 have f1:V 6= .int .i64 ay:=hf 1 (by decide)
 have f2:V 7= .pointer (some ⟨w.heap.size+1,1,none⟩):=hf 2 (by decide)
 have f3:V 8= .int .i64 b_y:=hf 3 (by decide)
 have f4:V 9= .int .i64 (eO ay b_y):=hf 4 (by decide)
 have f5:V 10= .pointer (some ⟨w.heap.size,0,none⟩):=hf 5 (by decide)
 have f6:V 11= .int .i64 ax:=hf 6 (by decide)
 have f7:V 12= .pointer (some ⟨w.heap.size+1,0,none⟩):=hf 7 (by decide)
 have f8:V 13= .int .i64 bx:=hf 8 (by decide)
 have f9:V 14= .int .i64 (eO ax bx):=hf 9 (by decide)
 have f10:=hf 10 (by decide)
 have f11:V 16= .int .i64 (lP ax ay bx b_y):=hf 11 (by decide)
 have f12:V 4= .int .i64 (lP ax ay bx b_y):=hf 12 (by decide)
 clear hf hall;simp only[dP,List.foldl_cons,List.foldl_nil,f0,f1,f2,f3,f4,f5,f6,f7,f8,f9,f11,f12];simp only[Act.put,List.setIfInBounds_toArray,List.set_cons_succ,List.set_cons_zero];clear f0 f1 f2 f3 f4 f5 f6 f7 f8 f9 f11 f12
 go_wp2
 go_ret
 exact⟨rfl,hL.trans hWR⟩
def Ov(x y:Geo.aH):Int:=lP (nth x 0).x (nth x 0).y (nth y 0).x (nth y 0).y
set_option maxHeartbeats 2000000 in
theorem Ru(xa ya:Option Addr)(xc yc:Nat)(xs ys:Geo.aH)(w:World)(hx:RdV w xa xs)(hy:RdV w ya ys)(h0:0<xs.length)(h1:0<ys.length)(_hlx:xs.length<=1000)(_hly:ys.length<=1000):
  Calls Tryz.prog 127 #[.slice xa xs.length xc,.slice ya ys.length yc] w fun e w'=>e= .returned (.int .i64 (Ov xs ys))/\Lay w w':=by
 obtain⟨b,off,rfl,hb,p0,p1⟩:=hx 0 h0;obtain⟨b',off',rfl,hb',q0,q1⟩:=hy 0 h1;have HC:Hid (Ov xs ys=lP (nth xs 0).x (nth xs 0).y (nth ys 0).x (nth ys 0).y):=Lib.hid rfl;generalize (nth xs 0).x=ax at p0 HC;generalize (nth xs 0).y=ay at p1 HC;generalize (nth ys 0).x=bx at q0 HC;generalize (nth ys 0).y=b_y at q1 HC;simp only[Nat.zero_mul,Nat.add_zero]at p0 p1 q0 q1
 go_enter Tryz.func127,Tryz.ntmps127
 go_upto_region 1 with fail
 have r0:=Lib.hid p0;have r1:=Lib.hid p1;have r2:=Lib.hid q0;have r3:=Lib.hid q1;clear p0 p1 q0 q1;refine zA (by kernel_rfl) [4,5,6,7,8,9,10,11] [[],[0],[0,1],[],[3],[3,4],[0,1,2,3,4,5],[0,1,2,3,4,5,6]] (by kernel_rfl) (by kernel_rfl) (by intro s hs;simp at hs|-;omega)
  (fun D wx=>Lay w wx)
  (fun i v wx=>match i with
    |0=>v= .slice (some ⟨b,off,none⟩) xs.length xc
    |1=>v= .pointer (some ⟨b,off,none⟩)
    |2=>v= .agg #[.int .i64 ax,.int .i64 ay]
    |3=>v= .slice (some ⟨b',off',none⟩) ys.length yc
    |4=>v= .pointer (some ⟨b',off',none⟩)
    |5=>v= .agg #[.int .i64 bx,.int .i64 b_y]
    |6=>v= .int .i64 (lP ax ay bx b_y)
    |7=>v= .int .i64 (lP ax ay bx b_y)
    |_=>True)
  (Lay.refl _).drew ?_ ?_ ?_
 ·intro j v wx wy hf hxy;match j with
  |0=>exact hf
  |1=>exact hf
  |2=>exact hf
  |3=>exact hf
  |4=>exact hf
  |5=>exact hf
  |6=>exact hf
  |7=>exact hf
  |_+8=>exact trivial
 ·refine⟨?_,?_,?_,?_,?_,?_,?_,?_,trivial⟩
  ·intro D V wx hD hanc hdesc hin hWR;have hA:=hWR;have e0:=hin 0 (by kernel_rfl)
   simp at e0;refine opK ?_;intro K hK;simp[bZ,execOp,bB,e0,go_sem];exact hK _ _ ⟨rfl,hWR,.inl rfl⟩
  ·intro D V wx hD hanc hdesc hin hWR;have hA:=hWR;have e5:V 5= .slice (some ⟨b,off,none⟩) xs.length xc:=(hanc 0 (by kernel_rfl)).2
   refine opK ?_;intro K hK;simp[bZ,execOp,bB,e5,h0,go_sem];exact hK _ _ ⟨rfl,hWR,.inl rfl⟩
  ·intro D V wx hD hanc hdesc hin hWR;have hA:=hWR;have e6:V 6= .pointer (some ⟨b,off,none⟩):=(hanc 1 (by kernel_rfl)).2
   have s0:=(hA.below.cell (p:=⟨b,off,none⟩) hb).trans r0.out;have s1:=(hA.below.cell (p:=⟨b,off+1,none⟩) hb).trans r1.out;refine opK ?_;intro K hK;simp[bZ,execOp,bB,e6,s0,s1,go_sem];exact hK _ _ ⟨rfl,hWR,.inl rfl⟩
  ·intro D V wx hD hanc hdesc hin hWR;have hA:=hWR;have e1:=hin 1 (by kernel_rfl)
   simp at e1;refine opK ?_;intro K hK;simp[bZ,execOp,bB,e1,go_sem];exact hK _ _ ⟨rfl,hWR,.inl rfl⟩
  ·intro D V wx hD hanc hdesc hin hWR;have hA:=hWR;have e8:V 8= .slice (some ⟨b',off',none⟩) ys.length yc:=(hanc 3 (by kernel_rfl)).2
   refine opK ?_;intro K hK;simp[bZ,execOp,bB,e8,h1,go_sem];exact hK _ _ ⟨rfl,hWR,.inl rfl⟩
  ·intro D V wx hD hanc hdesc hin hWR;have hA:=hWR;have e9:V 9= .pointer (some ⟨b',off',none⟩):=(hanc 4 (by kernel_rfl)).2
   have s0:=(hA.below.cell (p:=⟨b',off',none⟩) hb').trans r2.out;have s1:=(hA.below.cell (p:=⟨b',off'+1,none⟩) hb').trans r3.out;refine opK ?_;intro K hK;simp[bZ,execOp,bB,e9,s0,s1,go_sem];exact hK _ _ ⟨rfl,hWR,.inl rfl⟩
  ·intro D V wx hD hanc hdesc hin hWR;have hA:=hWR;have e7:V 7= .agg #[.int .i64 ax,.int .i64 ay] :=(hanc 2 (by kernel_rfl)).2
   have e10:V 10= .agg #[.int .i64 bx,.int .i64 b_y] :=(hanc 5 (by kernel_rfl)).2
   refine opK ?_;intro K hK;simp[bZ,execOp,bB,e7,e10,go_sem];refine(wZ ax ay bx b_y wx).mono ?_;rintro e w1 ⟨rfl,hc⟩;exact⟨_,rfl,hK _ _ ⟨rfl,hA.trans hc,.inr (.inl hc.below)⟩⟩
  ·intro D V wx hD hanc hdesc hin hWR;have hA:=hWR;have e11:V 11= .int .i64 (lP ax ay bx b_y):=(hanc 6 (by kernel_rfl)).2
   refine opK ?_;intro K hK;simp[bZ,execOp,bB,e11,go_sem];exact hK _ _ ⟨rfl,hWR,.inl rfl⟩
 intro D V wx hall hf hWR;have f0:V 5= .slice (some ⟨b,off,none⟩) xs.length xc:=hf 0 (by decide)
 have f1:V 6= .pointer (some ⟨b,off,none⟩):=hf 1 (by decide)
 have f2:V 7= .agg #[.int .i64 ax,.int .i64 ay] :=hf 2 (by decide)
 have f3:V 8= .slice (some ⟨b',off',none⟩) ys.length yc:=hf 3 (by decide)
 have f4:V 9= .pointer (some ⟨b',off',none⟩):=hf 4 (by decide)
 have f5:V 10= .agg #[.int .i64 bx,.int .i64 b_y] :=hf 5 (by decide)
 have f6:V 11= .int .i64 (lP ax ay bx b_y):=hf 6 (by decide)
 have f7:V 4= .int .i64 (lP ax ay bx b_y):=hf 7 (by decide)
 clear hf hall;simp only[dP,List.foldl_cons,List.foldl_nil,f0,f1,f2,f3,f4,f5,f6,f7];simp only[Act.put,List.setIfInBounds_toArray,List.set_cons_succ,List.set_cons_zero];clear f0 f1 f2 f3 f4 f5 f6 f7
 go_wp2
 go_ret
 exact⟨lV HC.out.symm,hWR⟩
end Go.Proofs.YtdaeofhdgabhjaaGreat
namespace Go.Proofs.YtdaeofhdgabhjaaGreat
open Go.RowKit Go.Sort Go.Shelf Go.Lib
section
variable {α:Type} [Inhabited α]
theorem qI{enc:α->Value}{w:World}{g n:Nat}{d:Array α}{os:Array Obj}{cur:Array Value}{t:TypeId}(hb:w.heap[g]? =some (.cells cur t (0,0))):(sortWorld enc w g 0 n d os).heap[g]? =some (.cells (putCells enc 0 d cur) t (0,0)):=by
 have hlt:=(Array.getElem?_eq_some_iff.1 hb).1;unfold sortWorld Sort.grow putRow mapBlock;simp only[heap_ahead];rw[Array.getElem?_append_left (by simpa using hlt),Array.getElem?_modify,if_pos rfl,hb]
 rfl
theorem lM{enc:α->Value}{w:World}{g n:Nat}{d:Array α}{os:Array Obj}:w.grownBy (sortWorld enc w g 0 n d os) (some g):=by
 refine⟨rfl,rfl,rfl,?_,?_⟩
 ·unfold sortWorld Sort.grow putRow mapBlock;simp
 ·intro k hk hne;unfold sortWorld Sort.grow putRow mapBlock;simp only[heap_ahead];rw[Array.getElem?_append_left (by simpa using hk),Array.getElem?_modify,if_neg (fun e=>hne (by rw[e]))]
theorem Et{enc:α->Value}{d:Array α}{cur:Array Value}(h:d.size<=cur.size):(putCells enc 0 d cur).toList.take d.size=d.toList.map enc:=by
 apply List.ext_getElem?;intro i;rw[List.getElem?_take];by_cases hi:i<d.size
 ·rw[if_pos hi];unfold putCells;simp[hi,show i<cur.size by omega]
 ·rw[if_neg hi,List.getElem?_eq_none (by simp;omega)]
end
theorem uH(g:Nat)(hg:∀args w,(callFunc g args).run Tryz.prog w= .ok (.enter g args) w)(cf:Geo.aH->Geo.aH->Int)(base:Nat)(v:Value)(rs:List RV)(w:World)(hl:rs.length<=1000000)
  (hrow:w.ownsRow base 23 1 v rs.length (rs.map RV.enc)) (hok:∀x∈rs,RingOk base w v x) (hO:SWO (ltOf fun x y:{x:RV//x∈rs}=>cf x.1.r y.1.r))
  (hcmp:∀x∈rs,∀y∈rs,∀wx,RdV wx x.a x.r->RdV wx y.a y.r->Calls Tryz.prog g #[x.enc,y.enc] wx fun e w'=>e= .returned (.int .i64 (cf x.r y.r))/\Lay wx w'):
  Calls Tryz.prog 68 #[v,.func (.func g) #[] #[]] w fun e w'=>e= .returned (.tuple #[])/\∃rs':List RV,rs'.Perm rs/\rs'.Pairwise (fun a b=>¬cf b.r a.r<0)/\w'.ownsRow base 23 1 v rs'.length (rs'.map RV.enc)/\(∀x∈rs',RingOk base w' v x)/\w.grownBy w' v.ownBlock:=by
 by_cases hr0:rs=[]
 ·subst hr0;have hv:∃p cap,v= .slice p 0 cap:=by
   rcases hrow.2 with⟨h1,_⟩|⟨gb,cap,cur,h1,_⟩
   ·exact⟨_,_,h1⟩
   ·exact⟨_,_,h1⟩
  obtain⟨p,cap,rfl⟩:=hv;have h:=AnyF.slices_SortFunc_none (P:=Tryz.prog) (ρ:=Tryz.sort68_ren) {Tryz.sort68 with} p cap (.func (.func g) #[] #[]) w
  change Calls Tryz.prog 68 _ _ _ at h;refine h.mono ?_;rintro e w' ⟨rfl,rfl⟩;exact⟨rfl,[],List.Perm.refl _,List.Pairwise.nil,hrow,hok,⟨rfl,rfl,rfl,Nat.le_refl _,fun _ _ _=>rfl⟩⟩
 ·obtain⟨x0,hx0⟩:=List.exists_mem_of_ne_nil _ hr0;have:Inhabited {x:RV//x∈rs}:=⟨⟨x0,hx0⟩⟩;rcases hrow.2 with⟨_,h1⟩|⟨gb,cap,cur,rfl,hbb,hh,hn,hcap,hsz,htk⟩
  ·exact absurd (List.length_eq_zero_iff.1 h1) hr0
  ·obtain⟨d,hd⟩:∃d:Array {x:RV//x∈rs},d=rs.attach.toArray:=⟨_,rfl⟩;have hds:d.size=rs.length:=by rw[hd];simp
   have hdm:d.toList.map (·.1)=rs:=by rw[hd];simp
   have hcs:rs.length<=cur.size:=by rw[hsz];omega
   have hH:Holds (fun x:{x:RV//x∈rs}=>RV.enc x.1) w gb 0 d:=by
    intro j hj;have e1:cur[j]? =some (RV.enc d[j]!.1):=by
     have e2:(cur.toList.take (rs.length*1))[j]? =(rs.map RV.enc)[j]? :=by rw[htk]
     rw[List.getElem?_take,if_pos (by omega)]at e2
     have e3:(rs.map RV.enc)[j]? =some (RV.enc d[j]!.1):=by
      have e4:((d.toList.map (·.1)).map RV.enc)[j]? =some (RV.enc d[j]!.1):=by
       rw[List.map_map,List.getElem?_map];simp[hj]
      rw[hdm]at e4;exact e4
     rw[e3]at e2;simpa using e2
    refine⟨?_,?_⟩
    ·rw[Nat.zero_add];exact(cell_of_row w gb j cur 23 (0,0) hh).trans e1
    ·simp[World.frozen?,hh]
   have hblk:gb<w.heap.size:=(Array.getElem?_eq_some_iff.1 hh).1;have h:=Any.slices_SortFunc (P:=Tryz.prog) (ρ:=Tryz.sort68_ren) Tryz.sort68 (fun x:{x:RV//x∈rs}=>RV.enc x.1) (fun _=>rfl) (fun x y=>cf x.1.r y.1.r) hO g #[] gb 0 cap d w hg (by
    intro m os dk hdk x y;have hG:=lM (enc:=fun x:{x:RV//x∈rs}=>RV.enc x.1) (w:=w) (g:=gb) (n:=m) (d:=dk) (os:=os)
    have h1:=hcmp x.1 x.2 y.1 y.2 _ ((hok x.1 x.2).rd.grown (hok x.1 x.2).sep hG) ((hok y.1 y.2).rd.grown (hok y.1 y.2).sep hG);rw[show(#[RV.enc x.1,RV.enc y.1] ++(#[] :Array Value))= #[RV.enc x.1,RV.enc y.1] by simp]
    exact h1.mono fun e w' ⟨he,hL⟩=>⟨he,hL.grow⟩) hH hblk (by omega)
   change Calls Tryz.prog 68 _ _ _ at h;rw[hds]at h;refine h.mono ?_;rintro e w' ⟨rfl,d',n,os,hp,hs,rfl⟩;obtain⟨p1,_,p3⟩:=hp;have hG:=lM (enc:=fun x:{x:RV//x∈rs}=>RV.enc x.1) (w:=w) (g:=gb) (n:=n) (d:=d') (os:=os)
   have hperm:d'.toList.Perm d.toList:=by
    have e1:(d'.extract 0 rs.length).toList=d'.toList:=by rw[<-hds,<-p1];simp
    have e2:(d.extract 0 rs.length).toList=d.toList:=by rw[<-hds];simp
    rwa[e1,e2]at p3
   have hpr:(d'.toList.map (·.1)).Perm rs:=by
    have:=hperm.map (·.1)
    rwa[hdm]at this
   have hlen:(d'.toList.map (·.1)).length=rs.length:=hpr.length_eq
   refine⟨rfl,d'.toList.map (·.1),hpr,?_,?_,?_,hG⟩
   ·rw[List.pairwise_map,List.pairwise_iff_getElem];intro i j hi hj hij;have hj':j<d'.size:=by simpa using hj
    have:=hs i j (Nat.zero_le _) hij (by rw[<-hds,<-p1];exact hj')
    unfold ltOf at this;rw[getElem!_pos d' i (by omega),getElem!_pos d' j hj']at this
    simpa using this
   ·refine⟨by simp,.inr ⟨gb,cap,_,by rw[hlen],hbb,qI hh,by omega,hcap,by unfold putCells;simpa using hsz,?_⟩⟩
    rw[hlen,Nat.mul_one,<-hds,<-p1,Et (by omega),List.map_map]
    rfl
   ·intro x hx;have hx2:=hpr.mem_iff.1 hx;have ok:=hok x hx2;exact⟨ok.rd.grown ok.sep hG,ok.fresh,ok.cap,ok.len,ok.sep⟩
end Go.Proofs.YtdaeofhdgabhjaaGreat
namespace Go.Proofs.YtdaeofhdgabhjaaGreat
open Go.RowKit
theorem Tq(p q:Geo.V):lP p.x p.y q.x q.y=Geo.dJ p q:=by
 unfold lP orI Geo.dJ eO Geo.eO;grind
theorem Jy{xs ys:Geo.aH}{k:Nat}(hx:k<xs.length)(hy:k<ys.length):Geo.bV (xs.drop k) (ys.drop k)=if Geo.dJ (Geo.nth xs k) (Geo.nth ys k)=0 then Geo.bV (xs.drop (k+1)) (ys.drop (k+1))else Geo.dJ (Geo.nth xs k) (Geo.nth ys k):=by
 have e1:Geo.nth xs k=xs[k] :=by unfold Geo.nth;simp[List.getD_eq_getElem?_getD,hx]
 have e2:Geo.nth ys k=ys[k] :=by unfold Geo.nth;simp[List.getD_eq_getElem?_getD,hy]
 rw[List.drop_eq_getElem_cons hx,List.drop_eq_getElem_cons hy,e1,e2];by_cases h:Geo.dJ xs[k] ys[k] =0
 ·rw[if_pos h];show(if Geo.dJ xs[k] ys[k]≠0 then _ else _)=_
  rw[if_neg (by simpa using h)]
 ·rw[if_neg h];show(if Geo.dJ xs[k] ys[k]≠0 then _ else _)=_
  rw[if_pos h]
theorem Rt{xs ys:Geo.aH}{k:Nat}(hx:k<xs.length)(hy:ys.length<=k):Geo.bV (xs.drop k) (ys.drop k)=1:=by
 rw[List.drop_eq_getElem_cons hx,List.drop_eq_nil_of_le hy];rfl
theorem Og{xs ys:Geo.aH}{k:Nat}(hx:xs.length<=k)(hk:k<=xs.length):Geo.bV (xs.drop k) (ys.drop k)=if xs.length<ys.length then-1 else 0:=by
 rw[List.drop_eq_nil_of_le hx];by_cases h:xs.length<ys.length
 ·rw[if_pos h,List.drop_eq_getElem_cons (show k<ys.length by omega)];rfl
 ·rw[if_neg h,List.drop_eq_nil_of_le (show ys.length<=k by omega)];rfl
set_option maxRecDepth 100000 in
set_option maxHeartbeats 2000000 in
theorem Ab(xa ya:Option Addr)(xc yc:Nat)(xs ys:Geo.aH)(w:World)(hx:RdV w xa xs)(hy:RdV w ya ys)(hlx:xs.length<=1000)(_hly:ys.length<=1000):
  Calls Tryz.prog 77 #[.slice xa xs.length xc,.slice ya ys.length yc,.func (.func 78) #[] #[]] w fun e w'=>e= .returned (.int .i64 (Geo.bV xs ys))/\Lay w w':=by
 go_enter Tryz.func77,Tryz.ntmps77
 go_wp2
 go_loopw [7,8,9,10,13] (fun _ _ _ _ i wr=>∃k:Nat,k<=xs.length/\i= .int .i64 k/\Hid (Geo.bV xs ys=Geo.bV (xs.drop k) (ys.drop k))/\Lay w wr) (fun _ _ _ _ i _=>xs.length-(intOf i).toNat)
 case atStart=>exact⟨0,by omega,rfl,Lib.hid (by simp),Lay.refl _⟩
 case round=>
  obtain⟨k,hk,rfl,HF,hb⟩:=hrel;by_cases hlt:k<xs.length
  ·obtain⟨b,off,rfl,hbl,p0,p1⟩:=(hx.below hb.below) k hlt;by_cases hly2:k<ys.length
   ·obtain⟨b',off',rfl,hbl',q0,q1⟩:=(hy.below hb.below) k hly2;have HS:=Lib.hid (HF.out.trans (Jy hlt hly2));obtain⟨⟨ax,ay⟩,hz⟩:∃z,z=Geo.nth xs k:=⟨_,rfl⟩;obtain⟨⟨bx,b_y⟩,hz'⟩:∃z,z=Geo.nth ys k:=⟨_,rfl⟩;rw[<-hz]at p0 p1;rw[<-hz']at q0 q1;rw[<-hz,<-hz']at HS;dsimp only at p0 p1 q0 q1;clear hz hz';have q0':(wr.alloc (.cells #[.int .i64 ax,.int .i64 ay] 44)).cell? ⟨b',off'+k*2,none⟩=some (.int .i64 bx):=(((Below.refl _ wr).alloc (Nat.le_refl _) _).cell (p:=⟨b',_,none⟩) hbl').trans q0;have q1':(wr.alloc (.cells #[.int .i64 ax,.int .i64 ay] 44)).cell? ⟨b',off'+k*2+1,none⟩=some (.int .i64 b_y):=(((Below.refl _ wr).alloc (Nat.le_refl _) _).cell (p:=⟨b',_,none⟩) hbl').trans q1;have hne:¬ys.length<=k:=by omega
    go_wp2_with fail
    refine(wZ ax ay bx b_y _).mono ?_;rintro e w1 ⟨rfl,hb1⟩;have HC:Hid (lP ax ay bx b_y=Geo.dJ ⟨ax,ay⟩ ⟨bx,b_y⟩):=Lib.hid (Tq ⟨ax,ay⟩ ⟨bx,b_y⟩);rw[HC.out];have hb2:=((hb.alloc (.cells #[.int .i64 ax,.int .i64 ay] 44)).alloc (.cells #[.int .i64 bx,.int .i64 b_y] 44)).trans hb1;clear HC hb1 p0 p1 q0 q1 q0' q1';generalize Geo.dJ ⟨ax,ay⟩ ⟨bx,b_y⟩=C at HS|-;by_cases hc:C=0
    ·subst hc;have HS2:Hid (Geo.bV xs ys=Geo.bV (xs.drop (k+1)) (ys.drop (k+1))):=Lib.hid (HS.out.trans (if_pos rfl))
     go_wp2
     go_roundw
     case rel=>exact⟨k+1,by omega,by go_num,HS2,hb2⟩
     case measure=>simp[intOf];omega
    ·have HS2:Hid (Geo.bV xs ys=C):=Lib.hid (HS.out.trans (if_neg hc));have e1:(C !=0)=true:=by simp[hc]
     have e2:(C==0)=false:=by simp[hc]
     go_wp2
     go_ret
     exact⟨lV HS2.out.symm,hb2⟩
   ·have HS:=Lib.hid (HF.out.trans (Rt hlt (show ys.length<=k by omega)))
    go_wp2
    go_ret
    exact⟨lV HS.out.symm,hb.alloc _⟩
  ·have HS:=Lib.hid (HF.out.trans (Og (show xs.length<=k by omega) hk))
   by_cases hq:xs.length<ys.length
   ·have HS2:=Lib.hid (HS.out.trans (if_pos hq))
    go_wp2
    go_ret
    exact⟨lV HS2.out.symm,hb⟩
   ·have HS2:=Lib.hid (HS.out.trans (if_neg hq))
    go_wp2
    go_ret
    exact⟨lV HS2.out.symm,hb⟩
set_option maxHeartbeats 400000 in
theorem Aa(xa ya:Option Addr)(xc yc:Nat)(xs ys:Geo.aH)(w:World)(hx:RdV w xa xs)(hy:RdV w ya ys)(hlx:xs.length<=1000)(hly:ys.length<=1000):
  Calls Tryz.prog 26 #[.slice xa xs.length xc,.slice ya ys.length yc] w fun e w'=>e= .returned (.int .i64 (Geo.bV xs ys))/\Lay w w':=by
 go_enter Tryz.func26,Tryz.ntmps26
 go_wp2_with (go_at_call 77;(with_reducible refine(Ab _ _ _ _ _ _ _ hx hy hlx hly).mono ?_);rintro e w1 ⟨rfl,hb1⟩)
 go_ret
 exact⟨rfl,hb1⟩
end Go.Proofs.YtdaeofhdgabhjaaGreat
namespace Go.Proofs.YtdaeofhdgabhjaaGreat
open Go.RowKit
theorem Of{rs:List RV}:Sort.SWO (ltOf fun x y:{x:RV//x∈rs}=>Geo.bV x.1.r y.1.r):=by
 have h:∀x y:{x:RV//x∈rs},ltOf (fun x y:{x:RV//x∈rs}=>Geo.bV x.1.r y.1.r) x y=true↔Geo.bV x.1.r y.1.r<0:=by
  intro x y;unfold ltOf;rw[decide_eq_true_eq]
 refine⟨?_,?_,?_⟩
 ·intro x;rw[Bool.eq_false_iff,ne_eq,h];have:=Geo.Jz x.1.r;omega
 ·intro x y z h1 h2;rw[h]at*;exact Geo.oL _ _ _ h1 h2
 ·intro x y z h1 h2;rw[Bool.eq_false_iff,ne_eq,h]at*;have e1:=Geo.fP x.1.r y.1.r;have e2:=Geo.fP y.1.r z.1.r;have e3:=Geo.fP x.1.r z.1.r;have:= @Geo.wV z.1.r y.1.r x.1.r;unfold Geo.gI at this;omega
theorem Rs{a b:Geo.aH}(h:¬Geo.bV b a<0):Geo.gI a b:=by
 have:=Geo.fP a b;unfold Geo.gI;omega
theorem Vv{C:bI}{w:World}{b:Nat}(hC:∀b' o v,C b' o v->w.cell? ⟨b',o,none⟩=some v/\b'≠b){r:List Geo.V}{v:Value}(h:aU C (gF r) v):
  ∃a c,v= .slice a r.length c/\RdV w a r/\r.length<=c/\(0<r.length->∀ad,a=some ad->ad.block≠b):=by
 obtain⟨a,c,hv,h1,h2,_⟩:=Bw (fun b' o v h=>(hC b' o v h).1) h
 refine⟨a,c,hv,h1,h2,fun h0 ad ha=> ?_⟩
 unfold gF aU at h;obtain⟨a',c',hv',_,_,h3⟩:=h;rw[hv]at hv';simp only[Value.slice.injEq,true_and]at hv';obtain⟨rfl,rfl⟩:=hv';obtain⟨_,h5⟩:=h3 _ ha;have hl:0<(lL r).length:=by rw[Ex.length];omega
 obtain⟨u,h6,_⟩:=h5.get _ _ _ 0 _ (List.getElem?_eq_getElem hl);exact(hC _ _ _ h6).2
structure RingIn(C:bI)(w:World)(b:Nat)(x:RV):Prop where
 rep:aU C (gF x.r) x.enc
 rd:RdV w x.a x.r
 cap:x.r.length<=x.c
 sep:0<x.r.length->∀ad,x.a=some ad->ad.block≠b
theorem Fx{C:bI}{w:World}{b:Nat}(hC:∀b' o v,C b' o v->w.cell? ⟨b',o,none⟩=some v/\b'≠b):∀(l:List Geo.aH) (us:List Value),
  (∀(i:Nat) x,(l.map gF)[i]? =some x->∃v,us[i]? =some v/\aU C x v)->∃rs:List RV,rs.map RV.r=l/\rs.map RV.enc=us.take l.length/\∀x∈rs,RingIn C w b x
 |[],us,_=>⟨[],rfl,by simp,by simp⟩
 |r::l,us,h=>by
  obtain⟨v,h1,h2⟩:=h 0 (gF r) rfl;cases us with
  |nil=>simp at h1
  |cons u us=>
   simp at h1;subst h1;obtain⟨rs,h3,h4,h5⟩:=Fx hC l us fun i x hi=>by simpa using h (i+1) x (by simpa using hi)
   obtain⟨a,c,rfl,g1,g2,g3⟩:=Vv hC h2;refine⟨⟨a,c,r⟩::rs,by simp[h3],by simp[h4,RV.enc],?_⟩
   intro x hx;rcases List.mem_cons.1 hx with rfl|hx
   ·exact⟨h2,g1,g2,g3⟩
   ·exact h5 x hx
theorem Re{w w':World}(h:w.grownBy w' none):Below w.heap.size w w':=⟨h.os,h.tape,h.output,h.size,fun k hk=>h.block k hk (by simp)⟩
theorem aJb(args:Array Value)(w:World):(callFunc 26 args).run Tryz.prog w= .ok (.enter 26 args) w:=dN (by kernel_rfl) args w
theorem aFo{rs:List RV}(h:∀x∈rs,x.r.length<=1000):∀x∈rs,∀y∈rs,∀wx,RdV wx x.a x.r->RdV wx y.a y.r->Calls Tryz.prog 26 #[x.enc,y.enc] wx fun e w'=>e= .returned (.int .i64 (Geo.bV x.r y.r))/\Lay wx w':=
 fun x hx y hy wx h1 h2=>Aa x.a y.a x.c y.c x.r y.r wx h1 h2 (h x hx) (h y hy)
theorem Fw(g:Nat)(hg:∀args w,(callFunc g args).run Tryz.prog w= .ok (.enter g args) w)(cf:Geo.aH->Geo.aH->Int)(l m:List Geo.aH)(hn:l.length<=1000000)(hl:∀r∈l,r.length<=1000)(hlen:m.length=l.length)
  (hO:∀rs:List RV,rs.map RV.r=l->Sort.SWO (ltOf fun x y:{x:RV//x∈rs}=>cf x.1.r y.1.r))
  (hc:∀rs:List RV,rs.map RV.r=l->∀x∈rs,∀y∈rs,∀wx,RdV wx x.a x.r->RdV wx y.a y.r->Calls Tryz.prog g #[x.enc,y.enc] wx fun e w'=>e= .returned (.int .i64 (cf x.r y.r))/\Lay wx w')
  (hu:∀k:List Geo.aH,k.Perm l->k.Pairwise (fun a b=>¬cf b a<0)->k=m):zU Tryz.prog 68 (some l.length) [.fn (.func g) [] []] 23 1 (l.map gF) (m.map gF):=by
 have hfn:∀(C:bI) (vs:List Value),bO C [.fn (.func g) [] []] vs->vs=[.func (.func g) #[] #[]] :=by
  intro C vs h;unfold bO at h;obtain⟨v,r,rfl,h1,h2⟩:=h;unfold bO at h2;subst h2;unfold aU at h1;obtain⟨a,b,rfl,h3,h4⟩:=h1;unfold bO at h3 h4;subst h3;subst h4;rfl
 refine⟨by kernel_rfl,by simp[hlen],?_,?_⟩
 ·intro C w b c arr vs hC hL hnc hA;rw[hfn C vs hA];have hnc:=hnc _ rfl;obtain⟨h1,h2,h3⟩:=hL.row (by decide)
  obtain⟨rs,g1,g2,g3⟩:=Fx hC l arr.toList fun i x hi=>by
   obtain⟨v,k1,_,k2⟩:=hL.cells i x hi;exact⟨v,by simpa using k1,k2⟩
  have hrl:rs.length=l.length:=by rw[<-g1,List.length_map]
  have hr1:∀x∈rs,x.r.length<=1000:=fun x hx=>hl _ (by rw[<-g1];exact List.mem_map_of_mem hx)
  have hrow:w.ownsRow 0 23 1 (.slice (some ⟨b,0,none⟩) l.length c) rs.length (rs.map RV.enc):=
   ⟨by simp,.inr ⟨b,c,arr,by rw[hrl],Nat.zero_le _,hL.blk,by omega,h3,h1,by rw[Nat.mul_one,hrl,g2]⟩⟩
  refine(uH g hg cf 0 _ rs w (by omega) hrow ?_ (hO rs g1) (hc rs g1)).mono ?_
  ·intro x hx;refine⟨(g3 x hx).rd,fun ad _=>Nat.zero_le _,(g3 x hx).cap,hr1 x hx,fun h0 ad ha e=>(g3 x hx).sep h0 ad ha ?_⟩
   simp only[Value.ownBlock,Option.some.injEq]at e;exact e.symm
  ·rintro e w' ⟨rfl,rs',hp,hs,hrow',hok',hg⟩;have hso:rs'.map RV.r=m:=by
    refine hu _ (by rw[<-g1];exact hp.map _) ?_
    rw[List.pairwise_map];exact hs
   obtain⟨hz,hcase⟩:=hrow';rcases hcase with⟨e,_⟩|⟨gb,cap,cur,e,_,hblk,hnc',hcm,hsz,htk⟩
   ·cases e
   ·simp only[Value.slice.injEq,Option.some.injEq,Addr.mk.injEq,and_true]at e;obtain⟨rfl,e2,rfl⟩:=e;refine⟨cur,rfl,⟨hblk,fun h=>absurd h (by decide),fun _=>⟨hsz,by rw[List.length_map,hlen];omega,hcm⟩,?_⟩,hg⟩
    intro i x hi;rw[<-hso,List.map_map]at hi;rw[List.getElem?_map]at hi;cases hx:rs'[i]? with
    |none=>rw[hx]at hi;cases hi
    |some y=>
     rw[hx]at hi;simp only[Option.map_some,Option.some.injEq,Function.comp]at hi;subst hi;have hi':i<rs'.length:=(List.getElem?_eq_some_iff.1 hx).1;have hy:y∈rs:=hp.mem_iff.1 (List.mem_of_getElem? hx);have h7:(rs'.map RV.enc)[i]? =some y.enc:=by rw[List.getElem?_map,hx];rfl
     rw[<-htk,List.getElem?_take_of_lt (by omega)]at h7
     exact⟨y.enc,by simpa using h7,rfl,(g3 y hy).rep⟩
 ·intro h0 C w vs hC hA;rw[hfn C vs hA];have hl0:l=[] :=List.length_eq_zero_iff.1 (by simpa using h0)
  subst hl0;refine(uH g hg cf 0 (.slice none 0 0) [] w (by simp) ⟨by simp,.inl ⟨rfl,rfl⟩⟩ (by simp) (hO [] rfl) (hc [] rfl)).mono ?_
  rintro e w' ⟨rfl,rs',_,_,_,_,hg⟩;exact⟨rfl,Re hg⟩
theorem Ul(a b:Geo.aH):Ov a b<0↔Geo.cU (Geo.nth a 0) (Geo.nth b 0)=true:=by
 unfold Ov;rw[Tq];exact vY _ _
theorem aFc(args:Array Value)(w:World):(callFunc 127 args).run Tryz.prog w= .ok (.enter 127 args) w:=dN (by kernel_rfl) args w
theorem aBn{rs:List RV}:Sort.SWO (ltOf fun x y:{x:RV//x∈rs}=>Ov x.1.r y.1.r):=by
 have h:∀x y:{x:RV//x∈rs},ltOf (fun x y:{x:RV//x∈rs}=>Ov x.1.r y.1.r) x y=true↔Geo.cU (Geo.nth x.1.r 0) (Geo.nth y.1.r 0)=true:=by
  intro x y;unfold ltOf;rw[decide_eq_true_eq,Ul]
 refine⟨?_,?_,?_⟩
 ·intro x;rw[Bool.eq_false_iff,ne_eq,h,xZ];simp
 ·intro x y z h1 h2;rw[h]at*;revert h1 h2;unfold Geo.cU;grind
 ·intro x y z h1 h2;rw[Bool.eq_false_iff,ne_eq,h]at*;revert h1 h2;unfold Geo.cU;grind
theorem Qi(l:List Geo.aH)(hn:l.length<=1000000)(hl:∀r∈l,r.length<=1000):zU Tryz.prog 68 (some l.length) [.fn (.func 26) [] []] 23 1 (l.map gF) ((Geo.Au l).map gF):=
 Fw 26 aJb Geo.bV l _ hn hl (Geo.uU l).length_eq (fun _ _=>Of) (fun rs hr=>aFo fun x hx=>hl _ (by rw[<-hr];exact List.mem_map_of_mem hx))
  fun k hp hs=>Geo.Jo hp (hs.imp fun h=>Rs h)
theorem Nn(l:List Geo.aH)(hn:l.length<=1000000)(hl:∀r∈l,0<r.length/\r.length<=1000)(ha:∀a∈l,∀b∈l,Geo.leH a b->Geo.leH b a->a=b):zU Tryz.prog 68 (some l.length) [.fn (.func 127) [] []] 23 1 (l.map gF) ((Geo.yT l).map gF):=by
 have hm:∀rs:List RV,rs.map RV.r=l->∀x∈rs,x.r∈l:=fun rs hr x hx=>by rw[<-hr];exact List.mem_map_of_mem hx
 refine Fw 127 aFc Ov l _ hn (fun r hr=>(hl r hr).2) (Geo.iV l).length_eq (fun _ _=>aBn) (fun rs hr x hx y hy wx h1 h2=> ?_) fun k hp hs=> ?_
 ·have g1:=hl _ (hm rs hr x hx);have g2:=hl _ (hm rs hr y hy);exact Ru x.a y.a x.c y.c x.r y.r wx h1 h2 g1.1 g2.1 g1.2 g2.2
 ·have hs:k.Pairwise Geo.leH:=hs.imp fun{a b} h=>by
   rw[Ul]at h;exact(Geo.fN _ _).1 (by simpa using h)
  exact List.Perm.eq_of_pairwise (fun a b h1 h2 h3 h4=>ha a (hp.mem_iff.1 h1) b ((Geo.iV l).mem_iff.1 h2) h3 h4) hs (Geo.Jq l) (hp.trans (Geo.iV l).symm)
def d68:List SV->Option (List Geo.aH×Bool)
 |[.lst .R l,.fnp 26 [] []] =>some (l,true)
 |[.lst .R l,.fnp 127 [] []] =>some (l,false)
 |_=>none
def r68:List Geo.aH×Bool->List Geo.aH
 |(l,true)=>Geo.Au l
 |(l,false)=>Geo.yT l
def p68:List Geo.aH×Bool->List Prop
 |(l,true)=>[l.length<=1000000,∀r∈l,r.length<=1000]
 |(l,false)=>[l.length<=1000000,∀r∈l,0<r.length/\r.length<=1000,∀a∈l,∀b∈l,Geo.leH a b->Geo.leH b a->a=b]
theorem aBl{l:List Geo.aH}{rest:List SV}{x:List Geo.aH×Bool}(h:d68 (.lst .R l::rest)=some x):(rest=[.fnp 26 [] []]/\x=(l,true))\/(rest=[.fnp 127 [] []]/\x=(l,false)):=by
 unfold d68 at h;split at h
 ·rename_i e;cases e;cases h;exact .inl ⟨rfl,rfl⟩
 ·rename_i e;cases e;cases h;exact .inr ⟨rfl,rfl⟩
 ·cases h
def c68:Con:=⟨List Geo.aH×Bool,d68,p68,.mutR .R 23 r68⟩
theorem k68:c68.Ok Tryz.prog 68:=by
 intro l rest x hd hp;rcases aBl hd with⟨rfl,rfl⟩|⟨rfl,rfl⟩
 ·refine⟨[.fn (.func 26) [] []],rfl,?_⟩;rw[Az];show zU _ _ _ _ _ _ _ (LT.R.enc (Geo.Au l));rw[Az];exact Qi l (hp _ List.mem_cons_self) (hp _ (List.mem_cons_of_mem _ List.mem_cons_self))
 ·refine⟨[.fn (.func 127) [] []],rfl,?_⟩;rw[Az];show zU _ _ _ _ _ _ _ (LT.R.enc (Geo.yT l));rw[Az];exact Nn l (hp _ List.mem_cons_self) (hp _ (List.mem_cons_of_mem _ List.mem_cons_self)) (hp _ (List.mem_cons_of_mem _ (List.mem_cons_of_mem _ List.mem_cons_self)))
noncomputable def t68:Tab:=cJ [(68,c68)] tS
theorem aFM:t68.Ok Tryz.prog:=aR tSo ⟨k68,trivial⟩
end Go.Proofs.YtdaeofhdgabhjaaGreat
namespace Go.Proofs.YtdaeofhdgabhjaaGreat
open Go.RowKit
set_option maxRecDepth 100000
noncomputable section
open Geo (bX nth aB)
theorem yD{p:Geo.Pt}{w:Int}:∀{l:List Geo.aH} {k:Nat},k<l.length->(∀j,j<k->¬Geo.cC (aB l j) p=2/\¬Geo.cC (aB l j) p=1)->(Geo.cC (aB l k) p=2->0=Geo.jT p l w)/\(¬Geo.cC (aB l k) p=2->Geo.cC (aB l k) p=1->1=Geo.jT p l w)
 |[],k,h,_=>by simp at h
 |r::l,0,h,_=>by
  unfold Geo.jT;refine⟨fun e=> ?_,fun e1 e2=> ?_⟩
  ·rw[if_pos (show Geo.cC r p=2 from e)]
  ·rw[if_neg (show¬Geo.cC r p=2 from e1),if_pos (show Geo.cC r p=1 from e2)]
 |r::l,k+1,h,h1=>by
  unfold Geo.jT;obtain⟨e1,e2⟩:=h1 0 (by omega)
  rw[if_neg (show¬Geo.cC r p=2 from e1),if_neg (show¬Geo.cC r p=1 from e2)]
  exact yD (l:=l) (k:=k) (by simpa using h) fun j hj=>h1 (j+1) (by omega)
theorem Dk{p:Geo.Pt}{w:Int}:∀{l:List Geo.aH},(∀j,j<l.length->¬Geo.cC (aB l j) p=2/\¬Geo.cC (aB l j) p=1)->w=Geo.jT p l w
 |[],_=>rfl
 |r::l,h1=>by
  unfold Geo.jT;obtain⟨e1,e2⟩:=h1 0 (by simp)
  rw[if_neg (show¬Geo.cC r p=2 from e1),if_neg (show¬Geo.cC r p=1 from e2)]
  exact Dk (l:=l) fun j hj=>h1 (j+1) (by simpa using hj)
def c66:Con:=con (ac aSh (a1 aT)) (fun(s,_)=>[Fit s]) (fun(s,p)=> .int .i64 (Geo.dL s p))
theorem k66:c66.Ok Tryz.prog 66:=bF (bP aFM) (raw:=bR) (fun(s,p)=>[cnt 7 21 s.holes.length (bE fun j=>¬Geo.cC (aB s.holes j) p=2/\¬Geo.cC (aB s.holes j) p=1)]
  ) (fun(_,_)=>⟨_,rfl⟩) fun(s,p) hp=>bQ (q:=Fit s/\((!Geo.aM s)=true->0=Geo.dL s p)/\
 ((!Geo.aM s)=false->s.outer.length<=1000/\(¬Geo.cC s.outer p=2->Geo.cC s.outer p=Geo.dL s p)/\
  (¬(¬Geo.cC s.outer p=2)->(0=(0:Int)/\(0:Nat)<=s.holes.length/\bE (fun j=>¬Geo.cC (aB s.holes j) p=2/\¬Geo.cC (aB s.holes j) p=1) 0)/\
   (∀x:Nat,x<=s.holes.length/\bE (fun j=>¬Geo.cC (aB s.holes j) p=2/\¬Geo.cC (aB s.holes j) p=1) x->((x:Int)<s.holes.length->ix (x:Int) s.holes.length/\(aB s.holes x).length<=1000/\(Geo.cC (aB s.holes x) p=2->0=Geo.dL s p)/\
     (¬Geo.cC (aB s.holes x) p=2->(Geo.cC (aB s.holes x) p=1->1=Geo.dL s p)/\
      (¬Geo.cC (aB s.holes x) p=1->aK ((x:Int)+1)/\(x:Int)+1=((x+1:Nat):Int)/\x+1<=s.holes.length/\bE (fun j=>¬Geo.cC (aB s.holes j) p=2/\¬Geo.cC (aB s.holes j) p=1) (x+1)/\s.holes.length-(x+1)<s.holes.length-x)))/\
    (¬(x:Int)<s.holes.length->Geo.cC s.outer p=Geo.dL s p))))) (by kernel_rfl) (by
  change Fit s at hp;have w0:(!Geo.aM s)=true->0=Geo.dL s p:=fun h=>by unfold Geo.dL;rw[if_pos h]
  have w1:(!Geo.aM s)=false->¬Geo.cC s.outer p=2->Geo.cC s.outer p=Geo.dL s p:=fun h h2=>by unfold Geo.dL;rw[h];exact(if_pos h2).symm
  have w2:(!Geo.aM s)=false->¬¬Geo.cC s.outer p=2->Geo.dL s p=Geo.jT p s.holes 2:=fun h h2=>by unfold Geo.dL;rw[h];exact if_neg h2
  have hl:∀x:Nat,(x:Int)<s.holes.length->(aB s.holes x).length<=1000:=fun x h=>hp.2.2 _ (Geo.eI (by omega))
  have hn:=hp.2.1;have ho:=hp.1;have a2:∀x:Nat,(x:Int)<s.holes.length->bE (fun j=>¬Geo.cC (aB s.holes j) p=2/\¬Geo.cC (aB s.holes j) p=1) x->Geo.cC (aB s.holes x) p=2->0=Geo.jT p s.holes 2:=fun x h1 h2 h3=>(yD (by omega) h2).1 h3
  have a1:∀x:Nat,(x:Int)<s.holes.length->bE (fun j=>¬Geo.cC (aB s.holes j) p=2/\¬Geo.cC (aB s.holes j) p=1) x->¬Geo.cC (aB s.holes x) p=2->Geo.cC (aB s.holes x) p=1->1=Geo.jT p s.holes 2:=fun x h1 h2 h3 h4=>(yD (by omega) h2).2 h3 h4
  have a0:∀x:Nat,¬(x:Int)<s.holes.length->x<=s.holes.length->bE (fun j=>¬Geo.cC (aB s.holes j) p=2/\¬Geo.cC (aB s.holes j) p=1) x->2=Geo.jT p s.holes 2:=fun x h1 h2 h3=>by
   obtain rfl:x=s.holes.length:=by omega
   exact Dk h3
  have hf:=hp;clear hp
  repeat' first|with_reducible apply And.intro|with_reducible intro
  all_goals repeat with_reducible cases‹_/\bE _ _›
  all_goals first|assumption|rfl|omega|(unfold ix;omega)|(unfold aK;omega)|exact bW _|exact w0 ‹_› |exact w1 ‹_› ‹_› |exact hl _ ‹_› |(rw[w2 ‹_› ‹_›];exact a2 _ ‹_› ‹_› ‹_›)|(rw[w2 ‹_› ‹_›];exact a1 _ ‹_› ‹_› ‹_› ‹_›)|(rw[w2 ‹_› ‹_›,Decidable.of_not_not ‹¬¬Geo.cC s.outer p=2›];exact a0 _ ‹_› ‹_› ‹_›)|exact aO ‹_› ⟨‹_›,‹_›⟩)
def t66:Tab:=cJ [(66,c66)] t68
theorem aFN:t66.Ok Tryz.prog:=aR aFM ⟨k66,trivial⟩
def aC(s:Geo.Shape):Geo.Shape:=if Geo.aM s=true then Geo.gJ s else⟨[],[]⟩
theorem Qw{s:Geo.Shape}(h:Geo.VS s):∀a∈s.holes.map Geo.fR,∀b∈s.holes.map Geo.fR,Geo.leH a b->Geo.leH b a->a=b:=by
 have hn:=h.nodup;unfold Geo.eB Geo.aA at hn;rw[List.flatten_cons,List.nodup_append]at hn;have hn2:((s.holes.map Geo.fR).flatten).Nodup:=(Geo.nZ s.holes).nodup_iff.2 hn.2.1;have hne:∀r∈s.holes.map Geo.fR,nth r 0∈r:=by
  intro r hr;obtain⟨q,hq,rfl⟩:=List.mem_map.1 hr;have h3:=(h.ring (show q∈Geo.aA s by simp[Geo.aA,hq])).three
  exact Geo.fA.2 ⟨0,by rw[Geo.gC];omega,rfl⟩
 intro a ha b hb h1 h2;have e:nth a 0=nth b 0:=Geo.wG h1 h2;exact Geo.sC _ hn2 a ha b hb (nth a 0) (hne a ha) (by rw[e];exact hne b hb)
theorem rX{s:Geo.Shape}(h:Geo.VS s):s.holes.map Geo.dA=s.holes.map Geo.fR:=List.map_congr_left fun r hr=>by
 unfold Geo.dA;rw[(Geo.eM r).2 (h.ring (by simp[Geo.aA,hr]))];rfl
def c57:Con:=con (a1 aSh) (fun s=>[Fit s]) (fun s=>aSh.enc (aC s))
theorem k57:c57.Ok Tryz.prog 57:=bF (bP aFN) (raw:=bR) (fun s=>[(5,.mk Nat (fun F _=>vO F 17) [15] (fun k=>[k<=s.holes.length]) (fun k=>[(17,.int .i64 (k:Int))]) (fun k=>[(9,.box 26 [.lst .V (Geo.dA s.outer),.own 15 .R k]),(15,.row 23 .R ((s.holes.take k).map Geo.dA))]) (fun k=>s.holes.length-k) (fun _=>[]))]
  ) (fun _=>⟨_,rfl⟩) fun s hp=>bQ (q:=Fit s/\((!Geo.aM s)=true->(aC s).outer=([] :List Geo.V)/\(aC s).holes=([] :List (List Geo.V)))/\
 ((!Geo.aM s)=false->s.outer.length<=1000/\(0=(0:Int)/\Geo.dA s.outer=Geo.dA s.outer/\(0:Nat)=0/\List.map Geo.dA (List.take 0 s.holes)=([] :List (List Geo.V))/\(0:Nat)<=s.holes.length)/\
  (∀x:Nat,x<=s.holes.length->((x:Int)<s.holes.length->ix (x:Int) s.holes.length/\(aB s.holes x).length<=1000/\x=(List.map Geo.dA (List.take x s.holes)).length/\(List.map Geo.dA (List.take x s.holes)).length+[Geo.dA (aB s.holes x)].length<=1000000/\aK ((x:Int)+1)/\(x:Int)+1=((x+1:Nat):Int)/\Geo.dA s.outer=Geo.dA s.outer/\(List.map Geo.dA (List.take x s.holes)++[Geo.dA (aB s.holes x)]).length=x+1/\List.map Geo.dA (List.take x s.holes)++[Geo.dA (aB s.holes x)] =List.map Geo.dA (List.take (x+1) s.holes)/\x+1<=s.holes.length/\s.holes.length-(x+1)<s.holes.length-x)/\
   (¬(x:Int)<s.holes.length->x=(List.map Geo.dA (List.take x s.holes)).length/\(List.map Geo.dA (List.take x s.holes)).length<=1000000/\(∀r:Geo.aH,r∈List.map Geo.dA (List.take x s.holes)->(0:Nat)<r.length/\r.length<=1000)/\(∀a:Geo.aH,a∈List.map Geo.dA (List.take x s.holes)->(∀b:Geo.aH,b∈List.map Geo.dA (List.take x s.holes)->Geo.leH a b->Geo.leH b a->a=b))/\x=(r68 (List.map Geo.dA (List.take x s.holes),false)).length/\Geo.dA s.outer=(aC s).outer/\r68 (List.map Geo.dA (List.take x s.holes),false)=(aC s).holes)))) (by kernel_rfl) (by
  change Fit s at hp;have c0:(!Geo.aM s)=true->aC s=⟨[],[]⟩:=fun h=>by unfold aC;rw[nb' h];rfl
  have c1:(!Geo.aM s)=false->aC s=Geo.gJ s:=fun h=>by unfold aC;rw[nb h];rfl
  have V:(!Geo.aM s)=false->Geo.VS s:=fun h=>(Geo.gX s).1 (nb h)
  have hl:∀x:Nat,(x:Int)<s.holes.length->(aB s.holes x).length<=1000:=fun x h=>hp.2.2 _ (Geo.eI (by omega))
  have hn:=hp.2.1;have ho:=hp.1;have e1:∀x:Nat,x<=s.holes.length->(List.map Geo.dA (List.take x s.holes)).length=x:=fun x h=>by rw[List.length_map,List.length_take];omega
  have e2:∀x:Nat,(x:Int)<s.holes.length->List.map Geo.dA (List.take x s.holes)++[Geo.dA (aB s.holes x)] =List.map Geo.dA (List.take (x+1) s.holes):=fun x h=>by
   rw[List.take_succ_eq_append_getElem (by omega),List.map_append,lZ (by omega)];rfl
  have e3:∀x:Nat,¬(x:Int)<s.holes.length->List.take x s.holes=s.holes:=fun x h=>List.take_of_length_le (by omega)
  have g1:(!Geo.aM s)=false->∀x:Nat,¬(x:Int)<s.holes.length->∀r∈List.map Geo.dA (List.take x s.holes),0<r.length/\r.length<=1000:=fun h x hx r hr=>by
   rw[e3 x hx,rX (V h)]at hr;obtain⟨q,hq,rfl⟩:=List.mem_map.1 hr;rw[Geo.gC];have h3:=((V h).ring (show q∈Geo.aA s by simp[Geo.aA,hq])).three
   have:=hp.2.2 q hq;omega
  have g2:(!Geo.aM s)=false->∀x:Nat,¬(x:Int)<s.holes.length->∀a∈List.map Geo.dA (List.take x s.holes),∀b∈List.map Geo.dA (List.take x s.holes),Geo.leH a b->Geo.leH b a->a=b:=fun h x hx=>by
   rw[e3 x hx,rX (V h)];exact Qw (V h)
  have g3:∀l,(r68 (l,false)).length=l.length:=fun l=>(Geo.iV l).length_eq
  have g4:(!Geo.aM s)=false->Geo.dA s.outer=(aC s).outer:=fun h=>by
   rw[c1 h];unfold Geo.dA;rw[(Geo.eM _).2 ((V h).ring (by simp[Geo.aA]))];rfl
  have g5:(!Geo.aM s)=false->∀x:Nat,¬(x:Int)<s.holes.length->r68 (List.map Geo.dA (List.take x s.holes),false)=(aC s).holes:=fun h x hx=>by
   rw[e3 x hx,rX (V h),c1 h];rfl
  have hf:=hp;clear hp
  repeat' first|with_reducible apply And.intro|with_reducible intro
  all_goals first|assumption|rfl|omega|(unfold ix;omega)|(unfold aK;omega)|(rw[c0 ‹_›];done)|exact hl _ ‹_› |exact e2 _ ‹_› |exact(e1 _ ‹_›).symm|(rw[e1 _ ‹_›];simp;omega)|(rw[e1 _ ‹_›];omega)|(rw[List.length_append,e1 _ ‹_›];simp;done)|exact(g1 ‹_› _ ‹_› _ ‹_›).1|exact(g1 ‹_› _ ‹_› _ ‹_›).2|exact g2 ‹_› _ ‹_› _ ‹_› _ ‹_› ‹_› ‹_› |(rw[g3,e1 _ ‹_›];done)|exact g4 ‹_› |exact g5 ‹_› _ ‹_›)
def t57:Tab:=cJ [(57,c57)] t66
theorem aFS:t57.Ok Tryz.prog:=aR aFN ⟨k57,trivial⟩
def aHZ:Con:=con (a1 aS) (fun s=>[bd 1000000000 s.a,bd 1000000000 s.b]) (fun s=>aT.enc (Geo.eJ s))
theorem aKv:aHZ.Ok Tryz.prog 183:=bF (bP aFS) (raw:=bR) (fun s=>[jb 3 26 (decide ((s.a.x+s.b.x).tmod 2=0)&&decide ((s.a.y+s.b.y).tmod 2=0))]
  ) (fun _=>⟨_,rfl⟩) fun s hp=>bQ (q:=aK (s.a.x+s.b.x)/\aK (s.a.y+s.b.y)/\((2:Int)≠0/\(Int.tmod (s.a.x+s.b.x) 2=0->(2:Int)≠0/\decide (Int.tmod (s.a.y+s.b.y) 2=0)=(decide (Int.tmod (s.a.x+s.b.x) 2=0)&&decide (Int.tmod (s.a.y+s.b.y) 2=0)))/\
  (¬Int.tmod (s.a.x+s.b.x) 2=0->false=(decide (Int.tmod (s.a.x+s.b.x) 2=0)&&decide (Int.tmod (s.a.y+s.b.y) 2=0))))/\
 (∀y:Unit,((decide (Int.tmod (s.a.x+s.b.x) 2=0)&&decide (Int.tmod (s.a.y+s.b.y) 2=0))=true->(2:Int)≠0/\aK (Int.tdiv (s.a.x+s.b.x) 2)/\(2:Int)≠0/\aK (Int.tdiv (s.a.y+s.b.y) 2)/\Int.tdiv (s.a.x+s.b.x) 2=(Geo.eJ s).x/\Int.tdiv (s.a.y+s.b.y) 2=(Geo.eJ s).y/\1=(Geo.eJ s).den)/\
  ((decide (Int.tmod (s.a.x+s.b.x) 2=0)&&decide (Int.tmod (s.a.y+s.b.y) 2=0))=false->s.a.x+s.b.x=(Geo.eJ s).x/\s.a.y+s.b.y=(Geo.eJ s).y/\2=(Geo.eJ s).den))) (by kernel_rfl) (by
  change bd 1000000000 s.a/\bd 1000000000 s.b at hp;unfold bd at hp;have k1:aK (s.a.x+s.b.x):=cW (by omega)
  have k2:aK (s.a.y+s.b.y):=cW (by omega)
  have q1:=kA (x:=s.a.x+s.b.x) (g:=2) (B:=4000000000) (by omega)
  have q2:=kA (x:=s.a.y+s.b.y) (g:=2) (B:=4000000000) (by omega)
  have k3:aK (Int.tdiv (s.a.x+s.b.x) 2):=cW (by omega)
  have k4:aK (Int.tdiv (s.a.y+s.b.y) 2):=cW (by omega)
  have m1:(decide (Int.tmod (s.a.x+s.b.x) 2=0)&&decide (Int.tmod (s.a.y+s.b.y) 2=0))=true->Geo.eJ s=⟨(s.a.x+s.b.x).tdiv 2,(s.a.y+s.b.y).tdiv 2,1⟩:=fun h=>by
   simp only[Bool.and_eq_true,decide_eq_true_eq]at h;exact if_pos h
  have m2:(decide (Int.tmod (s.a.x+s.b.x) 2=0)&&decide (Int.tmod (s.a.y+s.b.y) 2=0))=false->Geo.eJ s=⟨s.a.x+s.b.x,s.a.y+s.b.y,2⟩:=fun h=>if_neg fun h2=>by
   rw[decide_eq_true h2.1,decide_eq_true h2.2]at h;cases h
  clear hp q1 q2;refine⟨k1,k2,⟨by decide,fun h=>⟨by decide,by rw[decide_eq_true h];rfl⟩,fun h=>by rw[decide_eq_false h];rfl⟩,fun _=>⟨fun h=>⟨by decide,k3,by decide,k4,?_⟩,fun h=> ?_⟩⟩
  ·rw[m1 h];exact⟨rfl,rfl,rfl⟩
  ·rw[m2 h];exact⟨rfl,rfl,rfl⟩)
def aGm:Tab:=cJ [(183,aHZ)] t57
theorem aC9:aGm.Ok Tryz.prog:=aR aFS ⟨aKv,trivial⟩
def aIs:Con:=con (ac aS (a1 aS)) (fun(_,_)=>[]) (fun(s,t)=> .bool (Geo.cG s t)
 )
theorem aKY:aIs.Ok Tryz.prog 134:=bF (bP aC9) (raw:=bR) (fun(_,_)=>[]) (fun(_,_)=>⟨_,rfl⟩) fun(s,t) _=>bQ (q:=(Geo.dF s t=0->true=Geo.cG s t)/\
 (¬Geo.dF s t=0->(Geo.dF s t=1->(s.a=t.a->true=Geo.cG s t)/\
   (¬s.a=t.a->(s.a=t.b->true=Geo.cG s t)/\
    (¬s.a=t.b->(s.b=t.a->true=Geo.cG s t)/\
     (¬s.b=t.a->decide (s.b=t.b)=Geo.cG s t))))/\
  (¬Geo.dF s t=1->false=Geo.cG s t))) (by kernel_rfl) (by
  have hd:∀a b:Geo.V,(a==b)=decide (a=b):=fun a b=>by rw[Bool.eq_iff_iff];simp
  unfold Geo.cG Geo.Bd;simp only[hd]
  repeat' first|with_reducible apply And.intro|with_reducible intro
  all_goals repeat with_reducible cases‹_/\_›
  all_goals simp[*])
def aG3:Tab:=cJ [(134,aIs)] aGm
theorem aDI:aG3.Ok Tryz.prog:=aR aC9 ⟨aKY,trivial⟩
def aPS:Ar Geo.S where
 enc s:= .pro [.int .i64 s.a.x,.int .i64 s.a.y,.int .i64 s.b.x,.int .i64 s.b.y] 0
 dec s:=match s with
  | .pro [.int .i64 x,.int .i64 y,.int .i64 z,.int .i64 w] 0=>some ⟨⟨x,y⟩,⟨z,w⟩⟩
  |_=>none
 ok s a h:=by(split at h<;>cases h;rfl)
 pl _:=⟨_,rfl⟩
def aEm:Ar (Geo.S×Unit):=aCl 133 (ac aPS a0)
def aIt:Con:=con (ac aS (a1 aPS)) (fun(_,_)=>[]) (fun(d,c)=> .bool (!Geo.cG c d)
 )
theorem aKZ:aIt.Ok Tryz.prog 133:=bF (bP aDI) (raw:=bR) (fun(_,_)=>[]) (fun(_,_)=>⟨_,rfl⟩) fun(d,c) _=>bQ (q:=(!Geo.cG c d)=(!Geo.cG c d)) (by kernel_rfl) (by
 rfl)
def aG4:Tab:=cJ [(133,aIt)] aG3
theorem aDJ:aG4.Ok Tryz.prog:=aR aDI ⟨aKZ,trivial⟩
def aH0:Con:=con (ac (aL .S) (a1 aEm)) (fun(l,_)=>[l.length<=1000000]) (fun(l,c)=> .int .i64 (fI (fun d=> !Geo.cG c.1 d) l))
theorem aKw:aH0.Ok Tryz.prog 182:=bF (bP aDJ) (raw:=bR) (fun(l,c)=>[cnt 2 8 l.length (bE fun j=>(!Geo.cG c.1 (bK l j))=false)]
  ) (fun(_,_)=>⟨_,rfl⟩) fun(l,c) hp=>bQ (q:=(0=(0:Int)/\(0:Nat)<=l.length/\bE (fun j=>(!Geo.cG c.1 (bK l j))=false) 0)/\
 (∀x:Nat,x<=l.length/\bE (fun j=>(!Geo.cG c.1 (bK l j))=false) x->((x:Int)<l.length->ix (x:Int) l.length/\((!Geo.cG c.1 (bK l x))=true->(x:Int)=fI (fun d=>(!Geo.cG c.1 d)) l)/\
   ((!Geo.cG c.1 (bK l x))=false->aK ((x:Int)+1)/\(x:Int)+1=((x+1:Nat):Int)/\x+1<=l.length/\bE (fun j=>(!Geo.cG c.1 (bK l j))=false) (x+1)/\l.length-(x+1)<l.length-x))/\
  (¬(x:Int)<l.length-> -1=fI (fun d=>(!Geo.cG c.1 d)) l))) (by kernel_rfl) (by
  change l.length<=1000000 at hp
  repeat' first|with_reducible apply And.intro|with_reducible intro
  all_goals repeat with_reducible cases‹_/\_›
  all_goals first|assumption|rfl|exact trivial|exact nb ‹_› |exact nb' ‹_› |omega|exact dU (by omega)|(unfold ix;omega)|(unfold aK;omega)|exact bW _|exact aO ‹_› ‹_› |(refine aO ‹_› ?_;simp_all;done)|exact vQ (t:= .S) (by omega) ‹_› ‹_› |(obtain rfl:_=l.length:=Nat.le_antisymm ‹_› (by omega);exact uP (t:= .S) ‹_›)|grind)
def aGn:Tab:=cJ [(182,aH0)] aG4
theorem aDa:aGn.Ok Tryz.prog:=aR aDJ ⟨aKw,trivial⟩
def aIu:Con:=con (ac (aL .S) (a1 aEm)) (fun(l,_)=>[l.length<=1000000]) (fun(l,c)=> .bool (l.any fun d=> !Geo.cG c.1 d)
 )
theorem aK0:aIu.Ok Tryz.prog 132:=bF (bP aDa) (raw:=bR) (fun(_,_)=>[]) (fun(_,_)=>⟨_,rfl⟩) fun(l,c) hp=>bQ (q:=l.length<=1000000/\decide (0<=fI (fun d=>(!Geo.cG c.1 d)) l)=List.any l (fun d=>(!Geo.cG c.1 d))) (by kernel_rfl) (by
 change l.length<=1000000 at hp;exact⟨hp,xL _ _⟩)
def aG5:Tab:=cJ [(132,aIu)] aGn
theorem aDK:aG5.Ok Tryz.prog:=aR aDa ⟨aK0,trivial⟩
def aIr:Con:=con (ac aSh (ac (aL .S) (a1 aS))) (fun(s,l,c)=>[Fit s,l.length<=1000000,bd 1000000000 c.a,bd 1000000000 c.b]) (fun(s,l,c)=> .bool ((l.all fun e=>Geo.cG e c)&&Geo.dL s (Geo.eJ c)==2))
theorem aKX:aIr.Ok Tryz.prog 135:=bF (bP aDK) (raw:=bR) (fun(_,l,c)=>[cnt 2 11 l.length (bE fun j=>Geo.cG (bK l j) c=true)]
  ) (fun(_,_,_)=>⟨_,rfl⟩) fun(s,l,c) hp=>bQ (q:=(0=(0:Int)/\(0:Nat)<=l.length/\bE (fun j=>Geo.cG (bK l j) c=true) 0)/\
 (∀x:Nat,x<=l.length/\bE (fun j=>Geo.cG (bK l j) c=true) x->((x:Int)<l.length->ix (x:Int) l.length/\((!Geo.cG (bK l x) c)=true->false=(List.all l (fun e=>Geo.cG e c)&&Geo.dL s (Geo.eJ c)==2))/\
   ((!Geo.cG (bK l x) c)=false->aK ((x:Int)+1)/\(x:Int)+1=((x+1:Nat):Int)/\x+1<=l.length/\bE (fun j=>Geo.cG (bK l j) c=true) (x+1)/\l.length-(x+1)<l.length-x))/\
  (¬(x:Int)<l.length->bd 1000000000 c.a/\bd 1000000000 c.b/\Fit s/\decide (Geo.dL s (Geo.eJ c)=2)=(List.all l (fun e=>Geo.cG e c)&&Geo.dL s (Geo.eJ c)==2)))) (by kernel_rfl) (by
  change Fit s/\l.length<=1000000/\bd 1000000000 c.a/\bd 1000000000 c.b at hp;have n1:∀x:Nat,(x:Int)<l.length->(!Geo.cG (bK l x) c)=true->false=(List.all l (fun e=>Geo.cG e c)&&Geo.dL s (Geo.eJ c)==2):=fun x h1 h2=>by
   rw[Ic (t:= .S) (l:=l) (q:=fun e=>Geo.cG e c) (j:=x) (by omega) (nb' h2)];rfl
  have n2:∀x:Nat,¬(x:Int)<l.length->x<=l.length->bE (fun j=>Geo.cG (bK l j) c=true) x->decide (Geo.dL s (Geo.eJ c)=2)=(List.all l (fun e=>Geo.cG e c)&&Geo.dL s (Geo.eJ c)==2):=fun x h1 h2 h3=>by
   obtain rfl:x=l.length:=by omega
   rw[Am (t:= .S) (l:=l) (q:=fun e=>Geo.cG e c) h3,Bool.true_and,Bool.eq_iff_iff];simp
  obtain⟨hf,hll,hb1,hb2⟩:=hp
  repeat' first|with_reducible apply And.intro|with_reducible intro
  all_goals repeat with_reducible cases‹_/\bE _ _›
  all_goals first|assumption|rfl|omega|(unfold ix;omega)|(unfold aK;omega)|exact bW _|exact n1 _ ‹_› ‹_› |exact n2 _ ‹_› ‹_› ‹_› |exact aO ‹_› (nb ‹_›))
def aG2:Tab:=cJ [(135,aIr)] aG5
theorem aDH:aG2.Ok Tryz.prog:=aR aDK ⟨aKX,trivial⟩
def pK(s:Geo.Shape)(v:List Geo.V)(i k:Nat):List (Nat×Nat):=Geo.rowP s v (Geo.cQ s v i) i (k-(i+1))
def tkB(s:Geo.Shape)(v:List Geo.V)(i k:Nat):Bool:= !((pK s v i k).any fun d=> !(Geo.cG ⟨nth v i,nth v k⟩ (Geo.eF v d)))&&Geo.mW s ⟨nth v i,nth v k⟩
section
variable {s:Geo.Shape} {v:List Geo.V} {i k:Nat}
theorem aCe:pK s v i (i+1)=Geo.cQ s v i:=by unfold pK;rw[Nat.sub_self];rfl
theorem To(h:i<k):pK s v i (k+1)=if tkB s v i k=true then pK s v i k++[(i,k)]else pK s v i k:=by
 unfold tkB pK;rw[show k+1-(i+1)=(k-(i+1))+1 by omega]
 show Geo.At s v _ i (i+1+(k-(i+1)))=_;rw[show i+1+(k-(i+1))=k by omega];rfl
theorem aFi(h:¬(k:Int)<v.length)(h2:k<=v.length):pK s v i k=Geo.cQ s v (i+1):=by
 obtain rfl:k=v.length:=by omega
 rfl
theorem Bv(acc:List (Nat×Nat)):∀m,(Geo.rowP s v acc i m).length<=acc.length+m
 |0=>Nat.le_refl _
 |m+1=>by
  have:=Bv acc m;unfold Geo.rowP Geo.At;split
  ·rw[List.length_append];simp only[List.length_cons,List.length_nil];omega
  ·omega
theorem nU:∀i,(Geo.cQ s v i).length<=i*v.length
 |0=>by simp[Geo.cQ]
 |i+1=>by
  have h1:=nU i;have h2:=Bv (s:=s) (v:=v) (i:=i) (Geo.cQ s v i) (v.length-(i+1));unfold Geo.cQ;rw[Nat.add_mul];omega
theorem aFh(hv:v.length<=900)(hi:i<=v.length)(hk:k<=v.length):(pK s v i k).length<=820000:=by
 have h1:=nU (s:=s) (v:=v) i;have h2:=Bv (s:=s) (v:=v) (i:=i) (Geo.cQ s v i) (k-(i+1));have h3:i*v.length<=900*900:=Nat.mul_le_mul (by omega) hv
 unfold pK;omega
end
def c60:Con:=con (ac aSh (a1 (aL .V))) (fun(s,v)=>[Fit s,v.length<=900,(∀x∈v,bd 1000000000 x),(bX s).length<=1000000]) (fun(s,v)=> .lst .P (Geo.cZ s v))
set_option maxHeartbeats 1000000 in
theorem k60:c60.Ok Tryz.prog 60:=bF (bP aDH) (raw:=bR) (fun(s,v)=>[(5,.mk Nat (fun F _=>vO F 16) [10,11] (fun i=>[i<=v.length]) (fun i=>[(16,.int .i64 (i:Int)),(6,.own 10 .P (Geo.cQ s v i).length),(7,.own 11 .S (Geo.cQ s v i).length)]) (fun i=>[(10,.row 67 .P (Geo.cQ s v i)),(11,.row 46 .S ((Geo.cQ s v i).map (Geo.eF v)))]) (fun i=>v.length-i) fun i=>
  [(8,.mk Nat (fun F _=>vO F 9) [10,11] (fun k=>[i<k,k<=v.length]) (fun k=>[(9,.int .i64 (k:Int)),(6,.own 10 .P (pK s v i k).length),(7,.own 11 .S (pK s v i k).length)]) (fun k=>[(10,.row 67 .P (pK s v i k)),(11,.row 46 .S ((pK s v i k).map (Geo.eF v)))]) (fun k=>v.length-k) fun k=>[jb 13 46 (tkB s v i k)])])]
  ) (fun(_,_)=>⟨_,rfl⟩) fun(s,v) hp=>bQ (q:=Fit s/\(0=(0:Int)/\(Geo.cQ s v 0).length=0/\(Geo.cQ s v 0).length=0/\Geo.cQ s v 0=([] :List (Prod Nat Nat))/\List.map (Geo.eF v) (Geo.cQ s v 0)=([] :List Geo.S)/\(0:Nat)<=v.length)/\
 (∀x:Nat,x<=v.length->((x:Int)<v.length->aK ((x:Int)+1)/\((x:Int)+1=((x+1:Nat):Int)/\(Geo.cQ s v x).length=(pK s v x (x+1)).length/\(Geo.cQ s v x).length=(pK s v x (x+1)).length/\Geo.cQ s v x=pK s v x (x+1)/\List.map (Geo.eF v) (Geo.cQ s v x)=List.map (Geo.eF v) (pK s v x (x+1))/\x<x+1/\x+1<=v.length)/\
   (∀x_1:Nat,x<x_1/\x_1<=v.length->((x_1:Int)<v.length->ix (x:Int) v.length/\ix (x_1:Int) v.length/\(pK s v x x_1).length=(List.map (Geo.eF v) (pK s v x x_1)).length/\(List.map (Geo.eF v) (pK s v x x_1)).length<=1000000/\(((!List.any (List.map (Geo.eF v) (pK s v x x_1)) (fun d=>(!Geo.cG (⟨(nth v x),(nth v x_1)⟩:Geo.S) d)))=true->Fit s/\(bX s).length<=1000000/\bd 1000000000 (⟨(nth v x),(nth v x_1)⟩:Geo.S).a/\bd 1000000000 (⟨(nth v x),(nth v x_1)⟩:Geo.S).b/\(List.all (bX s) (fun e=>Geo.cG e (⟨(nth v x),(nth v x_1)⟩:Geo.S))&&Geo.dL s (Geo.eJ (⟨(nth v x),(nth v x_1)⟩:Geo.S))==2)=tkB s v x x_1)/\
      ((!List.any (List.map (Geo.eF v) (pK s v x x_1)) (fun d=>(!Geo.cG (⟨(nth v x),(nth v x_1)⟩:Geo.S) d)))=false->false=tkB s v x x_1))/\
     (∀y:Unit,(tkB s v x x_1=true->(pK s v x x_1).length=(List.map (Geo.eF v) (pK s v x x_1)).length/\(List.map (Geo.eF v) (pK s v x x_1)).length+[(⟨(nth v x),(nth v x_1)⟩:Geo.S)].length<=1000000/\(pK s v x x_1).length=(pK s v x x_1).length/\(pK s v x x_1).length+[(x,x_1)].length<=1000000/\aK ((x_1:Int)+1)/\(x_1:Int)+1=((x_1+1:Nat):Int)/\(pK s v x x_1++[(x,x_1)]).length=(pK s v x (x_1+1)).length/\(List.map (Geo.eF v) (pK s v x x_1)++[(⟨(nth v x),(nth v x_1)⟩:Geo.S)]).length=(pK s v x (x_1+1)).length/\pK s v x x_1++[(x,x_1)] =pK s v x (x_1+1)/\List.map (Geo.eF v) (pK s v x x_1)++[(⟨(nth v x),(nth v x_1)⟩:Geo.S)] =List.map (Geo.eF v) (pK s v x (x_1+1))/\x<x_1+1/\x_1+1<=v.length/\v.length-(x_1+1)<v.length-x_1)/\
      (tkB s v x x_1=false->aK ((x_1:Int)+1)/\(x_1:Int)+1=((x_1+1:Nat):Int)/\(pK s v x x_1).length=(pK s v x (x_1+1)).length/\(pK s v x x_1).length=(pK s v x (x_1+1)).length/\pK s v x x_1=pK s v x (x_1+1)/\List.map (Geo.eF v) (pK s v x x_1)=List.map (Geo.eF v) (pK s v x (x_1+1))/\x<x_1+1/\x_1+1<=v.length/\v.length-(x_1+1)<v.length-x_1)))/\
    (¬(x_1:Int)<v.length->aK ((x:Int)+1)/\(x:Int)+1=((x+1:Nat):Int)/\(pK s v x x_1).length=(Geo.cQ s v (x+1)).length/\(pK s v x x_1).length=(Geo.cQ s v (x+1)).length/\pK s v x x_1=Geo.cQ s v (x+1)/\List.map (Geo.eF v) (pK s v x x_1)=List.map (Geo.eF v) (Geo.cQ s v (x+1))/\x+1<=v.length/\v.length-(x+1)<v.length-x)))/\
  (¬(x:Int)<v.length->(Geo.cQ s v x).length=(Geo.cQ s v x).length/\Geo.cQ s v x=Geo.cZ s v))) (by kernel_rfl) (by
  change Fit s/\v.length<=900/\((∀x∈v,bd 1000000000 x))/\(bX s).length<=1000000 at hp;obtain⟨hf,hv,hb,he⟩:=hp;have hb:∀x:Nat,(x:Int)<v.length->bd 1000000000 (nth v x):=fun x h=>hb _ (Geo.dW (by omega))
  have hL:∀i k:Nat,(i:Int)<v.length->k<=v.length->(pK s v i k).length<=820000:=fun i k h1 h2=>aFh hv (by omega) h2
  have z:=fun i=> @aCe s v i
  have sY:∀i k:Nat,i<k->tkB s v i k=true->pK s v i k++[(i,k)] =pK s v i (k+1):=fun i k h h2=>by rw[To h,if_pos h2]
  have sN:∀i k:Nat,i<k->tkB s v i k=false->pK s v i k=pK s v i (k+1):=fun i k h h2=>by rw[To h,if_neg (by rw[h2];simp)]
  have sM:∀i k:Nat,i<k->tkB s v i k=true->(pK s v i k).map (Geo.eF v)++[⟨nth v i,nth v k⟩] =(pK s v i (k+1)).map (Geo.eF v):=fun i k h h2=>by rw[<-sY i k h h2,List.map_append];rfl
  have pE:=fun(i k:Nat) (h:¬(k:Int)<v.length) (h2:k<=v.length)=> @aFi s v i k h h2
  have uE:∀i:Nat,¬(i:Int)<v.length->i<=v.length->Geo.cQ s v i=Geo.cZ s v:=fun i h1 h2=>by rw[show i=v.length by omega];rfl
  have tA:∀i k:Nat,(List.map (Geo.eF v) (pK s v i k)).any (fun d=> !Geo.cG ⟨nth v i,nth v k⟩ d)=(pK s v i k).any (fun d=> !Geo.cG ⟨nth v i,nth v k⟩ (Geo.eF v d)):=fun i k=>by rw[List.any_map];rfl
  have tY:∀i k:Nat,(!(List.map (Geo.eF v) (pK s v i k)).any (fun d=> !Geo.cG ⟨nth v i,nth v k⟩ d))=true->((bX s).all (fun e=>Geo.cG e ⟨nth v i,nth v k⟩)&&Geo.dL s (Geo.eJ ⟨nth v i,nth v k⟩)==2)=tkB s v i k:=fun i k h=>by
   unfold tkB;rw[<-tA,h];rfl
  have tN:∀i k:Nat,(!(List.map (Geo.eF v) (pK s v i k)).any (fun d=> !Geo.cG ⟨nth v i,nth v k⟩ d))=false->false=tkB s v i k:=fun i k h=>by
   unfold tkB;rw[<-tA,h];rfl
  repeat' first|with_reducible apply And.intro|with_reducible intro
  all_goals repeat with_reducible cases‹_<_/\_›
  all_goals first|assumption|rfl|omega|(unfold ix;omega)|(unfold aK;omega)|exact hb _ ‹_› |exact tY _ _ ‹_› |exact tN _ _ ‹_› |(rw[z];done)|(rw[List.length_map];done)|(rw[List.length_map];exact Nat.le_trans (hL _ _ ‹_› ‹_›) (by decide))|(rw[List.length_map];exact Nat.le_trans (Nat.add_le_add_right (hL _ _ ‹_› ‹_›) 1) (by decide))|exact Nat.le_trans (Nat.add_le_add_right (hL _ _ ‹_› ‹_›) 1) (by decide)|exact sY _ _ ‹_› ‹_› |exact sM _ _ ‹_› ‹_› |exact sN _ _ ‹_› ‹_› |exact congrArg List.length (sN _ _ ‹_› ‹_›)|exact congrArg (List.map (Geo.eF v)) (sN _ _ ‹_› ‹_›)|exact congrArg List.length (sY _ _ ‹_› ‹_›)|(rw[sM _ _ ‹_› ‹_›,List.length_map];done)|exact pE _ _ ‹_› ‹_› |exact congrArg List.length (pE _ _ ‹_› ‹_›)|exact congrArg (List.map (Geo.eF v)) (pE _ _ ‹_› ‹_›)|exact uE _ ‹_› ‹_›)
def t60:Tab:=cJ [(60,c60)] aG2
theorem aFR:t60.Ok Tryz.prog:=aR aDH ⟨k60,trivial⟩
end
end Go.Proofs.YtdaeofhdgabhjaaGreat
namespace Go.Proofs.YtdaeofhdgabhjaaGreat
open Go.RowKit
set_option maxRecDepth 100000
noncomputable section
open Geo (bX nth aB)
theorem Bu{s:Geo.Shape}{v:List Geo.V}{acc:List (Nat×Nat)}{i:Nat}:∀{m:Nat} {p:Nat×Nat},p∈Geo.rowP s v acc i m->p∈acc\/(p.1=i/\i<p.2/\p.2<i+1+m)
 |0,p,h=> .inl h
 |m+1,p,h=>by
  unfold Geo.rowP Geo.At at h;split at h
  ·rcases List.mem_append.1 h with h|h
   ·rcases Bu h with h|⟨h1,h2,h3⟩
    ·exact .inl h
    ·exact .inr ⟨h1,h2,by omega⟩
   ·simp at h;subst h;exact .inr ⟨rfl,by show i<i+1+m;omega,by show i+1+m<_;omega⟩
  ·rcases Bu h with h|⟨h1,h2,h3⟩
   ·exact .inl h
   ·exact .inr ⟨h1,h2,by omega⟩
theorem zF{s:Geo.Shape}{v:List Geo.V}:∀{i:Nat} {p:Nat×Nat},i<=v.length->p∈Geo.cQ s v i->p.1<p.2/\p.2<v.length
 |0,p,_,h=>by simp[Geo.cQ]at h
 |i+1,p,hi,h=>by
  unfold Geo.cQ at h;rcases Bu h with h|⟨h1,h2,h3⟩
  ·exact zF (by omega) h
  ·omega
theorem Cz{s:Geo.Shape}{v:List Geo.V}{p:Nat×Nat}(h:p∈Geo.cZ s v):p.1<p.2/\p.2<v.length:=zF (Nat.le_refl _) h
theorem Oe(r:Geo.aH):(Geo.aD r).length<=r.length:=by
 unfold Geo.aD;split<;>simp
theorem pH:∀l:List Geo.aH,(l.flatMap Geo.aD).length<=(l.map List.length).sum
 |[] =>by simp
 |r::l=>by
  have:=pH l;have:=Oe r;rw[List.flatMap_cons,List.length_append,List.map_cons,List.sum_cons];omega
theorem zB{s:Geo.Shape}(h:Geo.VS s):(bX s).length<=80:=by
 have h1:=pH (Geo.aA s);have h2:=h.corners;unfold Geo.eW at h2;unfold bX;omega
theorem Rv{s:Geo.Shape}(h:Geo.VS s){r:Geo.aH}(hr:r∈(Geo.gJ s).holes):3<=r.length/\r.length<=40:=by
 unfold Geo.gJ at hr;have hr:=(Geo.iV _).subset hr;obtain⟨q,hq,rfl⟩:=List.mem_map.1 hr;have hv:=h.ring (r:=q) (by unfold Geo.aA;exact List.mem_cons_of_mem _ hq)
 rw[Geo.gC];exact⟨hv.three,hv.most⟩
theorem tQ{s:Geo.Shape}(V:Geo.VS s):0<(Geo.gJ s).outer.length/\∀r∈(Geo.gJ s).holes,0<r.length:=
 ⟨by have h:=V.outer.three;show 0<(Geo.fR s.outer).length;rw[Geo.gC];omega,fun r hr=>by have:=Rv V hr;omega⟩
def c17:Con:=con (a1 aSh) (fun s=>[Fit s]) (fun s=> .tup [.lst .V (vOf s),.int .i64 (eOf s)])
theorem k17:c17.Ok Tryz.prog 17:=bF (bP aFR) (raw:=bR) (fun s=>[(5,.mk Nat (fun F _=>vO F 14) [12] (fun k=>[k<=(Geo.aA (aC s)).length]) (fun k=>[(14,.int .i64 (k:Int)),(4,.own 12 .V ((Geo.aA (aC s)).take k).flatten.length)]) (fun k=>[(12,.row 44 .V ((Geo.aA (aC s)).take k).flatten)]) (fun k=>(Geo.aA (aC s)).length-k) (fun _=>[]))]
  ) (fun _=>⟨_,rfl⟩) fun s hp=>bQ (q:=Fit s/\((!Geo.aM s)=true->vOf s=([] :List Geo.V)/\11=eOf s)/\
 ((!Geo.aM s)=false->Fit s/\Fit (aC s)/\(0:Nat)<(aC s).outer.length/\(∀r:Geo.aH,r∈(aC s).holes->(0:Nat)<r.length)/\(0=(0:Int)/\(List.flatten (List.take 0 (Geo.aA (aC s)))).length=0/\List.flatten (List.take 0 (Geo.aA (aC s)))=([] :List Geo.V)/\(0:Nat)<=(Geo.aA (aC s)).length)/\
  (∀x:Nat,x<=(Geo.aA (aC s)).length->((x:Int)<(Geo.aA (aC s)).length->ix (x:Int) (Geo.aA (aC s)).length/\(List.flatten (List.take x (Geo.aA (aC s)))).length=(List.flatten (List.take x (Geo.aA (aC s)))).length/\(List.flatten (List.take x (Geo.aA (aC s)))).length+(aB (Geo.aA (aC s)) x).length<=1000000/\aK ((x:Int)+1)/\(x:Int)+1=((x+1:Nat):Int)/\(List.flatten (List.take x (Geo.aA (aC s)))++aB (Geo.aA (aC s)) x).length=(List.flatten (List.take (x+1) (Geo.aA (aC s)))).length/\List.flatten (List.take x (Geo.aA (aC s)))++aB (Geo.aA (aC s)) x=List.flatten (List.take (x+1) (Geo.aA (aC s)))/\x+1<=(Geo.aA (aC s)).length/\(Geo.aA (aC s)).length-(x+1)<(Geo.aA (aC s)).length-x)/\
   (¬(x:Int)<(Geo.aA (aC s)).length->(List.flatten (List.take x (Geo.aA (aC s)))).length=(List.flatten (List.take x (Geo.aA (aC s)))).length/\List.flatten (List.take x (Geo.aA (aC s)))=vOf s/\0=eOf s)))) (by kernel_rfl) (by
  change Fit s at hp;have hq:=Geo.jE s;have v0:(!Geo.aM s)=true->vOf s=[] :=fun h=>by unfold vOf;rw[<-hq,nb' h];rfl
  have v1:(!Geo.aM s)=true->11=eOf s:=fun h=>by unfold eOf;rw[<-hq,nb' h];rfl
  have v2:(!Geo.aM s)=false->0=eOf s:=fun h=>by unfold eOf;rw[<-hq,nb h];rfl
  have c1:(!Geo.aM s)=false->aC s=Geo.gJ s:=fun h=>by unfold aC;rw[nb h];rfl
  have V:(!Geo.aM s)=false->Geo.VS s:=fun h=>(Geo.gX s).1 (nb h)
  have f1:(!Geo.aM s)=false->Fit (aC s):=fun h=>by rw[c1 h];exact Gs hp
  have f2:(!Geo.aM s)=false->0<(aC s).outer.length:=fun h=>by rw[c1 h];exact(tQ (V h)).1
  have f3:(!Geo.aM s)=false->∀r∈(aC s).holes,0<r.length:=fun h=>by rw[c1 h];exact(tQ (V h)).2
  have f4:(!Geo.aM s)=false->(Geo.aA (aC s)).flatten.length<=80:=fun h=>by rw[c1 h];exact Kx (V h)
  have f5:(!Geo.aM s)=false->(Geo.aA (aC s)).flatten=vOf s:=fun h=>by rw[c1 h];unfold vOf;rw[<-hq,nb h];rfl
  have f6:(!Geo.aM s)=false->(Geo.aA (aC s)).length<=1000:=fun h=>by have:=(f1 h).2.1;unfold Geo.aA;rw[List.length_cons];omega
  generalize Geo.aA (aC s)=L at f4 f5 f6|-;have e1:∀x:Nat,(x:Int)<L.length->(L.take x).flatten++aB L x=(L.take (x+1)).flatten:=fun x h=>by
   rw[List.take_succ_eq_append_getElem (by omega),List.flatten_append,List.flatten_singleton,lZ (by omega)]
  have e2:∀x:Nat,(L.take x).flatten.length<=L.flatten.length:=fun x=>by
   conv=>rhs;rw[<-List.take_append_drop x L,List.flatten_append,List.length_append]
   omega
  have e4:(!Geo.aM s)=false->∀x:Nat,(x:Int)<L.length->(L.take x).flatten.length+(aB L x).length<=1000000:=fun h x hx=>by
   have h1:=e2 (x+1);rw[<-e1 x hx,List.length_append]at h1;have:=f4 h;omega
  have e5:(!Geo.aM s)=false->∀x:Nat,¬(x:Int)<L.length->(L.take x).flatten=vOf s:=fun h x hx=>by rw[List.take_of_length_le (by omega),f5 h]
  have e6:(!Geo.aM s)=false->∀x:Nat,x<=L.length->aK ((x:Int)+1):=fun h x hx=>cW (by have:=f6 h;omega)
  clear e2 c1 V
  repeat' first|with_reducible apply And.intro|with_reducible intro
  all_goals first|assumption|rfl|omega|exact v0 ‹_› |exact v1 ‹_› |exact v2 ‹_› |exact f1 ‹_› |exact f2 ‹_› |exact f3 ‹_› _ ‹_› |(unfold ix;omega)|exact e4 ‹_› _ ‹_› |exact e6 ‹_› _ ‹_› |exact e1 _ ‹_› |exact congrArg List.length (e1 _ ‹_›)|exact e5 ‹_› _ ‹_›)
def t17:Tab:=cJ [(17,c17)] t60
theorem aGq:t17.Ok Tryz.prog:=aR aFR ⟨k17,trivial⟩
def c19:Con:=con (a1 aSh) (fun s=>[Fit s]) (fun s=> .tup [.lst .S (dOf s),.int .i64 (eOf s)])
theorem k19:c19.Ok Tryz.prog 19:=bF (bP aGq) (raw:=bR) (fun s=>[(6,.mk Nat (fun F _=>vO F 21) [16] (fun k=>[k<=(Geo.cZ s (vOf s)).length]) (fun k=>[(21,.int .i64 (k:Int)),(6,.own 16 .S k)]) (fun k=>[(16,.row 46 .S (((Geo.cZ s (vOf s)).map (Geo.eF (vOf s))).take k))]) (fun k=>(Geo.cZ s (vOf s)).length-k) (fun _=>[]))]
  ) (fun _=>⟨_,rfl⟩) fun s hp=>bQ (q:=Fit s/\(¬eOf s=0->dOf s=([] :List Geo.S)/\eOf s=eOf s)/\
 (¬(¬eOf s=0)->Fit s/\(vOf s).length<=900/\(∀x:Geo.V,x∈vOf s->bd 1000000000 x)/\(bX s).length<=1000000/\(0=(0:Int)/\(0:Nat)=0/\List.take 0 (List.map (Geo.eF (vOf s)) (Geo.cZ s (vOf s)))=([] :List Geo.S)/\(0:Nat)<=(Geo.cZ s (vOf s)).length)/\
  (∀x:Nat,x<=(Geo.cZ s (vOf s)).length->((x:Int)<(Geo.cZ s (vOf s)).length->ix (x:Int) (Geo.cZ s (vOf s)).length/\ix 0 2/\ix ((aY (Geo.cZ s (vOf s)) x).1:Int) (vOf s).length/\ix 1 2/\ix ((aY (Geo.cZ s (vOf s)) x).2:Int) (vOf s).length/\x=(List.take x (List.map (Geo.eF (vOf s)) (Geo.cZ s (vOf s)))).length/\(List.take x (List.map (Geo.eF (vOf s)) (Geo.cZ s (vOf s)))).length+[(⟨(nth (vOf s) (aY (Geo.cZ s (vOf s)) x).1),(nth (vOf s) (aY (Geo.cZ s (vOf s)) x).2)⟩:Geo.S)].length<=1000000/\aK ((x:Int)+1)/\(x:Int)+1=((x+1:Nat):Int)/\(List.take x (List.map (Geo.eF (vOf s)) (Geo.cZ s (vOf s)))++[(⟨(nth (vOf s) (aY (Geo.cZ s (vOf s)) x).1),(nth (vOf s) (aY (Geo.cZ s (vOf s)) x).2)⟩:Geo.S)]).length=x+1/\List.take x (List.map (Geo.eF (vOf s)) (Geo.cZ s (vOf s)))++[(⟨(nth (vOf s) (aY (Geo.cZ s (vOf s)) x).1),(nth (vOf s) (aY (Geo.cZ s (vOf s)) x).2)⟩:Geo.S)] =List.take (x+1) (List.map (Geo.eF (vOf s)) (Geo.cZ s (vOf s)))/\x+1<=(Geo.cZ s (vOf s)).length/\(Geo.cZ s (vOf s)).length-(x+1)<(Geo.cZ s (vOf s)).length-x)/\
   (¬(x:Int)<(Geo.cZ s (vOf s)).length->x=(List.take x (List.map (Geo.eF (vOf s)) (Geo.cZ s (vOf s)))).length/\List.take x (List.map (Geo.eF (vOf s)) (Geo.cZ s (vOf s)))=dOf s/\0=eOf s)))) (by kernel_rfl) (by
  change Fit s at hp;have hq:=Geo.jE s;have d0:¬eOf s=0->dOf s=[] :=fun h=>(aFv h).1
  have R:¬¬eOf s=0->Geo.fK s=true:=fun h=>Uf h
  have V:¬¬eOf s=0->Geo.VS s:=fun h=>vsR (R h)
  have hvl:=xF s;have hvb:∀x∈vOf s,bd 1000000000 x:=fun x hx=>by
   obtain⟨i,hi,rfl⟩:=Geo.fA.1 hx;exact Hm hi (by decide)
  have he:¬¬eOf s=0->(bX s).length<=1000000:=fun h=>by have:=zB (V h);omega
  have dE:¬¬eOf s=0->(Geo.cZ s (vOf s)).map (Geo.eF (vOf s))=dOf s:=fun h=>by
   rw[Uh (R h)];rw[If (R h)];exact(Geo.Ug (V h) (fun x hx=>(Geo.jK s).subset hx) ((Geo.jK s).nodup_iff.2 (V h).nodup)).1
  have pL:(Geo.cZ s (vOf s)).length<=6400:=by
   have:=nU (s:=s) (v:=vOf s) (vOf s).length;have h2:(vOf s).length*(vOf s).length<=80*80:=Nat.mul_le_mul hvl hvl;unfold Geo.cZ;omega
  have pM:∀p∈Geo.cZ s (vOf s),p.1<p.2/\p.2<(vOf s).length:=fun p hp=>Cz hp
  generalize Geo.cZ s (vOf s)=P at dE pL pM|-;have pA:∀x:Nat,(x:Int)<P.length->(aY P x).1<(vOf s).length/\(aY P x).2<(vOf s).length:=fun x h=>by
   have h2:aY P x∈P:=by rw[sI (by omega)];exact List.getElem_mem _
   have:=pM _ h2;omega
  have p1:∀x:Nat,(x:Int)<P.length->ix ((aY P x).1:Int) (vOf s).length:=fun x h=>eC (pA x h).1
  have p2:∀x:Nat,(x:Int)<P.length->ix ((aY P x).2:Int) (vOf s).length:=fun x h=>eC (pA x h).2
  have e1:∀x:Nat,x<=P.length->(List.take x (P.map (Geo.eF (vOf s)))).length=x:=fun x h=>by rw[List.length_take,List.length_map];omega
  have e2:∀x:Nat,(x:Int)<P.length->List.take x (P.map (Geo.eF (vOf s)))++[⟨nth (vOf s) (aY P x).1,nth (vOf s) (aY P x).2⟩] =List.take (x+1) (P.map (Geo.eF (vOf s))):=fun x h=>by
   rw[List.take_succ_eq_append_getElem (by rw[List.length_map];omega),List.getElem_map,sI (by omega)];rfl
  have e3:¬¬eOf s=0->∀x:Nat,¬(x:Int)<P.length->List.take x (P.map (Geo.eF (vOf s)))=dOf s:=fun h x hx=>by rw[List.take_of_length_le (by rw[List.length_map];omega),dE h]
  clear pM dE pA hq
  repeat' first|with_reducible apply And.intro|with_reducible intro
  all_goals first|assumption|rfl|omega|exact d0 ‹_› |exact he ‹_› |exact hvb _ ‹_› |(unfold ix;omega)|(unfold aK;omega)|exact p1 _ ‹_› |exact p2 _ ‹_› |exact(e1 _ ‹_›).symm|(rw[e1 _ ‹_›];simp;omega)|(rw[List.length_append,e1 _ ‹_›];simp;done)|exact e2 _ ‹_› |exact e3 ‹_› _ ‹_› |exact(Decidable.of_not_not ‹¬¬eOf s=0›).symm)
def t19:Tab:=cJ [(19,c19)] t17
theorem aJ3:t19.Ok Tryz.prog:=aR aGq ⟨k19,trivial⟩
def t67:Tab:=t19
theorem aJL:t67.Ok Tryz.prog:=aJ3
def t64:Tab:=t67
theorem aJM:t64.Ok Tryz.prog:=aJL
def t62:Tab:=t64
theorem aFQ:t62.Ok Tryz.prog:=aJM
end
end Go.Proofs.YtdaeofhdgabhjaaGreat
namespace Go.Proofs.YtdaeofhdgabhjaaGreat
open Go.RowKit
set_option maxRecDepth 100000
noncomputable section
open Geo (nth)
def aET:Con:=con (ac (aL .V) (a1 aV)) (fun(l,_)=>[l.length<=1000000]) (fun(l,v)=> .int .i64 (fI (fun u=>decide (v=u)) l))
theorem aHy:aET.Ok Tryz.prog 150:=bF (bP aFQ) (raw:=bR) (fun(l,v)=>[cnt 2 8 l.length (bE fun j=>decide (v=nth l j)=false)]
  ) (fun(_,_)=>⟨_,rfl⟩) fun(l,v) hp=>bQ (q:=(0=(0:Int)/\(0:Nat)<=l.length/\bE (fun j=>decide (v=nth l j)=false) 0)/\
 (∀x:Nat,x<=l.length/\bE (fun j=>decide (v=nth l j)=false) x->((x:Int)<l.length->ix (x:Int) l.length/\(v=(nth l x)->(x:Int)=fI (fun u=>decide (v=u)) l)/\
   (¬v=(nth l x)->aK ((x:Int)+1)/\(x:Int)+1=((x+1:Nat):Int)/\x+1<=l.length/\bE (fun j=>decide (v=nth l j)=false) (x+1)/\l.length-(x+1)<l.length-x))/\
  (¬(x:Int)<l.length-> -1=fI (fun u=>decide (v=u)) l))) (by kernel_rfl) (by
  change l.length<=1000000 at hp
  repeat' first|with_reducible apply And.intro|with_reducible intro
  all_goals repeat with_reducible cases‹_/\_›
  all_goals first|assumption|rfl|exact trivial|exact nb ‹_› |exact nb' ‹_› |omega|exact dU (by omega)|(unfold ix;omega)|(unfold aK;omega)|exact bW _|exact aO ‹_› ‹_› |(refine aO ‹_› ?_;simp_all;done)|exact vQ (t:= .V) (by omega) (decide_eq_true ‹_›) ‹_› |(obtain rfl:_=l.length:=Nat.le_antisymm ‹_› (by omega);exact uP (t:= .V) ‹_›)|grind)
def aGQ:Tab:=cJ [(150,aET)] t62
theorem aDv:aGQ.Ok Tryz.prog:=aR aFQ ⟨aHy,trivial⟩
def jC(v:Geo.V):Int:=if 0<v.y\/(v.y=0/\0<v.x)then 0 else 1
def aG:Ar (List Geo.V) where
 enc v:= .pro [.pro [.lst .V v,.junk,.junk] 0] 0
 dec s:=match s with
  | .pro [.pro [r,.junk,.junk] 0] 0=>Ed .V r
  |_=>none
 ok s a h:=by
  split at h
  ·have e1:=nO h;simp only[SV.av,avs,e1]
  ·cases h
 pl _:=⟨_,rfl⟩
def aQ:Ar Nat where
 enc n:= .pro [.int .i64 (n:Int)] 0
 dec s:=match s with
  | .pro [.int .i64 (.ofNat n)] 0=>some n
  |_=>none
 ok s a h:=by
  split at h<;>cases h;rfl
 pl _:=⟨_,rfl⟩
def Ao(v:List Geo.V)(p x y:Nat):Int:=
 let a:=Geo.sub (nth v x) (nth v p)
 let b:=Geo.sub (nth v y) (nth v p)
 if jC a-jC b=0 then-Geo.cP ⟨0,0⟩ a b else jC a-jC b
def aHG:Con:=con (a1 aV) (fun _=>[]) (fun v=> .int .i64 (jC v)
 )
theorem aKd:aHG.Ok Tryz.prog 223:=bF (bP aDv) (raw:=bR) (fun _=>[]) (fun _=>⟨_,rfl⟩) fun v _=>bQ (q:=(0<v.y->0=jC v)/\
 (¬0<v.y->(v.y=0->(0<v.x->0=jC v)/\
   (¬0<v.x->1=jC v))/\
  (¬v.y=0->1=jC v))) (by kernel_rfl) (by
  refine⟨fun h=>(if_pos (.inl h)).symm,fun h=>⟨fun h2=>⟨fun h3=>(if_pos (.inr ⟨h2,h3⟩)).symm,fun h3=>(if_neg ?_).symm⟩,fun h2=>(if_neg ?_).symm⟩⟩<;>omega)
def aF3:Tab:=cJ [(223,aHG)] aGQ
theorem aCT:aF3.Ok Tryz.prog:=aR aDv ⟨aKd,trivial⟩
theorem Mi(v:Geo.V):0<=jC v/\jC v<=1:=by unfold jC;split<;>omega
theorem aBR(a b c:Geo.V): -1<=Geo.cP a b c/\Geo.cP a b c<=1:=by unfold Geo.cP Geo.sgn;split<;>(try split)<;>omega
def aHH:Con:=con (ac aN (ac aN (ac aG (a1 aQ)))) (fun(x,y,v,p)=>[x<v.length,y<v.length,p<v.length,v.length<=1000000,(∀u∈v,bd 500000000 u)]) (fun(x,y,v,p)=> .int .i64 (Ao v p x y)
 )
theorem aHw:aHH.Ok Tryz.prog 222:=bF (bP aCT) (raw:=bR) (fun(_,_,_,_)=>[]) (fun(_,_,_,_)=>⟨_,rfl⟩) fun(x,y,v,p) hp=>bQ (q:=ix (x:Int) v.length/\ix (p:Int) v.length/\bd 1000000000 (nth v x)/\bd 1000000000 (nth v p)/\ix (y:Int) v.length/\ix (p:Int) v.length/\bd 1000000000 (nth v y)/\bd 1000000000 (nth v p)/\aK (jC (Geo.sub (nth v x) (nth v p))-jC (Geo.sub (nth v y) (nth v p)))/\(¬jC (Geo.sub (nth v x) (nth v p))-jC (Geo.sub (nth v y) (nth v p))=0->jC (Geo.sub (nth v x) (nth v p))-jC (Geo.sub (nth v y) (nth v p))=Ao v p x y)/\
 (¬(¬jC (Geo.sub (nth v x) (nth v p))-jC (Geo.sub (nth v y) (nth v p))=0)->bd 1000000000 (⟨0,0⟩:Geo.V)/\bd 1000000000 (Geo.sub (nth v x) (nth v p))/\bd 1000000000 (Geo.sub (nth v y) (nth v p))/\aK (0-Geo.cP (⟨0,0⟩:Geo.V) (Geo.sub (nth v x) (nth v p)) (Geo.sub (nth v y) (nth v p)))/\0-Geo.cP (⟨0,0⟩:Geo.V) (Geo.sub (nth v x) (nth v p)) (Geo.sub (nth v y) (nth v p))=Ao v p x y)) (by kernel_rfl) (by
  change x<v.length/\y<v.length/\p<v.length/\v.length<=1000000/\((∀u∈v,bd 500000000 u))at hp;obtain⟨hx,hy,hq,hl,hb⟩:=hp;have hb:∀i:Nat,i<v.length->bd 500000000 (nth v i):=fun i h=>hb _ (Geo.dW h)
  have bx:=hb x hx;have by_:=hb y hy;have bp:=hb p hq;have e1:=Mi (Geo.sub (nth v x) (nth v p));have e2:=Mi (Geo.sub (nth v y) (nth v p));have e3:=aBR ⟨0,0⟩ (Geo.sub (nth v x) (nth v p)) (Geo.sub (nth v y) (nth v p));have sb:∀a b:Geo.V,bd 500000000 a->bd 500000000 b->bd 1000000000 (Geo.sub a b):=fun a b h1 h2=>by
   unfold bd Geo.sub at*;dsimp only;omega
  refine⟨eC hx,eC hq,bx.mono,bp.mono,eC hy,eC hq,by_.mono,bp.mono,cW (by omega),fun h=>(if_neg h).symm,fun h=>⟨by unfold bd;dsimp only;omega,sb _ _ bx bp,sb _ _ by_ bp,cW (by omega),?_⟩⟩
  rw[show Ao v p x y=_ from if_pos (Decidable.of_not_not h)]
  omega)
def aF4:Tab:=cJ [(222,aHH)] aF3
theorem aIQ:aF4.Ok Tryz.prog:=aR aCT ⟨aHw,trivial⟩
end
end Go.Proofs.YtdaeofhdgabhjaaGreat
namespace Go.Proofs.YtdaeofhdgabhjaaGreat
open Go.RowKit
theorem yQ{α:Type}:∀(a:Ask α) (w:World),w.drawn<=(w.ask a).2.drawn
 | .done a,w=>Nat.le_refl _
 | .ask what range k,w=>by
   unfold World.ask;dsimp only;split
   ·exact yQ _ w
   ·exact Nat.le_trans (Nat.le_succ w.drawn) (yQ (k _) {w with drawn:=w.drawn+1})
theorem Fr(w:World)(c:Sys):w.drawn<=(w.sys c).2.drawn:=by
 have h:=yQ (Kernel.perform c w.os) w;unfold World.sys;split
 ·exact Nat.le_refl _
 ·rename_i heq;rw[heq]at h;exact h
theorem zW{p:Program}{w w':World}{at_:Addr}{u:TypeId}{k:Addr}{v:Value}{b:Bool}{l:List Addr}(h:w.viewStore p at_ u k v b= .ok (w',l)):w'.drawn=w.drawn:=by
 unfold World.viewStore at h;simp only[bind,Except.bind,pure,Except.pure]at h
 repeat' split at h
 all_goals first|(cases h;done)|skip
 all_goals (try cases h;try rfl)
def Result.drew{α:Type}(w:World):Result α->Prop
 | .ok _ w'=>w.drawn<=w'.drawn
 | .halt _ w'=>w.drawn<=w'.drawn
theorem sX{α:Type}(p:Program):∀(s:Sem α) (w:World),Result.drew w (s.run p w):=by
 intro s;induction s with
 |pure a=>intro w;exact Nat.le_refl _
 |load m a k ih=>
  intro w;unfold Sem.run;split
  ·exact ih _ w
  ·split
   ·exact ih _ w
   ·exact Nat.le_refl _
 |store m a v k ih=>
  intro w;have key:∀w1:World,w1.drawn=w.drawn->Result.drew w (k.run p w1):=by
   intro w1 h;have:=ih w1;revert this;generalize Sem.run p _ _=r;intro h2;cases r<;>(show w.drawn<=_;rw[<-h];exact h2)
  have h0:∀h,Result.drew (α:=α) w (.halt h w):=fun _=>Nat.le_refl _
  cases v<;>simp only[Sem.run];all_goals first|exact h0 _|skip
  all_goals
   split
   ·split
    ·exact h0 _
    ·exact key _ rfl
   ·split
    ·rename_i h1;refine key _ ?_;unfold World.farStore at h1;split at h1
     ·split at h1
      ·rename_i h2;cases h1;exact zW h2
      ·cases h1
     ·cases h1
    ·exact h0 _
 |new o k ih=>intro w;unfold Sem.run;exact ih _ _
 |shape r k ih=>intro w;unfold Sem.run;exact ih _ _
 |freeze a n k ih=>
  intro w;unfold Sem.run;have e:(w.freeze a n).drawn=w.drawn:=by unfold World.freeze;first|rfl|(split<;>rfl)
  have:=ih (w.freeze a n);revert this;generalize Sem.run p _ _=r;intro h2;cases r<;>(show w.drawn<=_;rw[<-e];exact h2)
 |frozen a k ih=>intro w;unfold Sem.run;exact ih _ _
 |getObj r k ih=>
  intro w;unfold Sem.run;split
  ·exact Nat.le_refl _
  ·exact ih _ _
  ·exact Nat.le_refl _
 |setObj r o k ih=>
  intro w;unfold Sem.run;split
  ·exact Nat.le_refl _
  ·exact ih _
  ·exact Nat.le_refl _
 |choose q k ih=>
  intro w;unfold Sem.run;split
  ·exact ih _ w
  ·have:=ih (q.cut (w.tape w.drawn q)) {w with drawn:=w.drawn+1}
   revert this;generalize Sem.run p _ _=r;intro h;cases r<;>exact Nat.le_trans (Nat.le_succ _) h
 |sys c k ih=>
  intro w;unfold Sem.run;have:=ih (w.sys c).1 (w.sys c).2;have h2:=Fr w c;revert this;generalize Sem.run p _ _=r;intro h;cases r<;>exact Nat.le_trans h2 h
 |program k ih=>intro w;unfold Sem.run;exact ih _ _
 |mark m k ih=>intro w;unfold Sem.run;exact ih _
 |halt h=>intro w;exact Nat.le_refl _
end Go.Proofs.YtdaeofhdgabhjaaGreat
namespace Go.Proofs.YtdaeofhdgabhjaaGreat
open Go.RowKit
variable {p:Program}
theorem fG{α:Type}{s:Sem α}{w w':World}{a:α}(h:s.run p w= .ok a w'):w.drawn<=w'.drawn:=by
 have:=sX p s w;rw[h]at this;exact this
theorem iJ{α:Type}{s:Sem α}{w w':World}{e:Halt}(h:s.run p w= .halt e w'):w.drawn<=w'.drawn:=by
 have:=sX p s w;rw[h]at this;exact this
theorem rG{α:Type}:∀(s:Sem α) (w:World) (es:Array Event),(s.runT p w es).1=s.run p w:=by
 intro s;induction s with
 |pure a=>intro w es;rfl
 |load m a k ih=>
  intro w es;simp only[Sem.run,Sem.runT];split
  ·exact ih _ _ _
  ·split
   ·exact ih _ _ _
   ·rfl
 |store m a v k ih=>
  intro w es;cases v<;>simp only[Sem.run,Sem.runT];all_goals
   split
   ·split
    ·rfl
    ·exact ih _ _
   ·split
    ·exact ih _ _
    ·rfl
 |new o k ih=>intro w es;simp only[Sem.run,Sem.runT];exact ih _ _ _
 |shape r k ih=>intro w es;simp only[Sem.run,Sem.runT];exact ih _ _ _
 |freeze a n k ih=>intro w es;simp only[Sem.run,Sem.runT];exact ih _ _
 |frozen a k ih=>intro w es;simp only[Sem.run,Sem.runT];exact ih _ _ _
 |getObj r k ih=>
  intro w es;simp only[Sem.run,Sem.runT];split
  ·rfl
  ·exact ih _ _ _
  ·rfl
 |setObj r o k ih=>
  intro w es;simp only[Sem.run,Sem.runT];split
  ·rfl
  ·exact ih _ _
  ·rfl
 |choose q k ih=>
  intro w es;simp only[Sem.run,Sem.runT];split
  ·exact ih _ _ _
  ·exact ih _ _ _
 |sys c k ih=>intro w es;simp only[Sem.run,Sem.runT];exact ih _ _ _
 |program k ih=>intro w es;simp only[Sem.run,Sem.runT];exact ih _ _ _
 |mark m k ih=>intro w es;simp only[Sem.run,Sem.runT];exact ih _ _
 |halt h=>intro w es;rfl
theorem aB7{α:Type}{s:Sem α}{w w':World}{a:α}{es es':Array Event}(h:s.runT p w es=(.ok a w',es')):w.drawn<=w'.drawn:=by
 have:=rG (p:=p) s w es;rw[h]at this;exact fG this.symm
theorem xS{α:Type}{s:Sem α}{w w':World}{e:Halt}{es es':Array Event}(h:s.runT p w es=(.halt e w',es')):w.drawn<=w'.drawn:=by
 have:=rG (p:=p) s w es;rw[h]at this;exact iJ this.symm
theorem pO{α:Type}{s:Sem α}{w w':World}{a:α}{es:Array Event}(h:(s.runT p w es).1= .ok a w'):w.drawn<=w'.drawn:=fG ((rG s w es).symm.trans h)
theorem gS{α:Type}{s:Sem α}{w w':World}{e:Halt}{es:Array Event}(h:(s.runT p w es).1= .halt e w'):w.drawn<=w'.drawn:=iJ ((rG s w es).symm.trans h)
def wd:GStep->Nat
 | .go _ w _=>w.drawn
 | .comm _ _ _ _ w _=>w.drawn
 | .spawn _ _ w _=>w.drawn
 | .count _ w _=>w.drawn
 | .timer _ _ w _=>w.drawn
 | .alone _ _ w _=>w.drawn
 | .newcoro _ _ _ w _=>w.drawn
 | .coroswitch _ _ _ w _=>w.drawn
 | .collect _ w _=>w.drawn
 | .watch _ w _=>w.drawn
 | .ended _ w _=>w.drawn
theorem kS(es:Array Event)(s:GStep):wd (s.after es)=wd s:=by cases s<;>rfl
theorem Hv{c:Prop} [Decidable c]{a b:GStep}{n:Nat}(h1:n<=wd a)(h2:n<=wd b):n<=wd (if c then a else b):=by
 split
 ·exact h1
 ·exact h2
theorem sD(fr:Frame)(v:Value)(w:World):w.drawn<=wd (endPrinting p fr v w):=by
 unfold endPrinting;dsimp only;split<;>exact Nat.le_refl _
theorem zP(fr:Frame)(cs:List Frame)(d:Option Dying)(m:String)(w:World):w.drawn<=wd (endFatal p fr cs d m w):=by
 unfold endFatal;dsimp only;split
 ·exact fG (by assumption)
 ·exact iJ (by assumption)
 ·exact iJ (by assumption)
theorem Rl(fd:Nat)(t:ByteArray)(o:Outcome)(w:World):w.drawn<=wd (endWith w fd t o):=by
 have h:=Fr w (.write fd t);unfold endWith;dsimp only;split
 ·rename_i e;rw[e]at h;split<;>exact h
 ·rename_i e;rw[e]at h;exact h
 ·rename_i e;rw[e]at h;exact h
theorem Pv(fr:Frame)(d:Dying)(f:Fatal)(w:World):w.drawn<=wd (writeOn p fr d f w):=by
 unfold writeOn;dsimp only;split
 ·exact Nat.le_refl _
 ·split
  ·exact aB7 (by assumption)
  ·exact xS (by assumption)
  ·exact xS (by assumption)
  ·exact xS (by assumption)
theorem aFw(fr:Frame)(d:Dying)(w:World):w.drawn<=wd (die p fr d w):=by
 unfold die;split
 ·exact Pv _ _ _ _
 ·split
  ·split
   ·exact Nat.le_refl _
   ·exact Rl _ _ _ _
  ·dsimp only;split
   ·exact Nat.le_refl _
   ·split
    ·exact fG (by assumption)
    ·exact iJ (by assumption)
   ·rw[kS];split
    ·rename_i heq;exact pO heq
    ·rename_i heq;exact pO heq
    ·rename_i heq;exact gS heq
    ·rename_i heq;exact Nat.le_trans (gS heq) (sD _ _ _)
    ·exact Nat.le_refl _
   ·exact Nat.le_refl _
theorem aBj(fr:Frame)(cs:List Frame)(d:Option Dying)(g:Nat)(w:World):w.drawn<=wd (early p fr cs d g w):=by
 unfold early;dsimp only
 repeat' split
 all_goals first|exact Nat.le_refl _|(have h:=fG ‹Sem.run p (choose (Question.early g)) w=Result.ok _ _›;exact h)|exact iJ ‹Sem.run p (choose (Question.early g)) w=Result.halt _ _›
theorem rV(main:Bool)(fr:Frame)(cs:List Frame)(d:Option Dying)(v:Value)(w:World):wd (doReturn p main fr cs d v w)=w.drawn:=by
 unfold doReturn
 repeat' split
 all_goals rfl
theorem Ad(fr:Frame)(cs:List Frame)(d:Option Dying)(f:Deferred)(w:World):w.drawn<=wd (callDeferred p fr cs d f w):=by
 unfold callDeferred;dsimp only;refine Hv ?_ ?_
 ·exact Nat.le_refl _
 ·rw[kS];split;all_goals first
   |exact pO ‹_›
   |exact gS ‹_›
   |exact Nat.le_trans (gS ‹(Sem.runT p (invoke f.target f.args) w #[]).1=Result.halt _ _›) (zP _ _ _ _ _)
   |(split<;>exact pO ‹(Sem.runT p (invoke f.target f.args) w #[]).1=Result.ok _ _›)
theorem Uz(main:Bool)(fr:Frame)(cs:List Frame)(d:Option Dying)(w:World):w.drawn<=wd (unwind p main fr cs d w):=by
 unfold unwind;split
 ·dsimp only;rw[kS];split
  ·exact pO ‹_›
  ·exact gS ‹_›
 ·exact Ad _ _ _ _ _
 ·split
  ·exact Nat.le_refl _
  ·split
   ·exact Nat.le_refl _
   ·split
    ·exact Nat.le_refl _
    ·split
     ·split
      ·exact Nat.le_refl _
      ·split
       ·exact fG ‹_›
       ·exact iJ ‹_›
       ·exact iJ ‹_›
     ·split
      ·exact sD _ _ _
      ·exact Nat.le_refl _
  ·split
   ·exact Nat.le_of_eq (rV _ _ _ _ _ _).symm
   ·dsimp only;rw[kS];split
    ·exact Nat.le_trans (pO ‹_›) (Nat.le_of_eq (rV _ _ _ _ _ _).symm)
    ·exact gS ‹_›
    ·exact gS ‹_›
theorem wO(listen:Bool)(fr:Frame)(cs:List Frame)(d:Option Dying)(s:Sem Next)(w:World):w.drawn<=wd (stepG.apply p listen fr cs d s w):=by
 unfold stepG.apply;dsimp only;have hr:Result.drew w (if listen=true then s.runT p w #[]else(s.run p w, #[])).1:=by
  split
  ·rw[rG];exact sX _ _ _
  ·exact sX _ _ _
 rw[kS];generalize (if listen=true then s.runT p w #[]else(s.run p w, #[])).1=r at hr|-
 cases r with
 |ok a w'=>
  have hr:w.drawn<=w'.drawn:=hr;cases a;all_goals (try exact hr)
  all_goals (dsimp only;repeat' split)
  all_goals exact hr
 |halt e w'=>
  have hr:w.drawn<=w'.drawn:=hr;cases e with
  |unsupported u=>cases u<;>first|exact hr|exact Nat.le_trans hr (aBj _ _ _ _ _)
  |fatal m=>exact Nat.le_trans hr (zP _ _ _ _ _)
  |_=>exact hr
theorem aCf(listen:Bool)(fr:Frame)(cs:List Frame)(d:Option Dying)(w:World):w.drawn<=wd (stepG.oper p listen fr cs d w):=by
 unfold stepG.oper;split
 ·exact Nat.le_refl _
 ·split<;>exact wO _ _ _ _ _ _
theorem aCv(main:Bool)(listen:Bool)(fr:Frame)(cs:List Frame)(d:Option Dying)(w:World):w.drawn<=wd (stepG.exec p main listen fr cs d w):=by
 have hleave:∀jump:Option Code,w.drawn<=wd (match fr.roundOf with
   |none=>if jump matches none|some .ret then GStep.go {frame:={fr with mode:= .returning},callers:=cs,status:= .running,dying:=d} w else .ended (.stuck "exit, goto: no such block or label" (fr.pos p)) w
   |some l=>GStep.after (seen p fr.fn ((Instr.endRound l jump).runT p w #[]).2)<|match((Instr.endRound l jump).runT p w #[]).1 with
    | .ok v w=>doReturn p main fr cs d v w
    | .halt _ w=> .ended (.stuck "range over a function: no such loop" (fr.pos p)) w):=by
  intro jump;split
  ·refine Hv ?_ ?_<;>exact Nat.le_refl _
  ·rw[kS];split
   ·exact Nat.le_trans (pO ‹_›) (Nat.le_of_eq (rV _ _ _ _ _ _).symm)
   ·exact gS ‹_›
 unfold stepG.exec;dsimp only;split;all_goals (try exact Nat.le_refl _)
 all_goals (try exact hleave _)
 all_goals (try exact wO _ _ _ _ _ _)
 all_goals (try exact hleave none)
 all_goals (try exact hleave (some .ret))
 ·split<;>exact Nat.le_refl _
 ·cases exitTo _ _
  ·exact hleave (some (.exit _))
  ·exact Nat.le_refl _
 ·cases gotoIn _ _
  ·exact hleave (some (.goto _))
  ·exact Nat.le_refl _
 ·rw[kS];split
  ·exact Nat.le_trans (pO ‹_›) (wO _ _ _ _ _ _)
  ·exact gS ‹_›
 ·rw[kS];split
  ·exact pO ‹_›
  ·exact gS ‹_›
  ·exact gS ‹_›
 ·cases Extern.next _
  ·exact Nat.le_refl _
  ·exact wO _ _ _ _ _ _
 ·refine Hv (Nat.le_refl _) ?_;split
  ·exact fG ‹_›
  ·exact iJ ‹_›
 ·exact Hv (aCf _ _ _ _ _) (Nat.le_refl _)
theorem aAt(main:Bool)(g:Goroutine)(w:World)(listen:Bool):w.drawn<=wd (stepG p main g w listen):=by
 unfold stepG;split;split
 ·exact aFw _ _ _
 ·exact aCv _ _ _ _ _ _
 ·exact Uz _ _ _ _ _
def sd(n:Nat):Stepped->Prop
 | .next m=>n<=m.world.drawn
 | .ended _ _=>True
theorem Ty(gs:Array Goroutine)(rest:Rest)(w:World):sd w.drawn (look p gs rest w):=by
 unfold look;split
 ·dsimp only
  repeat' split
  all_goals first|exact trivial|skip
  all_goals (have h:=fG (p:=p) (w:=w) (by assumption);exact h)
 ·exact trivial
theorem Px{rest:Rest}{cases:Array CommCase}{w w':World}(h:waitingAt rest cases w=some w'):w.drawn<=w'.drawn:=by
 unfold waitingAt at h;split at h
 ·split at h<;>cases h;exact Nat.le_refl _
 ·cases h;exact Nat.le_refl _
theorem aCz(rest:Rest)(gs:Array Goroutine)(i:Nat)(g:Goroutine)(cases:Array CommCase)(b:Bool)(shape:CommShape)(w:World):sd w.drawn (communicate p rest gs i g cases b shape w).1:=by
 unfold communicate;dsimp only
 repeat' split
 all_goals first
  |exact trivial
  |exact Nat.le_refl _
  |exact Px ‹_›
  |(have h:=fG (p:=p) (w:=w) (by assumption)
    first
     |exact h
     |(have h2:=iJ (p:=p) ‹Sem.run p (runtimePanic (RuntimeError.plain "send on closed channel")) _=Result.halt _ _›;exact Nat.le_trans h h2)
     |(have h2:=fG (p:=p) ‹Sem.run p (choose (Question.extern "which waiting goroutine is the partner" _)) _=Result.ok _ _›;exact Nat.le_trans h h2))
theorem aBk(w:World)(c:Nat):(drain w c).2.drawn=w.drawn:=by
 unfold drain;split<;>rfl
theorem Fy(m:Machine)(k:Nat)(t:Timer)(a b:Nat):(retime m k t a b).2.world.drawn=m.world.drawn:=by
 unfold retime;cases t.chan with
 |none=>rfl
 |some c=>exact aBk _ _
theorem Wb{m m':Machine}{v:Addr}(h:timerOp.opened m v=some m'):m'.world.drawn=m.world.drawn:=by
 unfold timerOp.opened at h;split at h
 ·split at h<;>cases h;rfl
 ·cases h;rfl
theorem Lx{m m':Machine}{var:Addr}{f:Nat->Timer->Value×Machine}{v:Value}{n:Nat}(hf:∀k t,(f k t).2.world.drawn=n)(h:timerOp.named m var f= .ok (v,m')):m'.world.drawn=n:=by
 unfold timerOp.named at h;split at h
 ·rename_i k _;have:=hf k (m.rest.timers.getD k default);cases h':f k (m.rest.timers.getD k default)with
  |mk a b=>rw[h']at h this;cases h;exact this
 ·cases h
theorem Qb{m m':Machine}{op:TimerOp}{v:Value}(h:timerOp m op= .ok (v,m')):m'.world.drawn=m.world.drawn:=by
 unfold timerOp at h;split at h
 ·split at h
  ·cases h;rfl
  ·split at h
   ·split at h
    ·cases h
    ·cases h;rfl
   ·cases h
 ·exact Lx (fun k t=>Fy _ _ _ _ _) h
 ·split at h
  ·rename_i ho;exact(Lx (fun k t=>Fy _ _ _ _ _) h).trans (Wb ho)
  ·cases h
 ·cases h;rfl
theorem aB6(m:Machine)(i:Nat)(listen:Bool):sd m.world.drawn (runT p m i listen).1:=by
 unfold runT;dsimp only;generalize (m.gs.swapAt! i {(default:Goroutine)with status:= .finished})=q
 obtain⟨g,gs⟩:=q;dsimp only;have hs:=aAt (p:=p) (i==0) g m.world listen;generalize stepG p (i==0) g m.world listen=s at hs|-;cases s with
 |ended o w es=>exact trivial
 |comm g cases b shape w es=>
  dsimp only;have:=aCz (p:=p) m.rest gs i g cases b shape w;have hs:m.world.drawn<=w.drawn:=hs;revert this;generalize (communicate p m.rest gs i g cases b shape w).1=r;intro h;cases r with
  |next m'=>exact Nat.le_trans hs h
  |ended _ _=>exact trivial
 |go g w es=>exact hs
 |spawn g c w es=>exact hs
 |count g w es=>
  dsimp only;split
  ·exact trivial
  ·exact hs
 |alone g on w es=>exact hs
 |collect g w es=>
  have:=Ty (p:=p) (gs.setIfInBounds i g) m.rest w;have hs:m.world.drawn<=w.drawn:=hs;dsimp only;revert this;generalize look p (gs.setIfInBounds i g) m.rest w=r;intro h;cases r with
  |next m'=>exact Nat.le_trans hs h
  |ended _ _=>exact trivial
 |watch g w es=>exact hs
 |newcoro g c d w es=>exact hs
 |coroswitch g c exit w es=>
  dsimp only;split
  ·exact hs
  ·exact hs
  ·exact trivial
 |timer g op w es=>
  dsimp only;split
  ·rename_i h;exact Nat.le_trans hs (Nat.le_of_eq (Qb h).symm)
  ·exact hs
  ·exact trivial
  ·exact trivial
def md(n:Nat):Move->Prop
 | .goroutine m _=>n<=m.world.drawn
 | .machine s _=>sd n s
theorem aAE(m:Machine)(k:Nat):sd m.world.drawn (serve p m k):=by
 unfold serve;split
 ·exact trivial
 ·exact Nat.le_refl _
 ·dsimp only;split
  ·exact trivial
  ·exact Nat.le_refl _
theorem Yt{a b:Nat}{x:Move}(h:a<=b)(hx:md b x):md a x:=by
 cases x with
 |goroutine m i=>exact Nat.le_trans h hx
 |machine s ops=>cases s with
  |next m=>exact Nat.le_trans h hx
  |ended _ _=>exact trivial
theorem Cm(m:Machine):md m.world.drawn (askOn p m):=by
 unfold askOn;dsimp only
 repeat' split
 all_goals first
  |exact trivial
  |(have h:=fG (p:=p) (w:=m.world) (by assumption)
    first
     |exact h
     |exact Yt h (aAE (p:=p) _ _)
     |exact Nat.le_trans h (fG (p:=p) (by assumption))
     |exact Nat.le_trans h (Nat.le_trans (fG (p:=p) (by assumption)) (fG (p:=p) (by assumption)))
     |exact Nat.le_trans h (Nat.le_trans (fG (p:=p) (by assumption)) (Nat.le_trans (fG (p:=p) (by assumption)) (fG (p:=p) (by assumption))))
     |(have h2:=fG (p:=p) ‹Sem.run p (choose (Question.extern "clock.wait" _)) _=Result.ok _ _›;first
        |exact Nat.le_trans h h2
        |(have h3:=fG (p:=p) ‹Sem.run p (choose (Question.sched _)) _=Result.ok _ _›;first
           |exact Nat.le_trans h (Nat.le_trans h2 h3)
           |(have h4:=fG (p:=p) ‹Sem.run p (choose (Question.extern "sched.slice" _)) _=Result.ok _ _›;exact Nat.le_trans h (Nat.le_trans h2 (Nat.le_trans h3 h4))))))
  |skip
theorem aAh(m:Machine):md m.world.drawn (ask p m):=by
 unfold ask;split
 ·split
  ·exact trivial
  ·rename_i w1 h1;have h2:=Ty (p:=p) m.gs m.rest w1;have h1:=fG h1;split
   ·rename_i h3;rw[h3]at h2;exact Yt (Nat.le_trans h1 h2) (Cm _)
   ·cases hl:look p m.gs m.rest w1 with
    |next m'=>rw[hl]at h2;exact Nat.le_trans h1 h2
    |ended _ _=>exact trivial
  ·rename_i h1;exact Yt (fG h1) (Cm _)
 ·exact Cm m
theorem aCi(m:Machine):md m.world.drawn (move p m):=by
 unfold move;split
 ·split
  ·exact Nat.le_refl _
  ·exact trivial
 ·split
  ·split
   ·exact Nat.le_refl _
   ·exact aAh _
  ·exact aAh _
theorem Qc{m m':Machine}(h:step p m= .next m'):m.world.drawn<=m'.world.drawn:=by
 have hm:=aCi (p:=p) m;unfold step stepT at h;cases hv:move p m with
 |goroutine m1 i=>
  rw[hv]at hm h;have:=aB6 (p:=p) m1 i true;dsimp only at h;rw[h]at this;exact Nat.le_trans hm this
 |machine s ops=>
  rw[hv]at hm h;dsimp only at h;rw[h]at hm;exact hm
theorem uW:∀(n:Nat) {m m':Machine},runN p n m= .next m'->m.world.drawn<=m'.world.drawn
 |0,m,m',h=>by cases h;exact Nat.le_refl _
 |n+1,m,m',h=>by
  unfold runN at h;split at h
  ·rename_i m1 h1;exact Nat.le_trans (Qc h1) (uW n h)
  ·rename_i h1 h2;exact absurd h (h2 _)
theorem Oi{f:FuncId}{args:Array Value}{w:World}{R:Ending->World->Prop}(h:Calls p f args w R)(hn:∀w',¬R .outgrown w'):Calls p f args w fun e w'=>R e w'/\w.drawn<=w'.drawn:=by
 intro cs;obtain⟨e,w',fr,h1,h2,h3⟩:=h cs;refine⟨e,w',fr,⟨h1,?_⟩,h2,h3⟩;cases e with
 |returned v=>obtain⟨n,hn⟩:=h2;exact uW n hn
 |panicked c=>obtain⟨n,hn⟩:=h2;exact uW n hn
 |outgrown=>exact absurd h1 (hn w')
end Go.Proofs.YtdaeofhdgabhjaaGreat
namespace Go.Proofs.YtdaeofhdgabhjaaGreat
open Go.RowKit Go.Sort Go.Shelf Go.Lib
def Ur(lt:Int->Int->Bool)(x:Int):List Int->List Int
 |[] =>[x]
 |y::r=>if lt y x=true then y::Ur lt x r else x::y::r
def qV(lt:Int->Int->Bool):List Int->List Int
 |[] =>[]
 |x::l=>Ur lt x (qV lt l)
theorem yA(lt:Int->Int->Bool)(x:Int):∀l:List Int,(Ur lt x l).Perm (x::l)
 |[] =>List.Perm.refl _
 |y::r=>by
  unfold Ur;split
  ·exact((yA lt x r).cons y).trans (List.Perm.swap x y r)
  ·exact List.Perm.refl _
theorem nB(lt:Int->Int->Bool):∀l:List Int,(qV lt l).Perm l
 |[] =>List.Perm.refl _
 |x::l=>(yA lt x _).trans ((nB lt l).cons x)
structure OrdOn(lt:Int->Int->Bool)(l:List Int):Prop where
 trans:∀x∈l,∀y∈l,∀z∈l,lt x y=true->lt y z=true->lt x z=true
 asym:∀x∈l,∀y∈l,lt x y=true->lt y x=false
 tot:∀x∈l,∀y∈l,lt x y=false->lt y x=false->x=y
theorem OrdOn.neg{lt:Int->Int->Bool}{l:List Int}(h:OrdOn lt l){x y z:Int}(hx:x∈l)(hy:y∈l)(hz:z∈l)(h1:lt x y=false)(h2:lt y z=false):lt x z=false:=by
 cases h3:lt x z with
 |false=>rfl
 |true=>
  cases h4:lt y x with
  |false=>have:=h.tot x hx y hy h1 h4;subst this;rw[h2]at h3;cases h3
  |true=>rw[h.trans y hy x hx z hz h4 h3]at h2;cases h2
theorem zM{lt:Int->Int->Bool}{S:List Int}(h:OrdOn lt S){x:Int}(hx:x∈S):∀l:List Int,(∀y∈l,y∈S)->l.Pairwise (fun a b=>lt b a=false)->(Ur lt x l).Pairwise fun a b=>lt b a=false
 |[],_,_=>List.pairwise_singleton _ _
 |y::r,hl,hs=>by
  have hy:=hl y List.mem_cons_self;obtain⟨h1,h2⟩:=List.pairwise_cons.1 hs;unfold Ur;split
  ·rename_i hlt;refine List.pairwise_cons.2 ⟨fun b hb=> ?_,zM h hx r (fun z hz=>hl z (List.mem_cons_of_mem _ hz)) h2⟩
   rcases List.mem_cons.1 ((yA lt x r).mem_iff.1 hb)with rfl|hb
   ·exact h.asym _ hy _ hx hlt
   ·exact h1 b hb
  ·rename_i hlt;have hlt:lt y x=false:=by simpa using hlt
   refine List.pairwise_cons.2 ⟨fun b hb=> ?_,hs⟩
   rcases List.mem_cons.1 hb with rfl|hb
   ·exact hlt
   ·exact h.neg (hl b (List.mem_cons_of_mem _ hb)) hy hx (h1 b hb) hlt
theorem wQ{lt:Int->Int->Bool}{S:List Int}(h:OrdOn lt S):∀l:List Int,(∀y∈l,y∈S)->(qV lt l).Pairwise fun a b=>lt b a=false
 |[],_=>List.Pairwise.nil
 |x::l,hl=>zM h (hl x List.mem_cons_self) _ (fun y hy=>hl y (List.mem_cons_of_mem _ ((nB lt l).mem_iff.1 hy))) (wQ h l fun y hy=>hl y (List.mem_cons_of_mem _ hy))
theorem Jp{lt:Int->Int->Bool}{l k:List Int}(h:OrdOn lt l)(hp:k.Perm l)(hs:k.Pairwise fun a b=>lt b a=false):k=qV lt l:=
 List.Perm.eq_of_pairwise (fun a b h1 h2 h3 h4=>h.tot a (hp.mem_iff.1 h1) b ((nB lt l).mem_iff.1 h2) h4 h3) hs (wQ h l fun _ h=>h) (hp.trans (nB lt l).symm)
def ltA(v:List Geo.V)(p:Nat)(x y:Int):Bool:=decide (Ao v p x.toNat y.toNat<0)
theorem Mx{C:bI}{_w:World}{p:Nat}{v:List Geo.V}{vs:List Value}(h:bO C [.fn (.func 222) [] [.pro [.pro [.sl v.length (LT.V.enc v),.junk,.junk] 0] 0,.pro [.int .i64 (p:Int)] 0]] vs):
  ∃cb:List Value,vs=[.func (.func 222) #[] cb.toArray]/\bO C [.pro [.pro [.sl v.length (LT.V.enc v),.junk,.junk] 0] 0,.pro [.int .i64 (p:Int)] 0] cb:=by
 unfold bO at h;obtain⟨u,r,rfl,h1,h2⟩:=h;unfold bO at h2;subst h2;unfold aU at h1;obtain⟨a,b,rfl,h3,h4⟩:=h1;unfold bO at h3;subst h3;exact⟨b,rfl,h4⟩
theorem Vn(l:List Int)(v:List Geo.V)(p:Nat)(hn:l.length<=1000000)(hl:∀x∈l,0<=x/\x.toNat<v.length)(hp:p<v.length)(hv:v.length<=1000000)(hb:∀u∈v,bd 500000000 u)(hO:OrdOn (ltA v p) l):
  zU Tryz.prog 221 (some l.length) [.fn (.func 222) [] [.pro [.pro [.sl v.length (LT.V.enc v),.junk,.junk] 0] 0,.pro [.int .i64 (p:Int)] 0]] 3 1 (LT.I.enc l) (LT.I.enc (qV (ltA v p) l)):=by
 have hlen:=(nB (ltA v p) l).length_eq;refine⟨by kernel_rfl,by rw[uC,uC,List.length_map,List.length_map,hlen],?_,?_⟩
 ·intro C w b c arr vs hC hL hnc hA;obtain⟨cb,rfl,hcb⟩:=Mx (_w:=w) hA;have hnc:=hnc _ rfl;obtain⟨hH,hsz⟩:=Gk hL;by_cases hl0:l=[]
  ·subst hl0;have h:=AnyF.slices_SortFunc_none (P:=Tryz.prog) (ρ:=Tryz.sort221_ren) {Tryz.sort221 with} (some ⟨b,0,none⟩) c (.func (.func 222) #[] cb.toArray) w
   change Calls Tryz.prog 221 _ _ _ at h;refine h.mono ?_;rintro e w' ⟨rfl,rfl⟩;exact⟨arr,rfl,hL,⟨rfl,rfl,rfl,Nat.le_refl _,fun _ _ _=>rfl⟩⟩
  obtain⟨x0,hx0⟩:=List.exists_mem_of_ne_nil _ hl0;have:Inhabited {x:Int//x∈l}:=⟨⟨x0,hx0⟩⟩;obtain⟨d,hd⟩:∃d:Array {x:Int//x∈l},d=l.attach.toArray:=⟨_,rfl⟩;have hds:d.size=l.length:=by rw[hd];simp
  have hdm:d.toList.map (·.1)=l:=by rw[hd];simp
  have hblk:b<w.heap.size:=(Array.getElem?_eq_some_iff.1 hL.blk).1;have hswo:SWO (ltOf fun x y:{x:Int//x∈l}=>Ao v p x.1.toNat y.1.toNat):=by
   have e:∀x y:{x:Int//x∈l},ltOf (fun x y:{x:Int//x∈l}=>Ao v p x.1.toNat y.1.toNat) x y=ltA v p x.1 y.1:=fun x y=>rfl
   refine⟨fun x=> ?_,fun x y z h1 h2=> ?_,fun x y z h1 h2=> ?_⟩
   ·rw[e];cases h:ltA v p x.1 x.1 with
    |false=>rfl
    |true=>have:=hO.asym _ x.2 _ x.2 h;rw[h]at this;cases this
   ·rw[e]at*;exact hO.trans _ x.2 _ y.2 _ z.2 h1 h2
   ·rw[e]at*;exact hO.neg x.2 y.2 z.2 h1 h2
  have hHd:Holds (fun x:{x:Int//x∈l}=>Value.int .i64 x.1) w b 0 d:=by
   intro j hj;have hj':j<l.length:=by omega
   have:=hH j (by simpa using hj')
   have e:(l.toArray)[j]! =d[j]!.1:=by
    rw[getElem!_pos _ j (by simpa using hj'),getElem!_pos d j hj]
    subst hd;simp
   rw[e]at this;exact this
  have h:=Any.slices_SortFunc (P:=Tryz.prog) (ρ:=Tryz.sort221_ren) Tryz.sort221 (fun x:{x:Int//x∈l}=>Value.int .i64 x.1) (fun _=>rfl) (fun x y=>Ao v p x.1.toNat y.1.toNat) hswo 222 cb.toArray b 0 c d w (fun args w=>dN (by kernel_rfl) args w) (by
   intro m os dk hdk x y;have hx:=hl x.1 x.2;have hy:=hl y.1 y.2;obtain⟨A,r,hA2,hr,hS⟩:=aHw [.int .i64 (x.1.toNat:Int),.int .i64 (y.1.toNat:Int),aG.enc v,aQ.enc p] (x.1.toNat,y.1.toNat,v,p) rfl (fM.1 ⟨hx.2,hy.2,hp,hv,hb⟩);have hA3:A=[.int .i64 (x.1.toNat:Int),.int .i64 (y.1.toNat:Int),.pro [.pro [.sl v.length (LT.V.enc v),.junk,.junk] 0] 0,.pro [.int .i64 (p:Int)] 0] :=by
    have h5:avs [SV.int .i64 (x.1.toNat:Int),.int .i64 (y.1.toNat:Int),aG.enc v,aQ.enc p] =([.int .i64 (x.1.toNat:Int),.int .i64 (y.1.toNat:Int),.pro [.pro [.sl v.length (LT.V.enc v),.junk,.junk] 0] 0,.pro [.int .i64 (p:Int)] 0] :List PV).map .p:=rfl;rw[h5]at hA2;have:=congrArg cK hA2;rw[bT,bT]at this;cases this;rfl
   have hr2:r= .int .i64 (Ao v p x.1.toNat y.1.toNat):=by
    have h6:(SV.int .i64 (Ao v p x.1.toNat y.1.toNat)).av= .p r:=hr;cases h6;rfl
   subst hA3;subst hr2;have ex:((x.1.toNat:Nat):Int)=x.1:=Int.toNat_of_nonneg hx.1;have ey:((y.1.toNat:Nat):Int)=y.1:=Int.toNat_of_nonneg hy.1;rw[ex,ey]at hS;have h1:=hS.2 C (sortWorld (fun x:{x:Int//x∈l}=>Value.int .i64 x.1) w b 0 m dk os) (.int .i64 x.1:: .int .i64 y.1::cb) (fun b' o u h=> ?_) ?_
   ·have h2:=Oi h1 (by rintro w' ⟨v,h,_⟩;cases h)
    rw[show(#[Value.int .i64 x.1,Value.int .i64 y.1] ++cb.toArray)=(Value.int .i64 x.1:: .int .i64 y.1::cb).toArray by simp]
    refine h2.mono ?_;rintro e w' ⟨⟨u,rfl,hu,hbel⟩,hdr⟩;unfold aU at hu;subst hu;exact⟨rfl,(Lay.mk hbel hdr).grow⟩
   ·obtain⟨h2,h3⟩:=hC _ _ _ h;unfold sortWorld;rw[cell?_grow _ _ _ (by show b'<(putRow _ _ _ _ _).heap.size;rw[size_putRow];exact World.block_lt_of_cell? w ⟨b',o,none⟩ h2),cell?_putRow_other _ _ b 0 _ _ (Or.inl h3)]
    exact h2
   ·unfold bO;refine⟨_,_,rfl,by unfold aU;rfl,?_⟩
    unfold bO;exact⟨_,_,rfl,by unfold aU;rfl,hcb⟩) hHd hblk (by omega)
  change Calls Tryz.prog 221 _ _ _ at h;rw[hds]at h;refine h.mono ?_;rintro e w' ⟨rfl,d',n,os,hp,hs,rfl⟩;obtain⟨p1,_,p3⟩:=hp;have hG:=lM (enc:=fun x:{x:Int//x∈l}=>Value.int .i64 x.1) (w:=w) (g:=b) (n:=n) (d:=d') (os:=os)
  have hperm:d'.toList.Perm d.toList:=by
   have e1:(d'.extract 0 l.length).toList=d'.toList:=by rw[<-hds,<-p1];simp
   have e2:(d.extract 0 l.length).toList=d.toList:=by rw[<-hds];simp
   rwa[e1,e2]at p3
  have hpr:(d'.toList.map (·.1)).Perm l:=by
   have:=hperm.map (·.1)
   rwa[hdm]at this
  have hso:d'.toList.map (·.1)=qV (ltA v p) l:=by
   refine Jp hO hpr ?_;rw[List.pairwise_map,List.pairwise_iff_getElem];intro i j hi hj hij;have hj':j<d'.size:=by simpa using hj
   have:=hs i j (Nat.zero_le _) hij (by rw[<-hds,<-p1];exact hj')
   rw[getElem!_pos d' i (by omega),getElem!_pos d' j hj']at this
   show ltOf (fun x y:{x:Int//x∈l}=>Ao v p x.1.toNat y.1.toNat) (d'.toList[j]) (d'.toList[i])=false
   simpa using this
  refine⟨_,rfl,⟨qI hL.blk,fun h=>absurd h (by decide),fun _=> ?_,?_⟩,hG⟩
  ·obtain⟨h1,h2,h3⟩:=hL.row (by decide)
   refine⟨by unfold putCells;simpa using h1,?_,h3⟩
   rw[uC,List.length_map,hlen];unfold putCells;simpa using hsz
  ·intro i x hi;rw[<-hso,uC,List.map_map,List.getElem?_map]at hi;cases hx:d'.toList[i]? with
   |none=>rw[hx]at hi;cases hi
   |some y=>
    rw[hx]at hi;cases hi;have hi':i<d'.size:=by have:=(List.getElem?_eq_some_iff.1 hx).1;simpa using this
    have hds':d'.size=l.length:=by rw[p1,hds]
    refine⟨.int .i64 y.1,?_,rfl,by unfold aU;rfl⟩
    unfold putCells;simp only[Nat.zero_le,Nat.zero_add,true_and,Nat.sub_zero];rw[Array.getElem?_mapIdx,Array.getElem?_eq_getElem (by omega),Option.map_some,if_pos hi',getElem!_pos d' i hi']
    have:=(List.getElem?_eq_some_iff.1 hx).2;simp only[Array.getElem_toList]at this;rw[this]
 ·intro h0 C w vs hC hA;obtain⟨cb,rfl,_⟩:=Mx (_w:=w) hA;have hl0:l=[] :=List.length_eq_zero_iff.1 (by simpa using h0)
  subst hl0;have h:=AnyF.slices_SortFunc_none (P:=Tryz.prog) (ρ:=Tryz.sort221_ren) {Tryz.sort221 with} none 0 (.func (.func 222) #[] cb.toArray) w
  change Calls Tryz.prog 221 _ _ _ at h;refine h.mono ?_;rintro e w' ⟨rfl,rfl⟩;exact⟨rfl,Below.refl _ _⟩
def aEN:List SV->Option (List Int×List Geo.V×Nat)
 |[.lst .I l,.fnp 222 [] [.pro [.pro [.lst .V v,.junk,.junk] 0] 0,.pro [.int .i64 (.ofNat p)] 0]] =>some (l,v,p)
 |_=>none
theorem Wy{l:List Int}{rest:List SV}{x:List Int×List Geo.V×Nat}(h:aEN (.lst .I l::rest)=some x):∃v p,rest=[.fnp 222 [] [.pro [.pro [.lst .V v,.junk,.junk] 0] 0,.pro [.int .i64 (p:Nat)] 0]]/\x=(l,v,p):=by
 unfold aEN at h;split at h
 ·rename_i e;cases e;cases h;exact⟨_,_,rfl,rfl⟩
 ·cases h
noncomputable def aHI:Con:=⟨List Int×List Geo.V×Nat,aEN,fun(l,v,p)=>[l.length<=1000000,(∀x∈l,0<=x/\x.toNat<v.length),p<v.length,v.length<=1000000,(∀u∈v,bd 500000000 u),OrdOn (ltA v p) l],.mutR .I 3 fun(l,v,p)=>qV (ltA v p) l⟩
theorem aKe:aHI.Ok Tryz.prog 221:=by
 intro l rest x hd hp;obtain⟨v,p,rfl,rfl⟩:=Wy hd;obtain⟨h1,h2,h3,h4,h5,h6⟩:=fM.2 hp;exact⟨[.fn (.func 222) [] [.pro [.pro [.sl v.length (LT.V.enc v),.junk,.junk] 0] 0,.pro [.int .i64 (p:Int)] 0]],rfl,Vn l v p h1 h2 h3 h4 h5 h6⟩
noncomputable def tD:Tab:=cJ [(203,aHS),(221,aHI)] aF4
theorem tDo:tD.Ok Tryz.prog:=aR aIQ ⟨aKo,aKe,trivial⟩
end Go.Proofs.YtdaeofhdgabhjaaGreat
namespace Go.Proofs.YtdaeofhdgabhjaaGreat
open Go.RowKit
set_option maxRecDepth 100000
noncomputable section
def cY(l:List Geo.V)(v:Geo.V):Nat:=l.findIdx fun u=>decide (v=u)
def qK(l:List Int)(q:Int):Nat:=l.findIdx fun u=>decide (q=u)
theorem fIx{t:LT}{l:List t.ty}{q:t.ty->Bool}{k:Nat}(hk:k<l.length)(h:q (t.nth l k)=true)(hu:bE (fun j=>q (t.nth l j)=false) k):l.findIdx q=k:=by
 refine(List.findIdx_eq hk).2 ⟨by rw[<-LT.nth_eq t l hk];exact h,fun j hj=> ?_⟩
 have this:q (t.nth l j)=false:=hu j hj;rw[LT.nth_eq t l (by omega)]at this
 exact this
theorem aAa{t:LT}{l:List t.ty}{q:t.ty->Bool}{v:t.ty}(hv:v∈l)(h:q v=true)(hu:bE (fun j=>q (t.nth l j)=false) l.length):False:=by
 obtain⟨j,hj,rfl⟩:=List.mem_iff_getElem.1 hv;have this:q (t.nth l j)=false:=hu j hj;rw[LT.nth_eq t l hj,h]at this;cases this
theorem aCr{l:List Int}{q:Int}(h:q∈l):qK l q<l.length:=List.findIdx_lt_length_of_exists ⟨q,h,decide_eq_true rfl⟩
theorem sK{l:List Geo.V}{q:Geo.V}(h:q∈l):cY l q<l.length:=List.findIdx_lt_length_of_exists ⟨q,h,decide_eq_true rfl⟩
def aGr:Ar (List Geo.V×List (List Int)×List Int) where
 enc g:= .pro [.lst .V g.1,.lst .Q g.2.1,.lst .I g.2.2] 0
 dec s:=match s with
  | .pro [a,b,c] 0=>(match Ed .V a,Ed .Q b,Ed .I c with|some x,some y,some z=>some (x,y,z)|_,_,_=>none)
  |_=>none
 ok s a h:=by
  split at h
  ·split at h<;>cases h;rename_i h1 h2 h3;have e1:=nO h1;have e2:=nO h2;have e3:=nO h3;simp only[SV.av,avs,e1,e2,e3]
  ·cases h
 pl _:=⟨_,rfl⟩
def fC(L:List (List Int))(i j:Nat)(st:Int):Nat:=
 let l:=cV L i
 (gH l (((qK l j:Int)+st+l.length).toNat % l.length)).toNat
def aEf:Con:=con (ac (aL .V) (a1 aV)) (fun(l,v)=>[l.length<=1000000,v∈l]) (fun(l,v)=> .int .i64 (cY l v:Nat))
theorem aJk:aEf.Ok Tryz.prog 150:=bF (bP tDo) (raw:=bR) (fun(l,v)=>[cnt 2 8 l.length (bE fun j=>decide (v=Geo.nth l j)=false)]
  ) (fun(_,_)=>⟨_,rfl⟩) fun(l,v) hp=>bQ (q:=(0=(0:Int)/\(0:Nat)<=l.length/\bE (fun j=>decide (v=Geo.nth l j)=false) 0)/\
 (∀x:Nat,x<=l.length/\bE (fun j=>decide (v=Geo.nth l j)=false) x->((x:Int)<l.length->ix (x:Int) l.length/\(v=(Geo.nth l x)->(x:Int)=cY l v)/\
   (¬v=(Geo.nth l x)->aK ((x:Int)+1)/\(x:Int)+1=((x+1:Nat):Int)/\x+1<=l.length/\bE (fun j=>decide (v=Geo.nth l j)=false) (x+1)/\l.length-(x+1)<l.length-x))/\
  (¬(x:Int)<l.length-> -1=(cY l v:Int)))) (by kernel_rfl) (by
  change l.length<=1000000/\v∈l at hp;obtain⟨hl,hv⟩:=hp;have e1:∀x:Nat,(x:Int)<l.length->v=Geo.nth l x->bE (fun j=>decide (v=Geo.nth l j)=false) x->(x:Int)=cY l v:=fun x h1 h2 h3=>by
   rw[show cY l v=x from fIx (t:= .V) (by omega) (decide_eq_true h2) h3]
  have e2:∀x:Nat,¬(x:Int)<l.length->x<=l.length->bE (fun j=>decide (v=Geo.nth l j)=false) x-> -1=(cY l v:Int):=fun x h1 h2 h3=>by
   obtain rfl:x=l.length:=by omega
   exact(aAa (t:= .V) (q:=fun u=>decide (v=u)) hv (decide_eq_true rfl) h3).elim
  repeat' first|with_reducible apply And.intro|with_reducible intro
  all_goals repeat with_reducible cases‹_/\_›
  all_goals first|assumption|rfl|exact trivial|exact nb ‹_› |exact nb' ‹_› |omega|exact dU (by omega)|(unfold ix;omega)|(unfold aK;omega)|exact bW _|exact aO ‹_› ‹_› |(refine aO ‹_› ?_;simp_all;done)|exact e1 _ ‹_› ‹_› ‹_› |exact e2 _ ‹_› ‹_› ‹_› |grind)
def aDw:Tab:=cJ [(150,aEf)] tD
theorem Zi:aDw.Ok Tryz.prog:=aR tDo ⟨aJk,trivial⟩
def aH3:Con:=con (ac (aL .I) (a1 aI)) (fun(l,q)=>[l.length<=1000000,q∈l]) (fun(l,q)=> .int .i64 (qK l q:Nat))
theorem aKz:aH3.Ok Tryz.prog 176:=bF (bP Zi) (raw:=bR) (fun(l,q)=>[cnt 2 8 l.length (bE fun j=>decide (q=gH l j)=false)]
  ) (fun(_,_)=>⟨_,rfl⟩) fun(l,q) hp=>bQ (q:=(0=(0:Int)/\(0:Nat)<=l.length/\bE (fun j=>decide (q=gH l j)=false) 0)/\
 (∀x:Nat,x<=l.length/\bE (fun j=>decide (q=gH l j)=false) x->((x:Int)<l.length->ix (x:Int) l.length/\(q=gH l x->(x:Int)=qK l q)/\
   (¬q=gH l x->aK ((x:Int)+1)/\(x:Int)+1=((x+1:Nat):Int)/\x+1<=l.length/\bE (fun j=>decide (q=gH l j)=false) (x+1)/\l.length-(x+1)<l.length-x))/\
  (¬(x:Int)<l.length-> -1=(qK l q:Int)))) (by kernel_rfl) (by
  change l.length<=1000000/\q∈l at hp;obtain⟨hl,hv⟩:=hp;have e1:∀x:Nat,(x:Int)<l.length->q=gH l x->bE (fun j=>decide (q=gH l j)=false) x->(x:Int)=qK l q:=fun x h1 h2 h3=>by
   rw[show qK l q=x from fIx (t:= .I) (by omega) (decide_eq_true h2) h3]
  have e2:∀x:Nat,¬(x:Int)<l.length->x<=l.length->bE (fun j=>decide (q=gH l j)=false) x-> -1=(qK l q:Int):=fun x h1 h2 h3=>by
   obtain rfl:x=l.length:=by omega
   exact(aAa (t:= .I) (q:=fun u=>decide (q=u)) hv (decide_eq_true rfl) h3).elim
  repeat' first|with_reducible apply And.intro|with_reducible intro
  all_goals repeat with_reducible cases‹_/\_›
  all_goals first|assumption|rfl|exact trivial|exact nb ‹_› |exact nb' ‹_› |omega|exact dU (by omega)|(unfold ix;omega)|(unfold aK;omega)|exact bW _|exact aO ‹_› ‹_› |(refine aO ‹_› ?_;simp_all;done)|exact e1 _ ‹_› ‹_› ‹_› |exact e2 _ ‹_› ‹_› ‹_› |grind)
def aGs:Tab:=cJ [(176,aH3)] aDw
theorem aDd:aGs.Ok Tryz.prog:=aR Zi ⟨aKz,trivial⟩
def aIy:Con:=con (ac aGr (ac aN (ac aN (a1 aI)))) (fun(g,i,j,st)=>[g.1.length<=1000000,g.2.1.length<=1000000,i<g.2.1.length,(j:Int)∈cV g.2.1 i,(cV g.2.1 i).length<=1000000,(∀x∈cV g.2.1 i,0<=x),st=1\/st= -1]) (fun(g,i,j,st)=> .int .i64 (fC g.2.1 i j st:Nat)
 )
theorem aK4:aIy.Ok Tryz.prog 116:=bF (bP aDd) (raw:=bR) (fun(_,_,_,_)=>[]) (fun(_,_,_,_)=>⟨_,rfl⟩) fun(g,i,j,st) hp=>bQ (q:=ix (i:Int) g.2.1.length/\(cV g.2.1 i).length<=1000000/\(j:Int)∈cV g.2.1 i/\aK ((qK (cV g.2.1 i) (j:Int):Int)+st)/\aK ((qK (cV g.2.1 i) (j:Int):Int)+st+(cV g.2.1 i).length)/\((cV g.2.1 i).length:Int)≠0/\ix (Int.tmod ((qK (cV g.2.1 i) (j:Int):Int)+st+(cV g.2.1 i).length) ((cV g.2.1 i).length:Int)) (cV g.2.1 i).length/\gH (cV g.2.1 i) (Int.tmod ((qK (cV g.2.1 i) (j:Int):Int)+st+(cV g.2.1 i).length) ((cV g.2.1 i).length:Int)).toNat=fC g.2.1 i j st) (by kernel_rfl) (by
 change g.1.length<=1000000/\g.2.1.length<=1000000/\i<g.2.1.length/\(j:Int)∈cV g.2.1 i/\(cV g.2.1 i).length<=1000000/\((∀x∈cV g.2.1 i,0<=x))/\(st=1\/st= -1)at hp;obtain⟨h1,h2,h3,h4,h5,h6,h7⟩:=hp;unfold fC;generalize cV g.2.1 i=l at*;have h8:=aCr h4;have e0:0<=(qK l (j:Int):Int)+st+l.length:=by omega
 have e1:Int.tmod ((qK l (j:Int):Int)+st+l.length) (l.length:Int)=(((((qK l (j:Int):Int)+st+l.length).toNat % l.length:Nat)):Int):=by
  rw[Int.tmod_eq_emod_of_nonneg e0,<-Int.toNat_of_nonneg e0];rfl
 have e2:((qK l (j:Int):Int)+st+l.length).toNat % l.length<l.length:=Nat.mod_lt _ (by omega)
 refine⟨eC h3,h5,h4,cW (by omega),cW (by omega),by omega,by rw[e1];exact eC e2,?_⟩
 rw[e1];have h9:=h6 _ (show gH l (((qK l (j:Int):Int)+st+l.length).toNat % l.length)∈l by rw[show gH l _=_ from nP e2];exact List.getElem_mem _)
 show gH l _=((gH l _).toNat:Int);rw[Int.toNat_of_nonneg h9];rfl)
def aHc:Tab:=cJ [(116,aIy)] aGs
theorem aDO:aHc.Ok Tryz.prog:=aR aDd ⟨aK4,trivial⟩
end
end Go.Proofs.YtdaeofhdgabhjaaGreat
