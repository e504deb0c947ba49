/- What the statements about triangulations stand on: contracts of functions, plain laws. Part 4 of 6, no condition of its own. (K6 K7 K8 K9 K10 J1 K11 K12 E16 J2 J3 J4 J5 J6 J7 J8 Shelf J9 J10 J11 J12 K13 K14 K26) -/
import Derived.Test.YtdaeofhdgabhjaaGreatCC3
import Derived.Lib.AppendZerosOnto
import Derived.OrdersIn
import Derived.RangeFuncCalls
import Derived.TacticsIn
import Derived.RangeFuncNested
import Derived.RangeFuncBound
import Derived.RangeFuncLeaves
import Derived.RangeFuncFrom
import Derived.Shelf.Abstract
import Derived.OwnWalkIn
import Derived.TacticsInMore
import Derived.LoopNIn
import Derived.LoopIn
import Derived.Lib.SliceRun
import Derived.Deep.DeepCutAuto
import Derived.Shelf.SlSortCmp.NoneTotal
import Derived.Ground.SlsfProg
import Derived.Test.YtdaeofhdgabhjaaGreatProg
namespace Go.Proofs.YtdaeofhdgabhjaaGreat
open Go.RowKit
section
variable (s:Geo.Shape) (v:List Geo.V) (T:Geo.Tab)
end
section
variable {s:Geo.Shape} {v:List Geo.V} {T:Geo.Tab} {i j k:Nat}
end
theorem Kk{s:Geo.Shape}(h:Geo.bP s=true):vOf s=Geo.eP (Geo.cY s):=if_pos h
theorem Wq{s:Geo.Shape}(h:Geo.bP s=true):dOf s=Geo.aAG s (vOf s):=if_pos h
noncomputable def t22:Tab:=t20
theorem aLy:t22.Ok Tryz.prog:=aLz
end Go.Proofs.YtdaeofhdgabhjaaGreat
namespace Go.Proofs.YtdaeofhdgabhjaaGreat
open Go.RowKit
set_option maxRecDepth 100000
noncomputable section
open Geo (aC)
theorem aBU{a b:List Geo.aM}(hl:a.length=b.length)(h:∀j,j<a.length->aC a j=aC b j):a=b:=List.ext_getElem hl fun i h1 h2=>by rw[<-gQ h1,<-gQ h2];exact h i h1
def vN(s:Geo.Shape):Nat->Int
 |0=>s.outer.length
 |k+1=>IntKind.i64.wrap (vN s k+((aC s.holes k).length:Int))
theorem Fe:∀{l:List Nat} {x:Nat},x∈l->x<=l.sum
 |y::l,x,h=>by
  rcases List.mem_cons.1 h with rfl|h
  ·simp
  ·have:=Fe h;simp;omega
def Bq(s:Geo.Shape):Bool:=decide (vN s s.holes.length<=20)&&decide ((s.holes.length:Int)<=3)
def xL(s:Geo.Shape):Prop:=s.outer.length<=1000000000000000000/\s.holes.length<=1000000000000000000/\∀r∈s.holes,r.length<=1000000000000000000
theorem Ft{s:Geo.Shape}(hB:xL s):∀k,k<=s.holes.length->k<=3->vN s k=(gY s k:Int)/\vN s k<=1000000000000000000*((k:Int)+1)
 |0,_,_=>by have:=hB.1;rw[uB];exact⟨rfl,by show(s.outer.length:Int)<=_;omega⟩
 |k+1,h1,h2=>by
  obtain⟨g1,g2⟩:=Ft hB k (by omega) (by omega)
  have h3:=hB.2.2 _ (Geo.eM (show k<s.holes.length by omega))
  have h4:vN s (k+1)=IntKind.i64.wrap (vN s k+((aC s.holes k).length:Int)):=rfl;rw[h4,IntWalk.i64_in _ (by omega),uC (by omega)]
  omega
theorem aCf{s:Geo.Shape}(hB:xL s)(h:Bq s=true):Fit s:=by
 unfold Bq at h;simp only[BI]at h;have h1:=(Ft hB s.holes.length (Nat.le_refl _) (by omega)).1
 rw[h1,Fw]at h;have h2:Geo.eN s<=20:=by omega
 unfold Geo.eN at h2;have h3:∀r∈Geo.aA s,r.length<=20:=fun r hr=>Nat.le_trans (Fe (List.mem_map.2 ⟨r,hr,rfl⟩)) h2
 exact⟨by have:=h3 s.outer (by simp[Geo.aA]);omega,by omega,fun r hr=>by have:=h3 r (by simp[Geo.aA,hr]);omega⟩
def t24:Tab:=t22
theorem aHJ:t24.Ok Tryz.prog:=aLy
def c25:Con:=con (ac (aL .R) (a1 (aL .R))) (fun(a,_)=>[a.length<=1000000,(∀r∈a,r.length<=100000)]) (fun(a,b)=> .bool (a==b))
theorem k25:c25.Ok Tryz.prog 25:=aX (bK aHJ) (raw:=bO) (fun(a,b)=>[cnt 4 5 a.length (aU fun j=>aC a j=aC b j)]
  ) (fun(_,_)=>⟨_,rfl⟩) fun(a,b) hp=>bL (q:=(¬(a.length:Int)=b.length->false=(a==b))/\
 (¬(¬(a.length:Int)=b.length)->(0=(0:Int)/\(0:Nat)<=a.length/\aU (fun j=>aC a j=aC b j) 0)/\
  (∀x:Nat,x<=a.length/\aU (fun j=>aC a j=aC b j) x->((x:Int)<a.length->ix (x:Int) a.length/\ix (x:Int) b.length/\(aC a x).length<=1000000/\((!aC a x==aC b x)=true->false=(a==b))/\
    ((!aC a x==aC b x)=false->aJ ((x:Int)+1)/\(x:Int)+1=((x+1:Nat):Int)/\x+1<=a.length/\aU (fun j=>aC a j=aC b j) (x+1)/\a.length-(x+1)<a.length-x))/\
   (¬(x:Int)<a.length->true=(a==b))))) (by kernel_rfl) (by
  change a.length<=1000000/\((∀r∈a,r.length<=100000))at hp;have h0:∀x,x<a.length->(aC a x).length<=1000000:=fun x h=>Nat.le_trans (hp.2 _ (Geo.eM h)) (by decide)
  have h1:¬(a.length:Int)=b.length->false=(a==b):=fun h=>by symm;rw[beq_eq_false_iff_ne];intro e;subst e;omega
  have h2:∀{x},(!aC a x==aC b x)=true->false=(a==b):=fun h=>by symm;rw[beq_eq_false_iff_ne];intro e;subst e;simp at h
  have h3:∀x:Nat,¬(x:Int)<a.length->aU (fun j=>aC a j=aC b j) x->¬¬(a.length:Int)=b.length->true=(a==b):=fun x h1 h2 h3=>by symm;rw[beq_iff_eq];exact aBU (by omega) fun j hj=>h2 j (by omega)
  have h4:∀{x},(!aC a x==aC b x)=false->aC a x=aC b x:=fun h=>by simpa using h
  repeat' first|with_reducible apply And.intro|with_reducible intro
  all_goals repeat with_reducible cases‹_/\_›
  all_goals first|assumption|rfl|exact trivial|exact nb ‹_› |exact nb' ‹_› |omega|exact cQ (by omega)|(unfold ix;omega)|(unfold aJ;omega)|exact bC _|exact aE ‹_› ‹_› |(refine aE ‹_› ?_;simp_all;done)|exact h0 _ (by omega)|exact h1 ‹_› |exact h2 ‹_› |exact h3 _ ‹_› ‹_› ‹_› |exact aE ‹_› (h4 ‹_›)|grind)
def t25:Tab:=cC [(25,c25)] t24
theorem aHI:t25.Ok Tryz.prog:=aK aHJ ⟨k25,trivial⟩
def c16:Con:=con (a1 aSh) (fun s=>[xL s]) (fun s=> .bool (Bq s))
theorem k16:c16.Ok Tryz.prog 16:=aX (bK aHI) (raw:=fun r i=>Nat.beq r 5&&Nat.beq i 7) (fun s=>[lp 3 4 s.holes.length (fun _=>[]) [] (fun k=>[(3,.int .i64 (vN s k))]) (fun _=>[])]
  ) (fun _=>⟨_,rfl⟩) fun s hp=>bL (q:=(0=(0:Int)/\(s.outer.length:Int)=vN s 0/\(0:Nat)<=s.holes.length)/\
 (∀x:Nat,x<=s.holes.length->((x:Int)<s.holes.length->ix (x:Int) s.holes.length/\aJ ((x:Int)+1)/\(x:Int)+1=((x+1:Nat):Int)/\IntKind.wrap IntKind.i64 (vN s x+(aC s.holes x).length)=vN s (x+1)/\x+1<=s.holes.length/\s.holes.length-(x+1)<s.holes.length-x)/\
  (¬(x:Int)<s.holes.length->(vN s x<=20->decide ((s.holes.length:Int)<=3)=Bq s)/\
   (¬vN s x<=20->false=Bq s)))) (by kernel_rfl) (by
  change xL s at hp;have hh:=hp.2.1;have e1:∀k:Nat,¬(k:Int)<s.holes.length->k<=s.holes.length->vN s k=vN s s.holes.length:=fun k h1 h2=>by rw[show k=s.holes.length by omega]
  have e2:∀k:Nat,vN s k<=20->¬(k:Int)<s.holes.length->k<=s.holes.length->decide ((s.holes.length:Int)<=3)=Bq s:=fun k h h1 h2=>by
   unfold Bq;rw[e1 k h1 h2]at h;rw[decide_eq_true h,Bool.true_and]
  have e3:∀k:Nat,¬vN s k<=20->¬(k:Int)<s.holes.length->k<=s.holes.length->false=Bq s:=fun k h h1 h2=>by
   unfold Bq;rw[e1 k h1 h2]at h;rw[decide_eq_false h,Bool.false_and]
  repeat' first|with_reducible apply And.intro|with_reducible intro
  all_goals repeat with_reducible cases‹_/\_›
  all_goals first|assumption|rfl|exact trivial|exact nb ‹_› |exact nb' ‹_› |omega|exact cQ (by omega)|(unfold ix;omega)|(unfold aJ;omega)|exact bC _|exact aE ‹_› ‹_› |(refine aE ‹_› ?_;simp_all;done)|exact e2 _ ‹_› ‹_› ‹_› |exact e3 _ ‹_› ‹_› ‹_› |grind)
def t16:Tab:=cC [(16,c16)] t25
theorem aIh:t16.Ok Tryz.prog:=aK aHI ⟨k16,trivial⟩
end
end Go.Proofs.YtdaeofhdgabhjaaGreat
namespace Go.Proofs.YtdaeofhdgabhjaaGreat
open Go.RowKit
set_option maxRecDepth 100000
noncomputable section
open Geo (nth)
def aJJ:Con:=con (a1 aI) (fun _=>[]) (fun _=> .bool false
 )
theorem aL3:aJJ.Ok Tryz.prog 184:=aX (bK aIh) (raw:=bO) (fun _=>[]) (fun _=>⟨_,rfl⟩) fun x _=>bL (q:=decide (¬x=x)=false) (by kernel_rfl) (by
 repeat' first|with_reducible apply And.intro|with_reducible intro
 all_goals repeat with_reducible cases‹_/\_›
 all_goals first|assumption|rfl|exact trivial|exact nb ‹_› |exact nb' ‹_› |omega|exact cQ (by omega)|(unfold ix;omega)|(unfold aJ;omega)|exact bC _|exact aE ‹_› ‹_› |(refine aE ‹_› ?_;simp_all;done)|simp|grind)
def aH5:Tab:=cC [(184,aJJ)] t16
theorem aEl:aH5.Ok Tryz.prog:=aK aIh ⟨aL3,trivial⟩
def aKk:Con:=con (ac aI (a1 aI)) (fun(_,_)=>[]) (fun(x,y)=> .int .i64 (Geo.fG x y)
 )
theorem aME:aKk.Ok Tryz.prog 137:=aX (bK aEl) (raw:=bO) (fun(_,_)=>[]) (fun(_,_)=>⟨_,rfl⟩) fun(x,y) _=>bL (q:=(false=true->(false=true->0=Geo.fG x y)/\
  (false=false-> -1=Geo.fG x y))/\
 (false=false->(false=true->1=Geo.fG x y)/\
  (false=false->(x<y-> -1=Geo.fG x y)/\
   (¬x<y->(y<x->1=Geo.fG x y)/\
    (¬y<x->0=Geo.fG x y))))) (by kernel_rfl) (by
  unfold Geo.fG;grind)
def aIK:Tab:=cC [(137,aKk)] aH5
theorem aE0:aIK.Ok Tryz.prog:=aK aEl ⟨aME,trivial⟩
def orU(l:List Int)(k:Nat):Prop:=∀j,j<k->iI l j=0
def orL:List Int->Int
 |[] =>0
 |x::l=>if x=0 then orL l else x
theorem aA0:∀{l:List Int} {k:Nat},¬iI l k=0->orU l k->k<l.length->iI l k=orL l
 |[],k,_,_,h=>by simp at h
 |x::l,0,h,_,_=>by
  have h:¬x=0:=h;show x=orL (x::l);unfold orL;rw[if_neg h]
 |x::l,k+1,h,h2,h3=>by
  have h0:x=0:=h2 0 (by omega)
  show iI l k=orL (x::l);unfold orL;rw[if_pos h0];exact aA0 h (fun j hj=>h2 (j+1) (by omega)) (by simpa using h3)
theorem Vz:∀{l:List Int},orU l l.length->0=orL l
 |[],_=>rfl
 |x::l,h=>by
  have h0:x=0:=h 0 (by simp)
  unfold orL;rw[if_pos h0];exact Vz fun j hj=>h (j+1) (by simpa using hj)
def aKb:Con:=con (a1 (aL .I)) (fun l=>[l.length<=1000]) (fun l=> .int .i64 (orL l))
theorem aMv:aKb.Ok Tryz.prog 148:=aX (bK aE0) (raw:=bO) (fun l=>[cnt 3 8 l.length (orU l)]
  ) (fun _=>⟨_,rfl⟩) fun l hp=>bL (q:=(0=(0:Int)/\(0:Nat)<=l.length/\orU l 0)/\
 (∀x:Nat,x<=l.length/\orU l x->((x:Int)<l.length->ix (x:Int) l.length/\(¬iI l x=0->iI l x=orL l)/\
   (¬(¬iI l x=0)->aJ ((x:Int)+1)/\(x:Int)+1=((x+1:Nat):Int)/\x+1<=l.length/\orU l (x+1)/\l.length-(x+1)<l.length-x))/\
  (¬(x:Int)<l.length->0=orL l))) (by kernel_rfl) (by
  change l.length<=1000 at hp
  repeat' first|with_reducible apply And.intro|with_reducible intro
  all_goals repeat with_reducible cases‹_/\_›
  all_goals first|assumption|rfl|exact trivial|exact nb ‹_› |exact nb' ‹_› |omega|exact cQ (by omega)|(unfold ix;omega)|(unfold aJ;omega)|exact bC _|exact aE ‹_› ‹_› |(refine aE ‹_› ?_;simp_all;done)|exact aA0 ‹_› ‹_› (by omega)|(obtain rfl:_=l.length:=Nat.le_antisymm ‹_› (by omega);exact Vz ‹_›)|(refine aE ‹_› ?_;exact Decidable.of_not_not ‹¬¬_›)|grind)
def aIB:Tab:=cC [(148,aKb)] aIK
theorem aER:aIB.Ok Tryz.prog:=aK aE0 ⟨aMv,trivial⟩
def c78:Con:=con (ac aV (a1 aV)) (fun(_,_)=>[]) (fun(a,b)=> .int .i64 (Geo.dW a b)
 )
theorem k78:c78.Ok Tryz.prog 78:=aX (bK aER) (raw:=bO) (fun(_,_)=>[]) (fun(_,_)=>⟨_,rfl⟩) fun(a,b) _=>bL (q:=[Geo.fG a.y b.y,Geo.fG a.x b.x].length<=1000/\orL [Geo.fG a.y b.y,Geo.fG a.x b.x] =Geo.dW a b) (by kernel_rfl) (by
 refine⟨by simp,?_⟩
 unfold Geo.dW;simp only[orL];grind)
def t78:Tab:=cC [(78,c78)] aIB
theorem aHi:t78.Ok Tryz.prog:=aK aER ⟨k78,trivial⟩
def aJs:Con:=con (ac aV (a1 aV)) (fun(_,_)=>[]) (fun(a,b)=> .bool (Geo.cH a b)
 )
theorem aLM:aJs.Ok Tryz.prog 220:=aX (bK aHi) (raw:=bO) (fun(_,_)=>[]) (fun(_,_)=>⟨_,rfl⟩) fun(a,b) _=>bL (q:=decide (Geo.dW a b<0)=Geo.cH a b) (by kernel_rfl) (by
 unfold Geo.cH Geo.dW Geo.fG;grind)
def aHP:Tab:=cC [(220,aJs)] t78
theorem aD5:aHP.Ok Tryz.prog:=aK aHi ⟨aLM,trivial⟩
def aKA:Con:=con (ac aV (a1 aV)) (fun(a,b)=>[bd 2000000000 a,bd 2000000000 b]) (fun(a,b)=> .int .i64 (Geo.cross a b)
 )
theorem aMU:aKA.Ok Tryz.prog 111:=aX (bK aD5) (raw:=bO) (fun(_,_)=>[]) (fun(_,_)=>⟨_,rfl⟩) fun(a,b) hp=>bL (q:=aJ (a.x*b.y)/\aJ (a.y*b.x)/\aJ (a.x*b.y-a.y*b.x)/\a.x*b.y-a.y*b.x=Geo.cross a b) (by kernel_rfl) (by
 change bd 2000000000 a/\bd 2000000000 b at hp;have:=iW hp.1 hp.2;exact⟨cP (by omega),cP (by omega),cP (by omega),rfl⟩)
def aI0:Tab:=cC [(111,aKA)] aHP
theorem aFg:aI0.Ok Tryz.prog:=aK aD5 ⟨aMU,trivial⟩
def aKj:Con:=con (ac aV (a1 aV)) (fun(a,b)=>[bd 1000000000 a,bd 1000000000 b]) (fun(a,b)=>aV.enc (Geo.sub a b)
 )
theorem aMD:aKj.Ok Tryz.prog 138:=aX (bK aFg) (raw:=bO) (fun(_,_)=>[]) (fun(_,_)=>⟨_,rfl⟩) fun(a,b) hp=>bL (q:=aJ (a.x-b.x)/\aJ (a.y-b.y)/\a.x-b.x=(Geo.sub a b).x/\a.y-b.y=(Geo.sub a b).y) (by kernel_rfl) (by
 change bd 1000000000 a/\bd 1000000000 b at hp;unfold bd at hp;exact⟨cP (by omega),cP (by omega),rfl,rfl⟩)
def aIJ:Tab:=cC [(138,aKj)] aI0
theorem aEZ:aIJ.Ok Tryz.prog:=aK aFg ⟨aMD,trivial⟩
def c63:Con:=con (ac aV (ac aV (a1 aV))) (fun(a,b,c)=>[bd 1000000000 a,bd 1000000000 b,bd 1000000000 c]) (fun(a,b,c)=> .int .i64 (Geo.cT a b c)
 )
theorem k63:c63.Ok Tryz.prog 63:=aX (bK aEZ) (raw:=bO) (fun(_,_,_)=>[]) (fun(_,_,_)=>⟨_,rfl⟩) fun(a,b,c) hp=>bL (q:=bd 1000000000 b/\bd 1000000000 a/\bd 1000000000 c/\bd 1000000000 a/\bd 2000000000 (Geo.sub b a)/\bd 2000000000 (Geo.sub c a)/\Geo.fG (Geo.cross (Geo.sub b a) (Geo.sub c a)) 0=Geo.cT a b c) (by kernel_rfl) (by
 change bd 1000000000 a/\bd 1000000000 b/\bd 1000000000 c at hp;have e:∀n,Geo.fG n 0=Geo.sgn n:=fun n=>by unfold Geo.fG Geo.sgn;grind
 exact⟨hp.2.1,hp.1,hp.2.2,hp.1,gS hp.2.1 hp.1,gS hp.2.2 hp.1,e _⟩)
def t63:Tab:=cC [(63,c63)] aIJ
theorem aHr:t63.Ok Tryz.prog:=aK aEZ ⟨k63,trivial⟩
def aKi:Con:=con (ac aV (a1 aI)) (fun(_,m)=>[0<=m,m<=9000000000000000000]) (fun(a,m)=> .bool (Geo.bG a m)
 )
theorem aMC:aKi.Ok Tryz.prog 139:=aX (bK aHr) (raw:=bO) (fun(_,_)=>[]) (fun(_,_)=>⟨_,rfl⟩) fun(a,m) hp=>bL (q:=aJ (0-m)/\(0-m<=a.x->(a.x<=m->aJ (0-m)/\(0-m<=a.y->decide (a.y<=m)=Geo.bG a m)/\
   (¬0-m<=a.y->false=Geo.bG a m))/\
  (¬a.x<=m->false=Geo.bG a m))/\
 (¬0-m<=a.x->false=Geo.bG a m)) (by kernel_rfl) (by
  change 0<=m/\m<=9000000000000000000 at hp;unfold Geo.bG;have:= @aJ;grind[aJ])
def aII:Tab:=cC [(139,aKi)] t63
theorem aEX:aII.Ok Tryz.prog:=aK aHr ⟨aMC,trivial⟩
def aKg:Con:=con (a1 aV) (fun _=>[]) (fun a=>aT.enc (Geo.pT a)
 )
theorem aMA:aKg.Ok Tryz.prog 141:=aX (bK aEX) (raw:=bO) (fun _=>[]) (fun _=>⟨_,rfl⟩) fun a _=>bL (q:=a.x=(Geo.pT a).x/\a.y=(Geo.pT a).y/\1=(Geo.pT a).den) (by kernel_rfl) (by
 exact⟨rfl,rfl,rfl⟩)
def aIG:Tab:=cC [(141,aKg)] aII
theorem aEV:aIG.Ok Tryz.prog:=aK aEX ⟨aMA,trivial⟩
def Jo(b:Geo.S)(p:Geo.V):Bool:=decide (b.a.x<=p.x)&&decide (p.x<=b.b.x)&&decide (b.a.y<=p.y)&&decide (p.y<=b.b.y)
def bU(l:List Geo.V):Nat->Geo.S
 |0=>⟨nth l 0,nth l 0⟩
 |k+1=>⟨⟨min (bU l k).a.x (nth l k).x,min (bU l k).a.y (nth l k).y⟩,⟨max (bU l k).b.x (nth l k).x,max (bU l k).b.y (nth l k).y⟩⟩
def aJn:Con:=con (ac aS (a1 aV)) (fun(_,_)=>[]) (fun(b,p)=> .bool (Jo b p)
 )
theorem aLI:aJn.Ok Tryz.prog 228:=aX (bK aEV) (raw:=bO) (fun(_,_)=>[]) (fun(_,_)=>⟨_,rfl⟩) fun(b,p) _=>bL (q:=(b.a.x<=p.x->(p.x<=b.b.x->(b.a.y<=p.y->decide (p.y<=b.b.y)=Jo b p)/\
   (¬b.a.y<=p.y->false=Jo b p))/\
  (¬p.x<=b.b.x->false=Jo b p))/\
 (¬b.a.x<=p.x->false=Jo b p)) (by kernel_rfl) (by
  unfold Jo;grind)
def aHL:Tab:=cC [(228,aJn)] aIG
theorem aD2:aHL.Ok Tryz.prog:=aK aEV ⟨aLI,trivial⟩
def aJo:Con:=con (a1 (aL .V)) (fun l=>[l.length<=1000]) (fun l=> .tup [aS.enc (bU l l.length),.bool (decide (0<l.length))])
theorem aLJ:aJo.Ok Tryz.prog 227:=aX (bK aD2) (raw:=bO) (fun l=>[lp 5 19 l.length (fun _=>[]) [] (fun _=>[]) (fun k=>[(12,.box 196 [.int .i64 (bU l k).a.x,.int .i64 (bU l k).a.y,.int .i64 (bU l k).b.x,.int .i64 (bU l k).b.y])])]
  ) (fun _=>⟨_,rfl⟩) fun l hp=>bL (q:=((l.length:Int)=0->0=(bU l l.length).a.x/\0=(bU l l.length).a.y/\0=(bU l l.length).b.x/\0=(bU l l.length).b.y/\false=decide ((0:Nat)<l.length))/\
 (¬(l.length:Int)=0->ix 0 l.length/\ix 0 l.length/\(0=(0:Int)/\(nth l 0).x=(bU l 0).a.x/\(nth l 0).y=(bU l 0).a.y/\(nth l 0).x=(bU l 0).b.x/\(nth l 0).y=(bU l 0).b.y/\(0:Nat)<=l.length)/\
  (∀x:Nat,x<=l.length->((x:Int)<l.length->ix (x:Int) l.length/\ix (x:Int) l.length/\ix (x:Int) l.length/\ix (x:Int) l.length/\aJ ((x:Int)+1)/\(x:Int)+1=((x+1:Nat):Int)/\Min.min (bU l x).a.x (nth l x).x=(bU l (x+1)).a.x/\Min.min (bU l x).a.y (nth l x).y=(bU l (x+1)).a.y/\Max.max (bU l x).b.x (nth l x).x=(bU l (x+1)).b.x/\Max.max (bU l x).b.y (nth l x).y=(bU l (x+1)).b.y/\x+1<=l.length/\l.length-(x+1)<l.length-x)/\
   (¬(x:Int)<l.length->(bU l x).a.x=(bU l l.length).a.x/\(bU l x).a.y=(bU l l.length).a.y/\(bU l x).b.x=(bU l l.length).b.x/\(bU l x).b.y=(bU l l.length).b.y/\true=decide ((0:Nat)<l.length))))) (by kernel_rfl) (by
  change l.length<=1000 at hp;have eU:∀x:Nat,¬(x:Int)<l.length->x<=l.length->bU l x=bU l l.length:=fun x h1 h2=>by rw[show x=l.length by omega]
  repeat' first|with_reducible apply And.intro|with_reducible intro
  all_goals repeat with_reducible cases‹_/\_›
  all_goals first|assumption|rfl|exact trivial|exact nb ‹_› |exact nb' ‹_› |omega|exact cQ (by omega)|(unfold ix;omega)|(unfold aJ;omega)|exact bC _|exact aE ‹_› ‹_› |(refine aE ‹_› ?_;simp_all;done)|(have h0:l=[] :=List.length_eq_zero_iff.1 (by omega);subst h0;rfl)|(rw[eU _ ‹_› ‹_›])|(symm;rw[decide_eq_true_eq];omega)|(symm;rw[decide_eq_false_iff_not];omega)|grind)
def aHM:Tab:=cC [(227,aJo)] aHL
theorem aD3:aHM.Ok Tryz.prog:=aK aD2 ⟨aLJ,trivial⟩
def aJy:Con:=con (ac aI (a1 aI)) (fun(a,b)=>[-9000000000000000000<=a,a<=9000000000000000000,-9000000000000000000<=b,b<=9000000000000000000]) (fun(a,b)=> .int .i64 ((Nat.gcd a.natAbs b.natAbs:Nat):Int))
theorem aLS:aJy.Ok Tryz.prog 209:=aX (bK aD3) (raw:=bO) (fun(a,b)=>[(1,.mk (Int×Int) (fun F _=>aF6 F 0 1) [] (fun p=>[p.1.natAbs<=9000000000000000000,p.2.natAbs<=9000000000000000000,Nat.gcd p.1.natAbs p.2.natAbs=Nat.gcd a.natAbs b.natAbs]) (fun p=>[(0,.int .i64 p.1),(1,.int .i64 p.2)]) (fun _=>[]) (fun p=>p.2.natAbs) (fun _=>[]))]
  ) (fun(_,_)=>⟨_,rfl⟩) fun(a,b) hp=>bL (q:=(a=a/\b=b/\Int.natAbs a<=9000000000000000000/\Int.natAbs b<=9000000000000000000/\Nat.gcd (Int.natAbs a) (Int.natAbs b)=Nat.gcd (Int.natAbs a) (Int.natAbs b))/\
 (∀x:Prod Int Int,Int.natAbs x.1<=9000000000000000000/\Int.natAbs x.2<=9000000000000000000/\Nat.gcd (Int.natAbs x.1) (Int.natAbs x.2)=Nat.gcd (Int.natAbs a) (Int.natAbs b)->(¬x.2=0->x.2≠0/\x.2=x.2/\Int.tmod x.1 x.2=Int.tmod x.1 x.2/\Int.natAbs x.snd<=9000000000000000000/\Int.natAbs (Int.tmod x.1 x.2)<=9000000000000000000/\Nat.gcd (Int.natAbs x.snd) (Int.natAbs (Int.tmod x.1 x.2))=Nat.gcd (Int.natAbs a) (Int.natAbs b)/\Int.natAbs (Int.tmod x.1 x.2)<Int.natAbs x.2)/\
  (¬(¬x.2=0)->aJ (0-x.1)/\Max.max x.1 (0-x.1)=Nat.gcd (Int.natAbs a) (Int.natAbs b)))) (by kernel_rfl) (by
  change-9000000000000000000<=a/\a<=9000000000000000000/\ -9000000000000000000<=b/\b<=9000000000000000000 at hp;have e1:∀x y:Int,Nat.gcd y.natAbs (Int.tmod x y).natAbs=Nat.gcd x.natAbs y.natAbs:=fun x y=>by
   rw[Int.natAbs_tmod,Nat.gcd_comm,<-Nat.gcd_rec,Nat.gcd_comm]
  have e2:∀x y:Int,¬y=0->(Int.tmod x y).natAbs<y.natAbs:=fun x y h=>by
   rw[Int.natAbs_tmod];exact Nat.mod_lt _ (by omega)
  have e3:∀(x y:Int) (g:Nat),Nat.gcd x.natAbs y.natAbs=g->¬¬y=0->max x (0-x)=(g:Int):=fun x y g h h2=>by
   rw[Decidable.of_not_not h2]at h;rw[<-h];simp;omega
  repeat' first|with_reducible apply And.intro|with_reducible intro
  all_goals repeat with_reducible cases‹_/\_›
  all_goals first|assumption|rfl|exact trivial|exact nb ‹_› |exact nb' ‹_› |omega|exact cQ (by omega)|(unfold ix;omega)|(unfold aJ;omega)|exact bC _|exact aE ‹_› ‹_› |(refine aE ‹_› ?_;simp_all;done)|exact e2 _ _ ‹_› |exact e3 _ _ _ ‹_› ‹_› |(rw[e1];assumption)|exact Nat.le_trans (Nat.le_of_lt (e2 _ _ ‹_›)) ‹_› |grind)
def aHV:Tab:=cC [(209,aJy)] aHM
theorem aEb:aHV.Ok Tryz.prog:=aK aD3 ⟨aLS,trivial⟩
def aJz:Con:=con (ac aT (a1 aI)) (fun(_,m)=>[0<=m,m<=1000000]) (fun(p,m)=> .bool (Geo.dN p m)
 )
theorem aLT:aJz.Ok Tryz.prog 208:=aX (bK aEb) (raw:=bO) (fun(_,_)=>[]) (fun(_,_)=>⟨_,rfl⟩) fun(p,m) hp=>bL (q:=(p.den<1->false=Geo.dN p m)/\
 (¬p.den<1->(134217728<p.den->false=Geo.dN p m)/\
  (¬134217728<p.den->aJ (m*p.den)/\0<=m*p.den/\m*p.den<=9000000000000000000/\Geo.bG ⟨p.x,p.y⟩ (m*p.den)=Geo.dN p m))) (by kernel_rfl) (by
  change 0<=m/\m<=1000000 at hp;unfold Geo.dN;have hm:¬p.den<1->¬134217728<p.den->aJ (m*p.den)/\0<=m*p.den/\m*p.den<=9000000000000000000:=fun h1 h2=>by
   have:=fR (x:=m) (y:=p.den) (A:=1000000) (B:=134217728) (by omega) (by omega)
   exact⟨cP (by omega),Int.mul_nonneg hp.1 (by omega),by omega⟩
  repeat' first|with_reducible apply And.intro|with_reducible intro
  all_goals repeat with_reducible cases‹_/\_›
  all_goals first|assumption|rfl|exact trivial|exact nb ‹_› |exact nb' ‹_› |omega|exact cQ (by omega)|(unfold ix;omega)|(unfold aJ;omega)|exact bC _|exact aE ‹_› ‹_› |(refine aE ‹_› ?_;simp_all;done)|exact(hm ‹_› ‹_›).1|exact(hm ‹_› ‹_›).2.1|exact(hm ‹_› ‹_›).2.2|grind)
def aHW:Tab:=cC [(208,aJz)] aHV
theorem aEc:aHW.Ok Tryz.prog:=aK aEb ⟨aLT,trivial⟩
def aJI:Con:=con (a1 aT) (fun _=>[]) (fun p=> .bool (Geo.dG p)
 )
theorem aL2:aJI.Ok Tryz.prog 185:=aX (bK aEc) (raw:=bO) (fun _=>[]) (fun _=>⟨_,rfl⟩) fun p _=>bL (q:=(0:Int)<=4000/\(4000:Int)<=1000000/\(Geo.dN p 4000=true-> -9000000000000000000<=p.x/\p.x<=9000000000000000000/\ -9000000000000000000<=p.y/\p.y<=9000000000000000000/\ -9000000000000000000<=(Nat.gcd (Int.natAbs p.x) (Int.natAbs p.y):Int)/\(Nat.gcd (Int.natAbs p.x) (Int.natAbs p.y):Int)<=9000000000000000000/\ -9000000000000000000<=p.den/\p.den<=9000000000000000000/\decide ((Nat.gcd (Int.natAbs (Nat.gcd (Int.natAbs p.x) (Int.natAbs p.y):Int)) (Int.natAbs p.den):Int)=1)=Geo.dG p)/\
 (Geo.dN p 4000=false->false=Geo.dG p)) (by kernel_rfl) (by
  have hB:Geo.dN p 4000=true->PtB p:=fun h=>by
   unfold Geo.dN Geo.bG at h;simp only[Bool.and_eq_true,decide_eq_true_eq]at h;unfold PtB;omega
  have hn:∀n m B:Nat,n<=B->m<=B->Nat.gcd n m<=B:=fun n m B h1 h2=>by
   rcases Nat.eq_zero_or_pos n with e|e
   ·rw[e,Nat.gcd_zero_left];exact h2
   ·exact Nat.le_trans (Nat.gcd_le_left m e) h1
  have hg:PtB p->Nat.gcd p.x.natAbs p.y.natAbs<=600000000000:=fun h=>hn _ _ _ (by unfold PtB at h;omega) (by unfold PtB at h;omega)
  have ht:Geo.dN p 4000=true->decide ((Nat.gcd (Int.natAbs (Nat.gcd (Int.natAbs p.x) (Int.natAbs p.y):Int)) (Int.natAbs p.den):Int)=1)=Geo.dG p:=fun h=>by
   unfold Geo.dG;rw[h,Bool.true_and,Int.natAbs_natCast,Bool.eq_iff_iff,decide_eq_true_eq,beq_iff_eq];omega
  repeat' first|with_reducible apply And.intro|with_reducible intro
  all_goals repeat with_reducible cases‹_/\_›
  all_goals first|assumption|rfl|exact trivial|exact nb ‹_› |exact nb' ‹_› |omega|exact cQ (by omega)|(unfold ix;omega)|(unfold aJ;omega)|exact bC _|exact aE ‹_› ‹_› |(refine aE ‹_› ?_;simp_all;done)|exact ht ‹_› |(have h1:=hB ‹_›;have h2:=hg h1;unfold PtB at h1;omega)|(unfold Geo.dG;rw[‹Geo.dN p 4000=false›,Bool.false_and])|grind)
def aH4:Tab:=cC [(185,aJI)] aHW
theorem aEk:aH4.Ok Tryz.prog:=aK aEc ⟨aL2,trivial⟩
def aJw:Con:=con (a1 aS) (fun _=>[]) (fun s=> .bool (Geo.bQ s)
 )
theorem aLQ:aJw.Ok Tryz.prog 216:=aX (bK aEk) (raw:=bO) (fun _=>[]) (fun _=>⟨_,rfl⟩) fun s _=>bL (q:=(0:Int)<=4000/\(4000:Int)<=9000000000000000000/\(Geo.bG s.a 4000=true->(0:Int)<=4000/\(4000:Int)<=9000000000000000000/\Geo.bG s.b 4000=Geo.bQ s)/\
 (Geo.bG s.a 4000=false->false=Geo.bQ s)) (by kernel_rfl) (by
  unfold Geo.bQ;grind)
def aHT:Tab:=cC [(216,aJw)] aH4
theorem aD9:aHT.Ok Tryz.prog:=aK aEk ⟨aLQ,trivial⟩
def aJu:Con:=con (ac aS (a1 aV)) (fun(_,_)=>[]) (fun(s,p)=> .bool (Geo.onS s p)
 )
theorem aLO:aJu.Ok Tryz.prog 218:=aX (bK aD9) (raw:=bO) (fun(_,_)=>[]) (fun(_,_)=>⟨_,rfl⟩) fun(s,p) _=>bL (q:=[s.a,s.b].length<=1000/\(Geo.bQ s=true->(Jo (bU [s.a,s.b] [s.a,s.b].length) p=true->bd 1000000000 s.a/\bd 1000000000 s.b/\bd 1000000000 p/\decide (Geo.cT s.a s.b p=0)=Geo.onS s p)/\
  (Jo (bU [s.a,s.b] [s.a,s.b].length) p=false->false=Geo.onS s p))/\
 (Geo.bQ s=false->false=Geo.onS s p)) (by kernel_rfl) (by
  have e0:Jo (bU [s.a,s.b] [s.a,s.b].length) p=Geo.iM s p:=by
   show(decide (min (min s.a.x s.a.x) s.b.x<=p.x)&&decide (p.x<=max (max s.a.x s.a.x) s.b.x)&&decide (min (min s.a.y s.a.y) s.b.y<=p.y)&&decide (p.y<=max (max s.a.y s.a.y) s.b.y))=_;rw[Int.min_self,Int.min_self,Int.max_self,Int.max_self];rfl
  rw[e0];have hv:∀{M:Int},Geo.bQ s=true->4000<=M->bd M s.a/\bd M s.b:=fun h hM=>sI (by rw[h];rfl) hM
  refine⟨by simp,fun h=>⟨fun h2=>⟨(hv h (by decide)).1,(hv h (by decide)).2,aA6 (hv h (by decide)) h2,?_⟩,fun h2=>by unfold Geo.onS;rw[h2];simp⟩,fun h=>by unfold Geo.onS;rw[h];rfl⟩
  unfold Geo.onS;rw[h,h2];rfl)
def aHR:Tab:=cC [(218,aJu)] aHT
theorem aD7:aHR.Ok Tryz.prog:=aK aD9 ⟨aLO,trivial⟩
def aJt:Con:=con (a1 aV) (fun _=>[]) (fun p=> .agg [.int .i64 1,.int .i64 p.x,.int .i64 p.y,.int .i64 1,.int .i64 0,.int .i64 0,.int .i64 0,.int .i64 0]
 )
theorem aLN:aJt.Ok Tryz.prog 219:=aX (bK aD7) (raw:=bO) (fun _=>[]) (fun _=>⟨_,rfl⟩) fun p _=>bL (q:=(1:Int)=1/\(Geo.pT p).x=p.x/\(Geo.pT p).y=p.y/\(Geo.pT p).den=1/\(0:Int)=0/\(0:Int)=0/\(0:Int)=0/\(0:Int)=0) (by kernel_rfl) (by
 repeat' first|with_reducible apply And.intro|with_reducible intro
 all_goals repeat with_reducible cases‹_/\_›
 all_goals first|assumption|rfl|exact trivial|exact nb ‹_› |exact nb' ‹_› |omega|exact cQ (by omega)|(unfold ix;omega)|(unfold aJ;omega)|exact bC _|exact aE ‹_› ‹_› |(refine aE ‹_› ?_;simp_all;done)|grind)
def aHQ:Tab:=cC [(219,aJt)] aHR
theorem aD6:aHQ.Ok Tryz.prog:=aK aD7 ⟨aLN,trivial⟩
end
end Go.Proofs.YtdaeofhdgabhjaaGreat
namespace Go.Proofs.YtdaeofhdgabhjaaGreat
open Go.RowKit
set_option maxRecDepth 100000
noncomputable section
structure Com where
 k:Int
 p:Geo.Pt
 s:Geo.S
def aKN(c:Com):SV:= .agg [.int .i64 c.k,.int .i64 c.p.x,.int .i64 c.p.y,.int .i64 c.p.den,.int .i64 c.s.a.x,.int .i64 c.s.a.y,.int .i64 c.s.b.x,.int .i64 c.s.b.y]
def cz:Com:=⟨0,⟨0,0,0⟩,⟨⟨0,0⟩,⟨0,0⟩⟩⟩
def lA(s t:Geo.S)(d:Int):Int:=if d<0 then-Geo.cross (Geo.sub t.a s.a) (Geo.sub t.b t.a)else Geo.cross (Geo.sub t.a s.a) (Geo.sub t.b t.a)
def lB(s t:Geo.S)(d:Int):Int:=if d<0 then-Geo.cross (Geo.sub t.a s.a) (Geo.sub s.b s.a)else Geo.cross (Geo.sub t.a s.a) (Geo.sub s.b s.a)
def lE(d:Int):Int:=if d<0 then-d else d
def lX(s t:Geo.S)(d:Int):Int:=s.a.x*lE d+lA s t d*(Geo.sub s.b s.a).x
def lY(s t:Geo.S)(d:Int):Int:=s.a.y*lE d+lA s t d*(Geo.sub s.b s.a).y
def lG(s t:Geo.S)(d:Int):Int:=((Nat.gcd (Nat.gcd (lX s t d).natAbs (lY s t d).natAbs:Int).natAbs (lE d).natAbs:Nat):Int)
def bE(s t:Geo.S)(d:Int):Com:=if Geo.pV s t d=0 then cz else⟨Geo.pV s t d,⟨(lX s t d).tdiv (lG s t d),(lY s t d).tdiv (lG s t d),(lE d).tdiv (lG s t d)⟩,cz.s⟩
def jO(key:Nat)(obs:List (Nat×SOb)):Nat×Ann:=(key+10000,.mk Unit (fun _ _=>some ()) [] (fun _=>[]) (fun _=>[]) (fun _=>obs) (fun _=>0) (fun _=>[]))
def aM5(c:Com):List SV:=[.int .i64 c.k,.int .i64 c.p.x,.int .i64 c.p.y,.int .i64 c.p.den,.int .i64 c.s.a.x,.int .i64 c.s.a.y,.int .i64 c.s.b.x,.int .i64 c.s.b.y]
theorem lK{x g B:Int}(h: -B<=x/\x<=B): -B<=x.tdiv g/\x.tdiv g<=B:=by
 have:=Int.natAbs_tdiv_le_natAbs x g;omega
theorem aGS{n m B:Nat}(h1:n<=B)(h2:m<=B):Nat.gcd n m<=B:=by
 rcases Nat.eq_zero_or_pos n with e|e
 ·rw[e,Nat.gcd_zero_left];exact h2
 ·exact Nat.le_trans (Nat.gcd_le_left m e) h1
theorem vF{s t:Geo.S}{d:Int}(h:lA s t d<0\/lE d<lA s t d\/lB s t d<0\/lE d<lB s t d):bE s t d=cz:=if_pos (if_pos h)
theorem Fh{s t:Geo.S}{d:Int}(h1:¬lA s t d<0)(h2:¬lE d<lA s t d)(h3:¬lB s t d<0)(h4:¬lE d<lB s t d):Geo.pV s t d=if lA s t d=0\/lA s t d=lE d\/lB s t d=0\/lB s t d=lE d then 1 else 2:=if_neg (by simp only[not_or];exact⟨h1,h2,h3,h4⟩)
theorem Fj{s t:Geo.S}{d k:Int}(h:Geo.pV s t d=k)(hk:k≠0):bE s t d=⟨k,⟨(lX s t d).tdiv (lG s t d),(lY s t d).tdiv (lG s t d),(lE d).tdiv (lG s t d)⟩,cz.s⟩:=by
 unfold bE;rw[h,if_neg hk]
def aJv:Con:=con (ac aS (ac aS (a1 aI))) (fun(s,t,d)=>[Geo.bQ s=true,Geo.bQ t=true,d≠0,-200000000<=d/\d<=200000000]) (fun(s,t,d)=>aKN (bE s t d))
set_option maxHeartbeats 2000000 in
theorem aLP:aJv.Ok Tryz.prog 217:=aX (bK aD6) (raw:=bO) (fun(s,t,d)=>[jU 6 [(10,.int .i64 (lA s t d)),(11,.int .i64 (lB s t d)),(2,.int .i64 (lE d))],(9+10000,.mk Unit (fun _ _=>some ()) [] (fun _=>[¬lA s t d<0,¬lE d<lA s t d,¬lB s t d<0,¬lE d<lB s t d]) (fun _=>[(12,.int .i64 (lX s t d)),(13,.int .i64 (lY s t d))]) (fun _=>[]) (fun _=>0) (fun _=>[])),
  jU 10 [(14,.int .i64 (lG s t d))],jO 13 [(59,.box 175 (aM5 (bE s t d)))]]
  ) (fun(_,_,_)=>⟨_,rfl⟩) fun(s,t,d) hp=>bL (q:=bd 1000000000 s.b/\bd 1000000000 s.a/\bd 1000000000 t.b/\bd 1000000000 t.a/\bd 1000000000 t.a/\bd 1000000000 s.a/\bd 2000000000 (Geo.sub t.a s.a)/\bd 2000000000 (Geo.sub t.b t.a)/\bd 2000000000 (Geo.sub t.a s.a)/\bd 2000000000 (Geo.sub s.b s.a)/\((d<0->aJ (0-Geo.cross (Geo.sub t.a s.a) (Geo.sub t.b t.a))/\aJ (0-Geo.cross (Geo.sub t.a s.a) (Geo.sub s.b s.a))/\aJ (0-d)/\0-Geo.cross (Geo.sub t.a s.a) (Geo.sub t.b t.a)=lA s t d/\0-Geo.cross (Geo.sub t.a s.a) (Geo.sub s.b s.a)=lB s t d/\0-d=lE d)/\
  (¬d<0->Geo.cross (Geo.sub t.a s.a) (Geo.sub t.b t.a)=lA s t d/\Geo.cross (Geo.sub t.a s.a) (Geo.sub s.b s.a)=lB s t d/\d=lE d))/\
 (∀y:Unit,(lA s t d<0->0=(bE s t d).k/\0=(bE s t d).p.x/\0=(bE s t d).p.y/\0=(bE s t d).p.den/\0=(bE s t d).s.a.x/\0=(bE s t d).s.a.y/\0=(bE s t d).s.b.x/\0=(bE s t d).s.b.y)/\
  (¬lA s t d<0->(lE d<lA s t d->0=(bE s t d).k/\0=(bE s t d).p.x/\0=(bE s t d).p.y/\0=(bE s t d).p.den/\0=(bE s t d).s.a.x/\0=(bE s t d).s.a.y/\0=(bE s t d).s.b.x/\0=(bE s t d).s.b.y)/\
   (¬lE d<lA s t d->(lB s t d<0->0=(bE s t d).k/\0=(bE s t d).p.x/\0=(bE s t d).p.y/\0=(bE s t d).p.den/\0=(bE s t d).s.a.x/\0=(bE s t d).s.a.y/\0=(bE s t d).s.b.x/\0=(bE s t d).s.b.y)/\
    (¬lB s t d<0->(lE d<lB s t d->0=(bE s t d).k/\0=(bE s t d).p.x/\0=(bE s t d).p.y/\0=(bE s t d).p.den/\0=(bE s t d).s.a.x/\0=(bE s t d).s.a.y/\0=(bE s t d).s.b.x/\0=(bE s t d).s.b.y)/\
     (¬lE d<lB s t d->(aJ (s.a.x*lE d)/\aJ (lA s t d*(Geo.sub s.b s.a).x)/\aJ (s.a.x*lE d+lA s t d*(Geo.sub s.b s.a).x)/\aJ (s.a.y*lE d)/\aJ (lA s t d*(Geo.sub s.b s.a).y)/\aJ (s.a.y*lE d+lA s t d*(Geo.sub s.b s.a).y)/\s.a.x*lE d+lA s t d*(Geo.sub s.b s.a).x=lX s t d/\s.a.y*lE d+lA s t d*(Geo.sub s.b s.a).y=lY s t d/\¬lA s t d<0/\¬lE d<lA s t d/\¬lB s t d<0/\¬lE d<lB s t d)/\
      (∀y_1:Unit,¬lA s t d<0/\¬lE d<lA s t d/\¬lB s t d<0/\¬lE d<lB s t d->(-9000000000000000000<=lX s t d/\lX s t d<=9000000000000000000/\ -9000000000000000000<=lY s t d/\lY s t d<=9000000000000000000/\ -9000000000000000000<=(Nat.gcd (Int.natAbs (lX s t d)) (Int.natAbs (lY s t d)):Int)/\(Nat.gcd (Int.natAbs (lX s t d)) (Int.natAbs (lY s t d)):Int)<=9000000000000000000/\ -9000000000000000000<=lE d/\lE d<=9000000000000000000/\(Nat.gcd (Int.natAbs (Nat.gcd (Int.natAbs (lX s t d)) (Int.natAbs (lY s t d)):Int)) (Int.natAbs (lE d)):Int)=lG s t d)/\
       (∀y_2:Unit,lG s t d≠0/\aJ (Int.tdiv (lX s t d) (lG s t d))/\lG s t d≠0/\aJ (Int.tdiv (lY s t d) (lG s t d))/\lG s t d≠0/\aJ (Int.tdiv (lE d) (lG s t d))/\((lA s t d=0->1=(bE s t d).k/\Int.tdiv (lX s t d) (lG s t d)=(bE s t d).p.x/\Int.tdiv (lY s t d) (lG s t d)=(bE s t d).p.y/\Int.tdiv (lE d) (lG s t d)=(bE s t d).p.den/\0=(bE s t d).s.a.x/\0=(bE s t d).s.a.y/\0=(bE s t d).s.b.x/\0=(bE s t d).s.b.y)/\
         (¬lA s t d=0->(lA s t d=lE d->1=(bE s t d).k/\Int.tdiv (lX s t d) (lG s t d)=(bE s t d).p.x/\Int.tdiv (lY s t d) (lG s t d)=(bE s t d).p.y/\Int.tdiv (lE d) (lG s t d)=(bE s t d).p.den/\0=(bE s t d).s.a.x/\0=(bE s t d).s.a.y/\0=(bE s t d).s.b.x/\0=(bE s t d).s.b.y)/\
          (¬lA s t d=lE d->(lB s t d=0->1=(bE s t d).k/\Int.tdiv (lX s t d) (lG s t d)=(bE s t d).p.x/\Int.tdiv (lY s t d) (lG s t d)=(bE s t d).p.y/\Int.tdiv (lE d) (lG s t d)=(bE s t d).p.den/\0=(bE s t d).s.a.x/\0=(bE s t d).s.a.y/\0=(bE s t d).s.b.x/\0=(bE s t d).s.b.y)/\
           (¬lB s t d=0->(lB s t d=lE d->1=(bE s t d).k/\Int.tdiv (lX s t d) (lG s t d)=(bE s t d).p.x/\Int.tdiv (lY s t d) (lG s t d)=(bE s t d).p.y/\Int.tdiv (lE d) (lG s t d)=(bE s t d).p.den/\0=(bE s t d).s.a.x/\0=(bE s t d).s.a.y/\0=(bE s t d).s.b.x/\0=(bE s t d).s.b.y)/\
            (¬lB s t d=lE d->2=(bE s t d).k/\Int.tdiv (lX s t d) (lG s t d)=(bE s t d).p.x/\Int.tdiv (lY s t d) (lG s t d)=(bE s t d).p.y/\Int.tdiv (lE d) (lG s t d)=(bE s t d).p.den/\0=(bE s t d).s.a.x/\0=(bE s t d).s.a.y/\0=(bE s t d).s.b.x/\0=(bE s t d).s.b.y)))))/\
        (∀y_3:Unit,(bE s t d).k=(bE s t d).k/\(bE s t d).p.x=(bE s t d).p.x/\(bE s t d).p.y=(bE s t d).p.y/\(bE s t d).p.den=(bE s t d).p.den/\(bE s t d).s.a.x=(bE s t d).s.a.x/\(bE s t d).s.a.y=(bE s t d).s.a.y/\(bE s t d).s.b.x=(bE s t d).s.b.x/\(bE s t d).s.b.y=(bE s t d).s.b.y))))))))) (by kernel_rfl) (by
  change Geo.bQ s=true/\Geo.bQ t=true/\d≠0/\(-200000000<=d/\d<=200000000)at hp;obtain⟨hs,ht,h0,hd⟩:=hp;have bs:bd 4000 s.a/\bd 4000 s.b:=sI (by rw[hs];rfl)
  have bt:bd 4000 t.a/\bd 4000 t.b:=sI (by rw[ht];rfl)
  have u1:=gS bs.2 bs.1;have u2:=gS bt.2 bt.1;have u3:=gS bt.1 bs.1;have c1:=iW u3 u2;have c2:=iW u3 u1;have gM:∀{M:Int} {v:Geo.V},16000<=M->bd 4000 v->bd M v:=fun h1 h2=>by unfold bd at*;omega
  have gN:∀{M:Int} {v:Geo.V},16000<=M->bd (4000+4000) v->bd M v:=fun h1 h2=>by unfold bd at*;omega
  have a1: -128000000<=lA s t d/\lA s t d<=128000000:=by unfold lA Geo.cross;split<;>omega
  have e1: -200000000<=lE d/\lE d<=200000000:=by unfold lE;split<;>omega
  have e2:lE d≠0:=by unfold lE;split<;>omega
  have k1:aJ (0-Geo.cross (Geo.sub t.a s.a) (Geo.sub t.b t.a)):=cP (by unfold Geo.cross;omega)
  have k2:aJ (0-Geo.cross (Geo.sub t.a s.a) (Geo.sub s.b s.a)):=cP (by unfold Geo.cross;omega)
  have x1:=fR (A:=4000) (B:=200000000) bs.1.1 e1;have x2:=fR (A:=128000000) (B:=8000) a1 u1.1;have y1:=fR (A:=4000) (B:=200000000) bs.1.2 e1;have y2:=fR (A:=128000000) (B:=8000) a1 u1.2;have xB: -2000000000000<=lX s t d/\lX s t d<=2000000000000:=by unfold lX;omega
  have yB: -2000000000000<=lY s t d/\lY s t d<=2000000000000:=by unfold lY;omega
  have g1:Nat.gcd (lX s t d).natAbs (lY s t d).natAbs<=2000000000000:=aGS (by omega) (by omega)
  have g2:lG s t d≠0:=by
   unfold lG;have:=Nat.gcd_pos_of_pos_right (Nat.gcd (lX s t d).natAbs (lY s t d).natAbs:Int).natAbs (show 0<(lE d).natAbs by omega)
   omega
  have q1:=lK (g:=lG s t d) xB;have q2:=lK (g:=lG s t d) yB;have q3:=lK (g:=lG s t d) e1;have r1:aJ (s.a.x*lE d):=cP (by omega)
  have r2:aJ (lA s t d*(Geo.sub s.b s.a).x):=cP (by omega)
  have r3:aJ (s.a.x*lE d+lA s t d*(Geo.sub s.b s.a).x):=cP (by omega)
  have r4:aJ (s.a.y*lE d):=cP (by omega)
  have r5:aJ (lA s t d*(Geo.sub s.b s.a).y):=cP (by omega)
  have r6:aJ (s.a.y*lE d+lA s t d*(Geo.sub s.b s.a).y):=cP (by omega)
  have r7:aJ ((lX s t d).tdiv (lG s t d)):=cP (by omega)
  have r8:aJ ((lY s t d).tdiv (lG s t d)):=cP (by omega)
  have r9:aJ ((lE d).tdiv (lG s t d)):=cP (by omega)
  have r10:aJ (0-d):=cP (by omega)
  have f1:d<0->0-Geo.cross (Geo.sub t.a s.a) (Geo.sub t.b t.a)=lA s t d:=fun h=>by unfold lA;rw[if_pos h];omega
  have f2:d<0->0-Geo.cross (Geo.sub t.a s.a) (Geo.sub s.b s.a)=lB s t d:=fun h=>by unfold lB;rw[if_pos h];omega
  have f3:d<0->0-d=lE d:=fun h=>by unfold lE;rw[if_pos h];omega
  have f4:¬d<0->Geo.cross (Geo.sub t.a s.a) (Geo.sub t.b t.a)=lA s t d:=fun h=>by unfold lA;rw[if_neg h]
  have f5:¬d<0->Geo.cross (Geo.sub t.a s.a) (Geo.sub s.b s.a)=lB s t d:=fun h=>by unfold lB;rw[if_neg h]
  have f6:¬d<0->d=lE d:=fun h=>by unfold lE;rw[if_neg h]
  have n1:lA s t d<0->bE s t d=cz:=fun h=>vF (.inl h)
  have n2:lE d<lA s t d->bE s t d=cz:=fun h=>vF (.inr (.inl h))
  have n3:lB s t d<0->bE s t d=cz:=fun h=>vF (.inr (.inr (.inl h)))
  have n4:lE d<lB s t d->bE s t d=cz:=fun h=>vF (.inr (.inr (.inr h)))
  have t0:¬lA s t d<0->¬lE d<lA s t d->¬lB s t d<0->¬lE d<lB s t d->lA s t d=0\/lA s t d=lE d\/lB s t d=0\/lB s t d=lE d->bE s t d=⟨1,⟨(lX s t d).tdiv (lG s t d),(lY s t d).tdiv (lG s t d),(lE d).tdiv (lG s t d)⟩,cz.s⟩:=fun h1 h2 h3 h4 h=>Fj (by rw[Fh h1 h2 h3 h4,if_pos h]) (by decide)
  have t1:¬lA s t d<0->¬lE d<lA s t d->¬lB s t d<0->¬lE d<lB s t d->¬(lA s t d=0\/lA s t d=lE d\/lB s t d=0\/lB s t d=lE d)->bE s t d=⟨2,⟨(lX s t d).tdiv (lG s t d),(lY s t d).tdiv (lG s t d),(lE d).tdiv (lG s t d)⟩,cz.s⟩:=fun h1 h2 h3 h4 h=>Fj (by rw[Fh h1 h2 h3 h4,if_neg h]) (by decide)
  have b1:=gM (M:=1000000000) (by decide) bs.1
  have b2:=gM (M:=1000000000) (by decide) bs.2
  have b3:=gM (M:=1000000000) (by decide) bt.1
  have b4:=gM (M:=1000000000) (by decide) bt.2
  have b5:=gN (M:=2000000000) (by decide) u1
  have b6:=gN (M:=2000000000) (by decide) u2
  have b7:=gN (M:=2000000000) (by decide) u3
  have hX: -9000000000000000000<=lX s t d/\lX s t d<=9000000000000000000:=by omega
  have hY: -9000000000000000000<=lY s t d/\lY s t d<=9000000000000000000:=by omega
  have hE: -9000000000000000000<=lE d/\lE d<=9000000000000000000:=by omega
  have hG1: -9000000000000000000<=((Nat.gcd (lX s t d).natAbs (lY s t d).natAbs:Nat):Int):=by omega
  have hG2:((Nat.gcd (lX s t d).natAbs (lY s t d).natAbs:Nat):Int)<=9000000000000000000:=by omega
  clear hs ht h0 hd bs bt u1 u2 u3 c1 c2 gM gN a1 e1 e2 x1 x2 y1 y2 xB yB g1 q1 q2 q3;obtain⟨hX1,hX2⟩:=hX;obtain⟨hY1,hY2⟩:=hY;obtain⟨hE1,hE2⟩:=hE
  repeat' first|with_reducible apply And.intro|with_reducible intro
  all_goals repeat with_reducible cases‹_/\_›
  all_goals first|assumption|rfl|exact f1 ‹_› |exact f2 ‹_› |exact f3 ‹_› |exact f4 ‹_› |exact f5 ‹_› |exact f6 ‹_› |(rw[n1 ‹_›];rfl)|(rw[n2 ‹_›];rfl)|(rw[n3 ‹_›];rfl)|(rw[n4 ‹_›];rfl)|(rw[t0 ‹_› ‹_› ‹_› ‹_› (.inl ‹_›)] <;>rfl)|(rw[t0 ‹_› ‹_› ‹_› ‹_› (.inr (.inl ‹_›))] <;>rfl)|(rw[t0 ‹_› ‹_› ‹_› ‹_› (.inr (.inr (.inl ‹_›)))] <;>rfl)|(rw[t0 ‹_› ‹_› ‹_› ‹_› (.inr (.inr (.inr ‹_›)))] <;>rfl)|(rw[t1 ‹_› ‹_› ‹_› ‹_› (fun h=>h.elim ‹_› fun h=>h.elim ‹_› fun h=>h.elim ‹_› ‹_›)] <;>rfl))
def aHS:Tab:=cC [(217,aJv)] aHQ
theorem aD8:aHS.Ok Tryz.prog:=aK aD6 ⟨aLP,trivial⟩
def v2(v:Geo.V):List SV:=[.int .i64 v.x,.int .i64 v.y]
def Qs(v:Geo.V):Com:=⟨1,Geo.pT v,cz.s⟩
def rO(s t:Geo.S):Int:=Geo.cross (Geo.sub s.b s.a) (Geo.sub t.b t.a)
def sT(s t:Geo.S):Com:=
 if Geo.dW (Geo.cS s t) (Geo.cZ s t)=0 then Qs (Geo.cS s t)
 else if Geo.dW (Geo.cS s t) (Geo.cZ s t)= -1 then⟨3,⟨0,0,0⟩,⟨Geo.cS s t,Geo.cZ s t⟩⟩
 else cz
def mb1(s t:Geo.S):Bool:=decide (s.a=s.b)&&Geo.onS t s.a
def mb3(s t:Geo.S):Bool:=decide (s.a=s.b)||(decide (t.a=t.b)||decide (¬Geo.cT s.a s.b t.a=0))
def bY(s t:Geo.S):Com:=
 if(!Geo.bQ s)=true then cz
 else if(!Geo.bQ t)=true then cz
 else if¬rO s t=0 then bE s t (rO s t)
 else if mb1 s t=true then Qs s.a
 else if mb1 t s=true then Qs t.a
 else if mb3 s t=true then cz
 else sT s t
def aJE:Con:=con (ac aS (a1 aS)) (fun(_,_)=>[]) (fun(s,t)=>aKN (bY s t))
set_option maxHeartbeats 2000000 in
theorem aLY:aJE.Ok Tryz.prog 199:=aX (bK aD8) (raw:=bO) (fun(s,t)=>[jb 7 36 (mb1 s t),jb 9 51 (mb1 t s),jb 11 66 (mb3 s t),jP 12 [bY s t=sT s t],lU 14 3,jO 18 [(34,.box 189 (v2 (Geo.loS s)++v2 (Geo.hiS s)++v2 (Geo.loS t)++v2 (Geo.hiS t)))],jO 21 [(40,.box 44 (v2 (Geo.cS s t)))],jO 23 [(41,.box 44 (v2 (Geo.cZ s t)))]]
  ) (fun(_,_)=>⟨_,rfl⟩) fun(s,t) _=>bL (q:=((!Geo.bQ s)=true->0=(bY s t).k/\0=(bY s t).p.x/\0=(bY s t).p.y/\0=(bY s t).p.den/\0=(bY s t).s.a.x/\0=(bY s t).s.a.y/\0=(bY s t).s.b.x/\0=(bY s t).s.b.y)/\
 ((!Geo.bQ s)=false->((!Geo.bQ t)=true->0=(bY s t).k/\0=(bY s t).p.x/\0=(bY s t).p.y/\0=(bY s t).p.den/\0=(bY s t).s.a.x/\0=(bY s t).s.a.y/\0=(bY s t).s.b.x/\0=(bY s t).s.b.y)/\
  ((!Geo.bQ t)=false->bd 1000000000 s.b/\bd 1000000000 s.a/\bd 1000000000 t.b/\bd 1000000000 t.a/\bd 2000000000 (Geo.sub s.b s.a)/\bd 2000000000 (Geo.sub t.b t.a)/\(¬Geo.cross (Geo.sub s.b s.a) (Geo.sub t.b t.a)=0->Geo.bQ s=true/\Geo.bQ t=true/\Geo.cross (Geo.sub s.b s.a) (Geo.sub t.b t.a)≠0/\(-200000000<=Geo.cross (Geo.sub s.b s.a) (Geo.sub t.b t.a)/\Geo.cross (Geo.sub s.b s.a) (Geo.sub t.b t.a)<=200000000)/\(bE s t (Geo.cross (Geo.sub s.b s.a) (Geo.sub t.b t.a))).k=(bY s t).k/\(bE s t (Geo.cross (Geo.sub s.b s.a) (Geo.sub t.b t.a))).p.x=(bY s t).p.x/\(bE s t (Geo.cross (Geo.sub s.b s.a) (Geo.sub t.b t.a))).p.y=(bY s t).p.y/\(bE s t (Geo.cross (Geo.sub s.b s.a) (Geo.sub t.b t.a))).p.den=(bY s t).p.den/\(bE s t (Geo.cross (Geo.sub s.b s.a) (Geo.sub t.b t.a))).s.a.x=(bY s t).s.a.x/\(bE s t (Geo.cross (Geo.sub s.b s.a) (Geo.sub t.b t.a))).s.a.y=(bY s t).s.a.y/\(bE s t (Geo.cross (Geo.sub s.b s.a) (Geo.sub t.b t.a))).s.b.x=(bY s t).s.b.x/\(bE s t (Geo.cross (Geo.sub s.b s.a) (Geo.sub t.b t.a))).s.b.y=(bY s t).s.b.y)/\
   (¬(¬Geo.cross (Geo.sub s.b s.a) (Geo.sub t.b t.a)=0)->(((s.a=s.b->Geo.onS t s.a=mb1 s t)/\
      (¬s.a=s.b->false=mb1 s t))/\
     (∀y:Unit,(mb1 s t=true->1=(bY s t).k/\s.a.x=(bY s t).p.x/\s.a.y=(bY s t).p.y/\1=(bY s t).p.den/\0=(bY s t).s.a.x/\0=(bY s t).s.a.y/\0=(bY s t).s.b.x/\0=(bY s t).s.b.y)/\
      (mb1 s t=false->((t.a=t.b->Geo.onS s t.a=mb1 t s)/\
        (¬t.a=t.b->false=mb1 t s))/\
       (∀y_1:Unit,(mb1 t s=true->1=(bY s t).k/\t.a.x=(bY s t).p.x/\t.a.y=(bY s t).p.y/\1=(bY s t).p.den/\0=(bY s t).s.a.x/\0=(bY s t).s.a.y/\0=(bY s t).s.b.x/\0=(bY s t).s.b.y)/\
        (mb1 t s=false->((s.a=s.b->true=mb3 s t)/\
          (¬s.a=s.b->(t.a=t.b->true=mb3 s t)/\
           (¬t.a=t.b->bd 1000000000 s.a/\bd 1000000000 s.b/\bd 1000000000 t.a/\decide (¬Geo.cT s.a s.b t.a=0)=mb3 s t)))/\
         (∀y_2:Unit,(mb3 s t=true->0=(bY s t).k/\0=(bY s t).p.x/\0=(bY s t).p.y/\0=(bY s t).p.den/\0=(bY s t).s.a.x/\0=(bY s t).s.a.y/\0=(bY s t).s.b.x/\0=(bY s t).s.b.y)/\
          (mb3 s t=false->bY s t=sT s t)))))))/\
    (∀y:Unit,bY s t=sT s t->(((0:Int)<4->aJ (0+1)/\ix (0+1) 4/\ix 0 4/\(Geo.cH s.b s.a=true->aJ (0+1)/\aJ (0+1)/\ix (0+1) 4/\ix 0 4/\ix 0 4/\ix (0+1) 4/\aJ (0+2)/\((0+2:Int)<4->aJ (0+2+1)/\ix (0+2+1) 4/\ix (0+2) 4/\(Geo.cH t.b t.a=true->aJ (0+2+1)/\aJ (0+2+1)/\ix (0+2+1) 4/\ix (0+2) 4/\ix (0+2) 4/\ix (0+2+1) 4/\aJ (0+2+2)/\((0+2+2:Int)<4->aJ (0+2+2+1)/\ix (0+2+2+1) 4/\False)/\
          (¬(0+2+2:Int)<4->s.b.x=(Geo.loS s).x/\s.b.y=(Geo.loS s).y/\s.a.x=(Geo.hiS s).x/\s.a.y=(Geo.hiS s).y/\t.b.x=(Geo.loS t).x/\t.b.y=(Geo.loS t).y/\t.a.x=(Geo.hiS t).x/\t.a.y=(Geo.hiS t).y))/\
         (Geo.cH t.b t.a=false->aJ (0+2+2)/\((0+2+2:Int)<4->aJ (0+2+2+1)/\ix (0+2+2+1) 4/\False)/\
          (¬(0+2+2:Int)<4->s.b.x=(Geo.loS s).x/\s.b.y=(Geo.loS s).y/\s.a.x=(Geo.hiS s).x/\s.a.y=(Geo.hiS s).y/\t.a.x=(Geo.loS t).x/\t.a.y=(Geo.loS t).y/\t.b.x=(Geo.hiS t).x/\t.b.y=(Geo.hiS t).y)))/\
        (¬(0+2:Int)<4->s.b.x=(Geo.loS s).x/\s.b.y=(Geo.loS s).y/\s.a.x=(Geo.hiS s).x/\s.a.y=(Geo.hiS s).y/\t.a.x=(Geo.loS t).x/\t.a.y=(Geo.loS t).y/\t.b.x=(Geo.hiS t).x/\t.b.y=(Geo.hiS t).y))/\
       (Geo.cH s.b s.a=false->aJ (0+2)/\((0+2:Int)<4->aJ (0+2+1)/\ix (0+2+1) 4/\ix (0+2) 4/\(Geo.cH t.b t.a=true->aJ (0+2+1)/\aJ (0+2+1)/\ix (0+2+1) 4/\ix (0+2) 4/\ix (0+2) 4/\ix (0+2+1) 4/\aJ (0+2+2)/\((0+2+2:Int)<4->aJ (0+2+2+1)/\ix (0+2+2+1) 4/\False)/\
          (¬(0+2+2:Int)<4->s.a.x=(Geo.loS s).x/\s.a.y=(Geo.loS s).y/\s.b.x=(Geo.hiS s).x/\s.b.y=(Geo.hiS s).y/\t.b.x=(Geo.loS t).x/\t.b.y=(Geo.loS t).y/\t.a.x=(Geo.hiS t).x/\t.a.y=(Geo.hiS t).y))/\
         (Geo.cH t.b t.a=false->aJ (0+2+2)/\((0+2+2:Int)<4->aJ (0+2+2+1)/\ix (0+2+2+1) 4/\False)/\
          (¬(0+2+2:Int)<4->s.a.x=(Geo.loS s).x/\s.a.y=(Geo.loS s).y/\s.b.x=(Geo.hiS s).x/\s.b.y=(Geo.hiS s).y/\t.a.x=(Geo.loS t).x/\t.a.y=(Geo.loS t).y/\t.b.x=(Geo.hiS t).x/\t.b.y=(Geo.hiS t).y)))/\
        (¬(0+2:Int)<4->s.a.x=(Geo.loS s).x/\s.a.y=(Geo.loS s).y/\s.b.x=(Geo.hiS s).x/\s.b.y=(Geo.hiS s).y/\t.a.x=(Geo.loS t).x/\t.a.y=(Geo.loS t).y/\t.b.x=(Geo.hiS t).x/\t.b.y=(Geo.hiS t).y)))/\
      (¬(0:Int)<4->s.a.x=(Geo.loS s).x/\s.a.y=(Geo.loS s).y/\s.b.x=(Geo.hiS s).x/\s.b.y=(Geo.hiS s).y/\t.a.x=(Geo.loS t).x/\t.a.y=(Geo.loS t).y/\t.b.x=(Geo.hiS t).x/\t.b.y=(Geo.hiS t).y))/\
     (∀y_1:Unit,ix 0 4/\ix 1 4/\(ix 2 4/\(Geo.cH (Geo.loS s) (Geo.loS t)=true->ix 2 4/\(Geo.loS t).x=(Geo.cS s t).x/\(Geo.loS t).y=(Geo.cS s t).y)/\
       (Geo.cH (Geo.loS s) (Geo.loS t)=false->(Geo.loS s).x=(Geo.cS s t).x/\(Geo.loS s).y=(Geo.cS s t).y))/\
      (∀y_2:Unit,(ix 3 4/\(Geo.cH (Geo.hiS t) (Geo.hiS s)=true->ix 3 4/\(Geo.hiS t).x=(Geo.cZ s t).x/\(Geo.hiS t).y=(Geo.cZ s t).y)/\
        (Geo.cH (Geo.hiS t) (Geo.hiS s)=false->(Geo.hiS s).x=(Geo.cZ s t).x/\(Geo.hiS s).y=(Geo.cZ s t).y))/\
       (∀y_3:Unit,(Geo.dW (Geo.cS s t) (Geo.cZ s t)=0->1=(bY s t).k/\(Geo.cS s t).x=(bY s t).p.x/\(Geo.cS s t).y=(bY s t).p.y/\1=(bY s t).p.den/\0=(bY s t).s.a.x/\0=(bY s t).s.a.y/\0=(bY s t).s.b.x/\0=(bY s t).s.b.y)/\
        (¬Geo.dW (Geo.cS s t) (Geo.cZ s t)=0->(Geo.dW (Geo.cS s t) (Geo.cZ s t)= -1->3=(bY s t).k/\0=(bY s t).p.x/\0=(bY s t).p.y/\0=(bY s t).p.den/\(Geo.cS s t).x=(bY s t).s.a.x/\(Geo.cS s t).y=(bY s t).s.a.y/\(Geo.cZ s t).x=(bY s t).s.b.x/\(Geo.cZ s t).y=(bY s t).s.b.y)/\
         (¬Geo.dW (Geo.cS s t) (Geo.cZ s t)= -1->0=(bY s t).k/\0=(bY s t).p.x/\0=(bY s t).p.y/\0=(bY s t).p.den/\0=(bY s t).s.a.x/\0=(bY s t).s.a.y/\0=(bY s t).s.b.x/\0=(bY s t).s.b.y)))))))))) (by kernel_rfl) (by
  have gB:(!Geo.bQ s)=false->(!Geo.bQ t)=false-> -200000000<=rO s t/\rO s t<=200000000:=fun h1 h2=>by
   have bs:bd 4000 s.a/\bd 4000 s.b:=sI h1;have bt:bd 4000 t.a/\bd 4000 t.b:=sI h2;have c1:=iW (gS bs.2 bs.1) (gS bt.2 bt.1);unfold rO Geo.cross;omega
  have gM:∀{r:Geo.S} {M:Int},8000<=M->(!Geo.bQ r)=false->bd M r.a/\bd M r.b/\bd M (Geo.sub r.b r.a):=fun hM h=>by
   have b:=sI h (M:=4000);have c:=gS b.2 b.1;unfold bd at*;omega
  have e1:(!Geo.bQ s)=true->bY s t=cz:=fun h=>if_pos h
  have e2:(!Geo.bQ t)=true->bY s t=cz:=fun h=>by unfold bY;rw[h];split<;>rfl
  have e3:(!Geo.bQ s)=false->(!Geo.bQ t)=false->¬rO s t=0->bY s t=bE s t (rO s t):=fun h1 h2 h3=>by unfold bY;rw[h1,h2];exact if_pos h3
  have e4:(!Geo.bQ s)=false->(!Geo.bQ t)=false->¬¬rO s t=0->mb1 s t=true->bY s t=Qs s.a:=fun h1 h2 h3 h4=>by unfold bY;rw[h1,h2,if_neg h3,h4];rfl
  have e5:(!Geo.bQ s)=false->(!Geo.bQ t)=false->¬¬rO s t=0->mb1 s t=false->mb1 t s=true->bY s t=Qs t.a:=fun h1 h2 h3 h4 h5=>by unfold bY;rw[h1,h2,if_neg h3,h4,h5];rfl
  have e6:(!Geo.bQ s)=false->(!Geo.bQ t)=false->¬¬rO s t=0->mb1 s t=false->mb1 t s=false->mb3 s t=true->bY s t=cz:=fun h1 h2 h3 h4 h5 h6=>by unfold bY;rw[h1,h2,if_neg h3,h4,h5,h6];rfl
  have e7:(!Geo.bQ s)=false->(!Geo.bQ t)=false->¬¬rO s t=0->mb1 s t=false->mb1 t s=false->mb3 s t=false->bY s t=sT s t:=fun h1 h2 h3 h4 h5 h6=>by unfold bY;rw[h1,h2,if_neg h3,h4,h5,h6];rfl
  have e8:bY s t=sT s t->Geo.dW (Geo.cS s t) (Geo.cZ s t)=0->bY s t=Qs (Geo.cS s t):=fun h h1=>by rw[h];exact if_pos h1
  have e9:bY s t=sT s t->¬Geo.dW (Geo.cS s t) (Geo.cZ s t)=0->Geo.dW (Geo.cS s t) (Geo.cZ s t)= -1->bY s t=⟨3,⟨0,0,0⟩,⟨Geo.cS s t,Geo.cZ s t⟩⟩:=fun h h1 h2=>by rw[h];unfold sT;rw[if_neg h1,if_pos h2]
  have e10:bY s t=sT s t->¬Geo.dW (Geo.cS s t) (Geo.cZ s t)=0->¬Geo.dW (Geo.cS s t) (Geo.cZ s t)= -1->bY s t=cz:=fun h h1 h2=>by rw[h];unfold sT;rw[if_neg h1,if_neg h2]
  have q1:s.a=s.b->true=mb3 s t:=fun h=>by unfold mb3;rw[decide_eq_true h];rfl
  have q2:t.a=t.b->true=mb3 s t:=fun h=>by unfold mb3;rw[decide_eq_true h];simp
  have q3:¬s.a=s.b->¬t.a=t.b->decide (¬Geo.cT s.a s.b t.a=0)=mb3 s t:=fun h1 h2=>by unfold mb3;rw[decide_eq_false h1,decide_eq_false h2];simp
  have q4:∀{s t:Geo.S},s.a=s.b->Geo.onS t s.a=mb1 s t:=fun h=>by unfold mb1;rw[decide_eq_true h];rfl
  have q5:∀{s t:Geo.S},¬s.a=s.b->false=mb1 s t:=fun h=>by unfold mb1;rw[decide_eq_false h];rfl
  have w1:∀{r:Geo.S},Geo.cH r.b r.a=true->r.b=Geo.loS r/\r.a=Geo.hiS r:=fun h=>by unfold Geo.loS Geo.hiS;rw[h];exact⟨rfl,rfl⟩
  have w2:∀{r:Geo.S},Geo.cH r.b r.a=false->r.a=Geo.loS r/\r.b=Geo.hiS r:=fun h=>by unfold Geo.loS Geo.hiS;rw[h];exact⟨rfl,rfl⟩
  have w3:Geo.cH (Geo.loS s) (Geo.loS t)=true->Geo.loS t=Geo.cS s t:=fun h=>by unfold Geo.cS;rw[h];rfl
  have w4:Geo.cH (Geo.loS s) (Geo.loS t)=false->Geo.loS s=Geo.cS s t:=fun h=>by unfold Geo.cS;rw[h];rfl
  have w5:Geo.cH (Geo.hiS t) (Geo.hiS s)=true->Geo.hiS t=Geo.cZ s t:=fun h=>by unfold Geo.cZ;rw[h];rfl
  have w6:Geo.cH (Geo.hiS t) (Geo.hiS s)=false->Geo.hiS s=Geo.cZ s t:=fun h=>by unfold Geo.cZ;rw[h];rfl
  repeat' first|with_reducible apply And.intro|with_reducible intro
  all_goals repeat with_reducible cases‹_/\_›
  all_goals first|assumption|rfl|(unfold ix;omega)|(unfold aJ;omega)|omega|exact nb ‹_› |exact q1 ‹_› |exact q2 ‹_› |exact q3 ‹_› ‹_› |exact q4 ‹_› |exact q5 ‹_› |(rw[e1 ‹_›] <;>rfl)|(rw[e2 ‹_›] <;>rfl)|(rw[e3 ‹_› ‹_› ‹_›] <;>rfl)|(rw[e4 ‹_› ‹_› ‹_› ‹_›] <;>rfl)|(rw[e5 ‹_› ‹_› ‹_› ‹_› ‹_›] <;>rfl)|(rw[e6 ‹_› ‹_› ‹_› ‹_› ‹_› ‹_›] <;>rfl)|exact e7 ‹_› ‹_› ‹_› ‹_› ‹_› ‹_› |(rw[e8 ‹_› ‹_›] <;>rfl)|(rw[e9 ‹_› ‹_› ‹_›] <;>rfl)|(rw[e10 ‹_› ‹_› ‹_›] <;>rfl)|exact(gB ‹_› ‹_›).1|exact(gB ‹_› ‹_›).2|exact(gM (by decide) ‹_›).1|exact(gM (by decide) ‹_›).2.1|exact(gM (by decide) ‹_›).2.2|(rw[<-(w1 ‹_›).1];done)|(rw[<-(w1 ‹_›).2];done)|(rw[<-(w2 ‹_›).1];done)|(rw[<-(w2 ‹_›).2];done)|(rw[w3 ‹_›];done)|(rw[w4 ‹_›];done)|(rw[w5 ‹_›];done)|(rw[w6 ‹_›];done))
def aH0:Tab:=cC [(199,aJE)] aHS
theorem aEg:aH0.Ok Tryz.prog:=aK aD8 ⟨aLY,trivial⟩
theorem aB1(s t:Geo.S)(d:Int):(bE s t d).k=Geo.pV s t d:=by
 unfold bE;split
 ·rename_i h;rw[h];rfl
 ·rfl
theorem aDq(s t:Geo.S):(bY s t).k=Geo.dQ s t:=by
 have hc:(cz).k=0:=rfl;have h1:∀v,(Qs v).k=1:=fun _=>rfl
 have e1:mb1 s t=true↔s.a=s.b/\Geo.onS t s.a=true:=by unfold mb1;simp
 have e2:mb1 t s=true↔t.a=t.b/\Geo.onS s t.a=true:=by unfold mb1;simp
 have e3:mb3 s t=true↔s.a=s.b\/t.a=t.b\/Geo.cT s.a s.b t.a≠0:=by unfold mb3;simp
 unfold bY Geo.dQ sT;rw[<-rO];simp only[<-e1,<-e2,<-e3];cases Geo.bQ s<;>cases Geo.bQ t<;>simp only[Bool.not_true,Bool.not_false,Bool.and_true,Bool.and_false,if_true,Bool.false_eq_true,if_false,hc,ne_eq]
 repeat' split
 all_goals first|rfl|exact aB1 _ _ _
def aJ5:Con:=con (ac aS (a1 aS)) (fun(_,_)=>[]) (fun(s,t)=> .int .i64 (Geo.dQ s t)
 )
theorem aMp:aJ5.Ok Tryz.prog 156:=aX (bK aEg) (raw:=bO) (fun(_,_)=>[]) (fun(_,_)=>⟨_,rfl⟩) fun(s,t) _=>bL (q:=(bY s t).k=Geo.dQ s t) (by kernel_rfl) (by
 exact aDq s t)
def aIt:Tab:=cC [(156,aJ5)] aH0
theorem aEI:aIt.Ok Tryz.prog:=aK aEg ⟨aMp,trivial⟩
end
end Go.Proofs.YtdaeofhdgabhjaaGreat
namespace Go.Proofs.YtdaeofhdgabhjaaGreat
open Go.RowKit
set_option maxRecDepth 100000
noncomputable section
open Geo (nth)
def aJ7:Con:=con (ac (aL .V) (a1 aN)) (fun(r,i)=>[i<r.length,r.length<=1000000]) (fun(r,i)=>aV.enc (Geo.prv r i)
 )
theorem aMr:aJ7.Ok Tryz.prog 153:=aX (bK aEI) (raw:=bO) (fun(_,_)=>[]) (fun(_,_)=>⟨_,rfl⟩) fun(r,i) hp=>bL (q:=aJ ((i:Int)+r.length)/\aJ ((i:Int)+r.length-1)/\(r.length:Int)≠0/\ix (Int.tmod ((i:Int)+r.length-1) (r.length:Int)) r.length/\(nth r (Int.tmod ((i:Int)+r.length-1) (r.length:Int)).toNat).x=(Geo.prv r i).x/\(nth r (Int.tmod ((i:Int)+r.length-1) (r.length:Int)).toNat).y=(Geo.prv r i).y) (by kernel_rfl) (by
 change i<r.length/\r.length<=1000000 at hp;have h:Int.tmod ((i:Int)+r.length-1) (r.length:Int)=(((i+r.length-1) % r.length:Nat):Int):=by
  rw[show(i:Int)+r.length-1=((i+r.length-1:Nat):Int) by omega,<-Int.ofNat_tmod]
 rw[h];exact⟨cP (by omega),cP (by omega),by omega,cQ (by omega),rfl,rfl⟩)
def aIw:Tab:=cC [(153,aJ7)] aIt
theorem aEL:aIw.Ok Tryz.prog:=aK aEI ⟨aMr,trivial⟩
def aJ6:Con:=con (ac (aL .V) (a1 aN)) (fun(r,i)=>[i<r.length,r.length<=1000000]) (fun(r,i)=>aV.enc (Geo.nxt r i)
 )
theorem aMq:aJ6.Ok Tryz.prog 154:=aX (bK aEL) (raw:=bO) (fun(_,_)=>[]) (fun(_,_)=>⟨_,rfl⟩) fun(r,i) hp=>bL (q:=aJ ((i:Int)+1)/\(r.length:Int)≠0/\ix (((i+1) % r.length:Nat):Int) r.length/\(nth r ((i+1) % r.length)).x=(Geo.nxt r i).x/\(nth r ((i+1) % r.length)).y=(Geo.nxt r i).y) (by kernel_rfl) (by
 change i<r.length/\r.length<=1000000 at hp;exact⟨cP (by omega),by omega,cQ (by omega),rfl,rfl⟩)
def aIv:Tab:=cC [(154,aJ6)] aIw
theorem aEK:aIv.Ok Tryz.prog:=aK aEL ⟨aMq,trivial⟩
def aGi:Con:=aGh (a1 (aL .V)) (fun r=>[r.length<=1000]) 46 .S (fun r=>Geo.aD r) (fun _=>[])
theorem aJg:aGi.Ok Tryz.prog 155:=Ws (bK aEK) (raw:=bO) (fun r=>[lp 5 11 r.length (fun _=>[]) [21] (fun k=>[(3,.own 21 .S k)]) (fun k=>[(21,.row 46 .S ((Geo.aD r).take k))])]
  ) (fun _=>⟨[],rfl⟩) fun r hp=>bL (q:=((r.length:Int)<2->Geo.aD r=([] :List Geo.S))/\
 (¬(r.length:Int)<2->(0=(0:Int)/\(0:Nat)=0/\List.take 0 (Geo.aD r)=([] :List Geo.S)/\(0:Nat)<=r.length)/\
  (∀x:Nat,x<=r.length->((x:Int)<r.length->ix (x:Int) r.length/\x<r.length/\r.length<=1000000/\x=(List.take x (Geo.aD r)).length/\(List.take x (Geo.aD r)).length+[(⟨(nth r x),(Geo.nxt r x)⟩:Geo.S)].length<=1000000/\aJ ((x:Int)+1)/\(x:Int)+1=((x+1:Nat):Int)/\(List.take x (Geo.aD r)++[(⟨(nth r x),(Geo.nxt r x)⟩:Geo.S)]).length=x+1/\List.take x (Geo.aD r)++[(⟨(nth r x),(Geo.nxt r x)⟩:Geo.S)] =List.take (x+1) (Geo.aD r)/\x+1<=r.length/\r.length-(x+1)<r.length-x)/\
   (¬(x:Int)<r.length->List.take x (Geo.aD r)=Geo.aD r/\x=(List.take x (Geo.aD r)).length)))) (by kernel_rfl) (by
  change r.length<=1000 at hp;have e0:(r.length:Int)<2->Geo.aD r=[] :=fun h=>by unfold Geo.aD;rw[if_pos (by omega)]
  have e1:¬(r.length:Int)<2->(Geo.aD r).length=r.length:=fun h=>lM r (by omega)
  have e2:¬(r.length:Int)<2->∀x:Nat,(x:Int)<r.length->List.take x (Geo.aD r)++[⟨nth r x,Geo.nxt r x⟩] =List.take (x+1) (Geo.aD r):=fun h x hx=>by
   have hx':x<(Geo.aD r).length:=by rw[e1 h];omega
   rw[List.take_succ_eq_append_getElem hx',<-gP hx',oR (by omega) (by omega)];rfl
  have e3:¬(r.length:Int)<2->∀x:Nat,x<=r.length->(List.take x (Geo.aD r)).length=x:=fun h x hx=>by
   rw[List.length_take,e1 h];omega
  have e4:¬(r.length:Int)<2->∀x:Nat,¬(x:Int)<r.length->List.take x (Geo.aD r)=Geo.aD r:=fun h x hx=>List.take_of_length_le (by rw[e1 h];omega)
  repeat' first|with_reducible apply And.intro|with_reducible intro
  all_goals repeat with_reducible cases‹_/\_›
  all_goals first|assumption|rfl|exact trivial|exact nb ‹_› |exact nb' ‹_› |omega|exact cQ (by omega)|(unfold ix;omega)|(unfold aJ;omega)|exact bC _|exact aE ‹_› ‹_› |(refine aE ‹_› ?_;simp_all;done)|exact e0 ‹_› |exact e2 ‹_› _ ‹_› |exact e4 ‹_› _ ‹_› |exact(e3 ‹_› _ ‹_›).symm|(rw[List.length_append,e3 ‹_› _ ‹_›];simp;done)|(rw[e3 ‹_› _ ‹_›];simp;omega)|grind)
def aIu:Tab:=cC [(155,aGi)] aIv
theorem aEJ:aIu.Ok Tryz.prog:=aK aEK ⟨aJg,trivial⟩
def aJ8:Con:=con (a1 (aL .V)) (fun r=>[Geo.near r=true,r.length<=100000]) (fun r=> .int .i64 (Geo.dX r))
theorem aMs:aJ8.Ok Tryz.prog 152:=aX (bK aEJ) (raw:=bO) (fun r=>[lp 3 8 r.length (fun _=>[]) [] (fun k=>[(3,.int .i64 (ar r k))]) (fun _=>[])]
  ) (fun _=>⟨_,rfl⟩) fun r hp=>bL (q:=(0=(0:Int)/\0=ar r 0/\(0:Nat)<=r.length)/\
 (∀x:Nat,x<=r.length->((x:Int)<r.length->ix (x:Int) r.length/\x<r.length/\r.length<=1000000/\bd 2000000000 (nth r x)/\bd 2000000000 (Geo.nxt r x)/\aJ (ar r x+Geo.cross (nth r x) (Geo.nxt r x))/\aJ ((x:Int)+1)/\(x:Int)+1=((x+1:Nat):Int)/\ar r x+Geo.cross (nth r x) (Geo.nxt r x)=ar r (x+1)/\x+1<=r.length/\r.length-(x+1)<r.length-x)/\
  (¬(x:Int)<r.length->ar r x=Geo.dX r))) (by kernel_rfl) (by
  change Geo.near r=true/\r.length<=100000 at hp;have hn:=fun i hi=> @lH r hp.1 i hi 2000000000
  have ha:=fun k (hk:k<=r.length)=>Cw hp.1 k hk
  have hs:=Cj r;have hE:∀x:Nat,¬(x:Int)<r.length->x<=r.length->ar r x=Geo.dX r:=fun x h1 h2=>by rw[show x=r.length by omega];rfl
  have hI:∀x:Nat,(x:Int)<r.length->aJ (ar r x+Geo.cross (nth r x) (Geo.nxt r x)):=fun x h=>by
   have h1:=ha (x+1) (by omega)
   rw[hs x]at h1;exact cP (by unfold Geo.nxt;omega)
  repeat' first|with_reducible apply And.intro|with_reducible intro
  all_goals repeat with_reducible cases‹_/\_›
  all_goals first|assumption|rfl|exact trivial|exact nb ‹_› |exact nb' ‹_› |omega|exact cQ (by omega)|(unfold ix;omega)|(unfold aJ;omega)|exact bC _|exact aE ‹_› ‹_› |(refine aE ‹_› ?_;simp_all;done)|exact hn _ (by omega) (by decide)|exact hn _ (Nat.mod_lt _ (by omega)) (by decide)|exact hI _ ‹_› |exact hE _ ‹_› ‹_› |exact(hs _).symm|grind)
def aIx:Tab:=cC [(152,aJ8)] aIu
theorem aEM:aIx.Ok Tryz.prog:=aK aEJ ⟨aMs,trivial⟩
def aJF:Con:=con (a1 aV) (fun _=>[]) (fun v=> .bool (!Geo.bG v 2000)
 )
theorem aLZ:aJF.Ok Tryz.prog 198:=aX (bK aEM) (raw:=bO) (fun _=>[]) (fun _=>⟨_,rfl⟩) fun v _=>bL (q:=(0:Int)<=2000/\(2000:Int)<=9000000000000000000/\(!Geo.bG v 2000)=(!Geo.bG v 2000)) (by kernel_rfl) (by
 exact⟨by decide,by decide,rfl⟩)
def aH1:Tab:=cC [(198,aJF)] aIx
theorem aEh:aH1.Ok Tryz.prog:=aK aEM ⟨aLZ,trivial⟩
def aF(f:Nat):Ar Unit where
 enc _:= .fnp f [] []
 dec s:=match s with
  | .fnp g [] [] =>(match Nat.beq g f with|true=>some ()|false=>none)
  |_=>none
 ok s a h:=by
  split at h
  ·split at h<;>cases h;rename_i e;rw[Nat.eq_of_beq_eq_true e]
  ·cases h
 pl _:=⟨_,rfl⟩
def fI{α:Type}(q:α->Bool)(l:List α):Int:=match l.findIdx? q with
 |some i=>(i:Int)
 |none=> -1
theorem xJ{t:LT}{l:List t.ty}{q:t.ty->Bool}{k:Nat}(hk:k<l.length)(h:q (t.nth l k)=true)(hu:aU (fun j=>q (t.nth l j)=false) k):(k:Int)=fI q l:=by
 have e:l.findIdx? q=some k:=by
  rw[List.findIdx?_eq_some_iff_getElem];refine⟨hk,by rw[<-t.nth_eq l hk];exact h,fun j hj=> ?_⟩
  have:=hu j hj;dsimp only at this;rw[t.nth_eq l (by omega)]at this
  rw[this];simp
 unfold fI;rw[e]
theorem wJ{t:LT}{l:List t.ty}{q:t.ty->Bool}(hu:aU (fun j=>q (t.nth l j)=false) l.length): -1=fI q l:=by
 have e:l.findIdx? q=none:=by
  rw[List.findIdx?_eq_none_iff];intro x hx;obtain⟨j,hj,rfl⟩:=List.getElem_of_mem hx;have:=hu j hj;dsimp only at this;rwa[t.nth_eq l hj]at this
 unfold fI;rw[e]
theorem zA{α:Type}(q:α->Bool)(l:List α):decide (0<=fI q l)=l.any q:=by
 unfold fI;cases e:l.findIdx? q with
 |none=>
  rw[List.findIdx?_eq_none_iff]at e;symm;show l.any q=decide ((0:Int)<= -1);rw[List.any_eq_false.2 (fun x hx=>by rw[e x hx];simp)];rfl
 |some i=>
  obtain⟨h1,h2,_⟩:=List.findIdx?_eq_some_iff_getElem.1 e;show decide (0<=(i:Int))=_;rw[decide_eq_true (by omega),List.any_eq_true.2 ⟨_,List.getElem_mem h1,h2⟩]
def aJx:Con:=con (ac (aL .V) (a1 (aF 198))) (fun(l,_)=>[l.length<=1000000]) (fun(l,_)=> .int .i64 (fI (fun v=> !Geo.bG v 2000) l))
theorem aLR:aJx.Ok Tryz.prog 215:=aX (bK aEh) (raw:=bO) (fun(l,_)=>[cnt 2 8 l.length (aU fun j=>(!Geo.bG (nth l j) 2000)=false)]
  ) (fun(_,_)=>⟨_,rfl⟩) fun(l,u) hp=>bL (q:=(0=(0:Int)/\(0:Nat)<=l.length/\aU (fun j=>(!Geo.bG (nth l j) 2000)=false) 0)/\
 (∀x:Nat,x<=l.length/\aU (fun j=>(!Geo.bG (nth l j) 2000)=false) x->((x:Int)<l.length->ix (x:Int) l.length/\((!Geo.bG (nth l x) 2000)=true->(x:Int)=fI (fun v=>(!Geo.bG v 2000)) l)/\
   ((!Geo.bG (nth l x) 2000)=false->aJ ((x:Int)+1)/\(x:Int)+1=((x+1:Nat):Int)/\x+1<=l.length/\aU (fun j=>(!Geo.bG (nth l j) 2000)=false) (x+1)/\l.length-(x+1)<l.length-x))/\
  (¬(x:Int)<l.length-> -1=fI (fun v=>(!Geo.bG v 2000)) l))) (by kernel_rfl) (by
  change l.length<=1000000 at hp
  repeat' first|with_reducible apply And.intro|with_reducible intro
  all_goals repeat with_reducible cases‹_/\_›
  all_goals first|assumption|rfl|exact trivial|exact nb ‹_› |exact nb' ‹_› |omega|exact cQ (by omega)|(unfold ix;omega)|(unfold aJ;omega)|exact bC _|exact aE ‹_› ‹_› |(refine aE ‹_› ?_;simp_all;done)|exact xJ (t:= .V) (by omega) ‹_› ‹_› |(obtain rfl:_=l.length:=Nat.le_antisymm ‹_› (by omega);exact wJ (t:= .V) ‹_›)|grind)
def aHU:Tab:=cC [(215,aJx)] aH1
theorem aEa:aHU.Ok Tryz.prog:=aK aEh ⟨aLR,trivial⟩
def aJG:Con:=con (ac (aL .V) (a1 (aF 198))) (fun(l,_)=>[l.length<=1000000]) (fun(l,_)=> .bool (l.any fun v=> !Geo.bG v 2000)
 )
theorem aL0:aJG.Ok Tryz.prog 197:=aX (bK aEa) (raw:=bO) (fun(_,_)=>[]) (fun(_,_)=>⟨_,rfl⟩) fun(l,u) hp=>bL (q:=l.length<=1000000/\decide (0<=fI (fun v=>(!Geo.bG v 2000)) l)=List.any l (fun v=>(!Geo.bG v 2000))) (by kernel_rfl) (by
 change l.length<=1000000 at hp;exact⟨hp,zA _ _⟩)
def aH2:Tab:=cC [(197,aJG)] aHU
theorem aEi:aH2.Ok Tryz.prog:=aK aEa ⟨aL0,trivial⟩
def aJ9:Con:=con (a1 (aL .V)) (fun l=>[l.length<=1000000]) (fun l=> .bool (Geo.near l)
 )
theorem aMt:aJ9.Ok Tryz.prog 151:=aX (bK aEi) (raw:=bO) (fun _=>[]) (fun _=>⟨_,rfl⟩) fun l hp=>bL (q:=l.length<=1000000/\(!List.any l (fun v=>(!Geo.bG v 2000)))=Geo.near l) (by kernel_rfl) (by
 change l.length<=1000000 at hp;refine⟨hp,?_⟩;unfold Geo.near;rw[List.any_eq_not_all_not];simp)
def aIy:Tab:=cC [(151,aJ9)] aH2
theorem aEN:aIy.Ok Tryz.prog:=aK aEi ⟨aMt,trivial⟩
def tP(r:Geo.aM)(i:Nat):Prop:=¬Geo.cT (Geo.prv r i) (nth r i) (Geo.nxt r i)=0
def gJ(r:Geo.aM)(i k:Nat):Bool:=(decide (¬(k:Int)=i+1)&&(decide (¬(i:Int)=0)||decide (¬(k:Int)=r.length-1)))&&decide (¬Geo.dQ (Geo.dL r i) (Geo.dL r k)=0)
theorem up2{p:Nat->Nat->Prop}{i k n:Nat}(h:∀j,i<j->j<k->p i j)(hk:¬(k:Int)<n):∀j,i<j->j<n->p i j:=fun j h1 h2=>h j h1 (by omega)
theorem tR(r:Geo.aM):Geo.cO r=true↔3<=r.length/\r.length<=40/\Geo.near r=true/\0<Geo.dX r/\(∀i,i<r.length->tP r i)/\(∀i k,i<k->k<r.length->gJ r i k=false):=by
 unfold Geo.cO tP gJ;simp only[Bool.and_eq_true,decide_eq_true_eq,List.all_eq_true,List.mem_range,Bool.or_eq_true,bne_iff_ne,beq_iff_eq,Bool.and_eq_false_imp,decide_eq_false_iff_not,ne_eq,and_assoc,Decidable.not_not];constructor
 ·rintro⟨h1,h2,h3,h4,h5,h6⟩;refine⟨h1,h2,h3,h4,h5,fun i k hi hk h=> ?_⟩
  rcases h6 i (by omega) k hk with(h7|h7)|h7
  ·rcases h7 with h7|h7<;>omega
  ·omega
  ·exact h7
 ·rintro⟨h1,h2,h3,h4,h5,h6⟩;refine⟨h1,h2,h3,h4,h5,fun i hi k hk=> ?_⟩
  by_cases h7:k<=i
  ·exact .inl (.inl (.inl h7))
  ·by_cases h8:k=i+1
   ·exact .inl (.inl (.inr h8))
   ·by_cases h9:i=0/\k=r.length-1
    ·exact .inl (.inr h9)
    ·exact .inr (h6 i k (by omega) hk ⟨by omega,by omega⟩)
def c83:Con:=con (a1 (aL .V)) (fun r=>[r.length<=1000]) (fun r=> .bool (Geo.cO r))
theorem k83:c83.Ok Tryz.prog 83:=aX (bK aEN) (raw:=bO) (fun r=>[jP 4 [3<=r.length,r.length<=40,Geo.near r=true,0<Geo.dX r],cnt 5 29 r.length (aU (tP r)),lp 12 47 r.length (fun i=>[aU (fun i=>∀k,i<k->k<r.length->gJ r i k=false) i]) [] (fun _=>[]) (fun _=>[]) fun i=>[(15,.mk Nat (fun F _=>sQ F 8) [] (fun k=>[i<k,k<=r.length,∀j,i<j->j<k->gJ r i j=false]) (fun k=>[(8,.int .i64 (k:Int))]) (fun _=>[]) (fun k=>r.length-k) fun k=>[jb 18 82 (gJ r i k)])]]
  ) (fun _=>⟨_,rfl⟩) fun r hp=>bL (q:=(((r.length:Int)<3->false=Geo.cO r)/\
  (¬(r.length:Int)<3->(40<(r.length:Int)->false=Geo.cO r)/\
   (¬40<(r.length:Int)->r.length<=1000000/\((!Geo.near r)=true->false=Geo.cO r)/\
    ((!Geo.near r)=false->Geo.near r=true/\r.length<=100000/\(Geo.dX r<=0->false=Geo.cO r)/\
     (¬Geo.dX r<=0->(3:Nat)<=r.length/\r.length<=40/\Geo.near r=true/\0<Geo.dX r)))))/\
 (∀y:Unit,(3:Nat)<=r.length/\r.length<=40/\Geo.near r=true/\0<Geo.dX r->(0=(0:Int)/\(0:Nat)<=r.length/\aU (tP r) 0)/\
  (∀x:Nat,x<=r.length/\aU (tP r) x->((x:Int)<r.length->ix (x:Int) r.length/\x<r.length/\r.length<=1000000/\x<r.length/\r.length<=1000000/\bd 1000000000 (Geo.prv r x)/\bd 1000000000 (nth r x)/\bd 1000000000 (Geo.nxt r x)/\(Geo.cT (Geo.prv r x) (nth r x) (Geo.nxt r x)=0->false=Geo.cO r)/\
    (¬Geo.cT (Geo.prv r x) (nth r x) (Geo.nxt r x)=0->aJ ((x:Int)+1)/\(x:Int)+1=((x+1:Nat):Int)/\x+1<=r.length/\aU (tP r) (x+1)/\r.length-(x+1)<r.length-x))/\
   (¬(x:Int)<r.length->r.length<=1000/\(0=(0:Int)/\(0:Nat)<=r.length/\aU (fun i=>∀k:Nat,i<k->k<r.length->gJ r i k=false) 0)/\
    (∀x_1:Nat,x_1<=r.length/\aU (fun i=>∀k:Nat,i<k->k<r.length->gJ r i k=false) x_1->((x_1:Int)<r.length->aJ ((x_1:Int)+1)/\((x_1:Int)+1=((x_1+1:Nat):Int)/\x_1<x_1+1/\x_1+1<=r.length/\(∀j:Nat,x_1<j->j<x_1+1->gJ r x_1 j=false))/\
      (∀x_2:Nat,x_1<x_2/\x_2<=r.length/\(∀j:Nat,x_1<j->j<x_2->gJ r x_1 j=false)->((x_2:Int)<r.length->(aJ ((x_1:Int)+1)/\(¬(x_2:Int)=x_1+1->(¬(x_1:Int)=0->ix (x_1:Int) (Geo.aD r).length/\x_1<(Geo.aD r).length/\ix (x_2:Int) (Geo.aD r).length/\x_2<(Geo.aD r).length/\decide (¬Geo.dQ (bB (Geo.aD r) x_1) (bB (Geo.aD r) x_2)=0)=gJ r x_1 x_2)/\
          (¬(¬(x_1:Int)=0)->aJ ((r.length:Int)-1)/\(¬(x_2:Int)=r.length-1->ix (x_1:Int) (Geo.aD r).length/\x_1<(Geo.aD r).length/\ix (x_2:Int) (Geo.aD r).length/\x_2<(Geo.aD r).length/\decide (¬Geo.dQ (bB (Geo.aD r) x_1) (bB (Geo.aD r) x_2)=0)=gJ r x_1 x_2)/\
           (¬(¬(x_2:Int)=r.length-1)->false=gJ r x_1 x_2)))/\
         (¬(¬(x_2:Int)=x_1+1)->false=gJ r x_1 x_2))/\
        (∀y_1:Unit,(gJ r x_1 x_2=true->false=Geo.cO r)/\
         (gJ r x_1 x_2=false->aJ ((x_2:Int)+1)/\(x_2:Int)+1=((x_2+1:Nat):Int)/\x_1<x_2+1/\x_2+1<=r.length/\(∀j:Nat,x_1<j->j<x_2+1->gJ r x_1 j=false)/\r.length-(x_2+1)<r.length-x_2)))/\
       (¬(x_2:Int)<r.length->aJ ((x_1:Int)+1)/\(x_1:Int)+1=((x_1+1:Nat):Int)/\x_1+1<=r.length/\aU (fun i=>∀k:Nat,i<k->k<r.length->gJ r i k=false) (x_1+1)/\r.length-(x_1+1)<r.length-x_1)))/\
     (¬(x_1:Int)<r.length->true=Geo.cO r)))))) (by kernel_rfl) (by
  change r.length<=1000 at hp;have iff:=tR r;have hf:(Geo.cO r=true->False)->false=Geo.cO r:=fun h=>by cases e:Geo.cO r;rfl;exact(h e).elim
  have el:3<=r.length->(Geo.aD r).length=r.length:=fun h=>lM r (by omega)
  have en:Geo.near r=true->∀i,i<r.length->bd 1000000000 (nth r i):=fun h i hi=>lH h hi
  have ep:3<=r.length->∀i,i<r.length->bB (Geo.aD r) i=Geo.dL r i:=fun h i hi=>oR (by omega) hi
  have hE:3<=r.length->r.length<=40->Geo.near r=true->0<Geo.dX r->∀x y:Nat,¬(x:Int)<r.length->¬(y:Int)<r.length->aU (tP r) x->aU (fun i=>∀k:Nat,i<k->k<r.length->gJ r i k=false) y->true=Geo.cO r:=fun h1 h2 h3 h4 x y hx hy h5 h6=>
   (iff.2 ⟨h1,h2,h3,h4,fun i hi=>h5 i (by omega),fun i k hi hk=>h6 i (by omega) k hi hk⟩).symm
  have b0:∀x y:Nat,¬(¬(y:Int)=x+1)->false=gJ r x y:=fun x y h=>by unfold gJ;rw[decide_eq_false h];rfl
  have b1:∀x y:Nat,¬(¬(x:Int)=0)->¬(¬(y:Int)=r.length-1)->false=gJ r x y:=fun x y h1 h2=>by unfold gJ;rw[decide_eq_false h1,decide_eq_false h2];simp
  have b2:∀x y:Nat,3<=r.length->¬(y:Int)=x+1->¬(x:Int)=0->(x:Int)<r.length->(y:Int)<r.length->decide (¬Geo.dQ (bB (Geo.aD r) x) (bB (Geo.aD r) y)=0)=gJ r x y:=fun x y h0 h1 h2 h3 h4=>by
   unfold gJ;rw[decide_eq_true h1,decide_eq_true h2,ep h0 x (by omega),ep h0 y (by omega)];rfl
  have b3:∀x y:Nat,3<=r.length->¬(y:Int)=x+1->¬(y:Int)=r.length-1->(x:Int)<r.length->(y:Int)<r.length->decide (¬Geo.dQ (bB (Geo.aD r) x) (bB (Geo.aD r) y)=0)=gJ r x y:=fun x y h0 h1 h2 h3 h4=>by
   unfold gJ;rw[decide_eq_true h1,decide_eq_true h2,ep h0 x (by omega),ep h0 y (by omega),Bool.or_true];rfl
  repeat' first|with_reducible apply And.intro|with_reducible intro
  all_goals repeat with_reducible cases‹_/\_›
  all_goals first|assumption|rfl|exact trivial|exact nb ‹_› |exact nb' ‹_› |omega|exact cQ (by omega)|(unfold ix;omega)|(unfold aJ;omega)|exact bC _|exact aE ‹_› ‹_› |(refine aE ‹_› ?_;simp_all;done)|exact en ‹_› _ (by omega)|exact en ‹_› _ (Nat.mod_lt _ (by omega))|(rw[el ‹_›];exact eE (by omega))|(rw[el ‹_›];omega)|exact b0 _ _ ‹_› |exact b1 _ _ ‹_› ‹_› |exact b2 _ _ ‹_› ‹_› ‹_› ‹_› ‹_› |exact b3 _ _ ‹_› ‹_› ‹_› ‹_› ‹_› |exact hE ‹_› ‹_› ‹_› ‹_› _ _ ‹_› ‹_› ‹_› ‹_› |(refine hf fun h=> ?_;have h:=iff.1 h;first|omega|(have h4:=‹(!Geo.near r)=true›;rw[h.2.2.1]at h4;cases h4)|(exact absurd ‹Geo.cT _ _ _=0› (h.2.2.2.2.1 _ (by omega)))|(have h4:=‹gJ r _ _=true›;rw[h.2.2.2.2.2 _ _ ‹_<_› (by omega)]at h4;cases h4))|exact aE ‹_› (show tP r _ from‹¬Geo.cT _ _ _=0›)|(intro j h1 h2;omega)|exact aE ‹_› (up2 (p:=fun i k=>gJ r i k=false) ‹_› ‹_›)|grind)
def t83:Tab:=cC [(83,c83)] aIy
theorem aHf:t83.Ok Tryz.prog:=aK aEN ⟨k83,trivial⟩
end
end Go.Proofs.YtdaeofhdgabhjaaGreat
namespace Go.Proofs.YtdaeofhdgabhjaaGreat
open Go.RowKit
set_option maxHeartbeats 2000000 in
theorem aCb(n:Nat)(w:World)(h0:0<n)(hn:n<=100000):
  Calls Tryz.prog 207 #[.slice none 0 0,.int .i64 n] w fun e w'=>∃v,e= .returned v/\w'.ownsRow w.heap.size 44 2 v 0 []/\Below w.heap.size w w':=by
 have hinf:(Tryz.prog.info? 44).map (fun i=>(i.zero,i.size,i.bytes))=some (some (.agg #[.int .i64 0,.int .i64 0]),2,16):=by kernel_rfl
 obtain⟨i,hi1,hi2⟩:=Option.map_eq_some_iff.1 hinf;simp only[Prod.mk.injEq]at hi2;obtain⟨i1,i2,i3⟩:=hi2;have hold:(Builtin.firstCells i.size 0 (.slice none 0 0)).run Tryz.prog w.drew= .ok ([] :List Value).toArray w.drew:=run_firstCells_none w.drew i.size 0 0 0;have hrz:∀ty,(Builtin.append_ #[23,3] ty #[.slice none 0 0,.int .i64 n]).run Tryz.prog w= .ok (.slice (some ⟨w.heap.size,0,none⟩) n (grownCap w n 0 44))
   (w.drew.alloc (.cells (#[] ++Builtin.zeroCells #[.int .i64 0,.int .i64 0] n++Builtin.zeroCells #[.int .i64 0,.int .i64 0] (grownCap w n 0 44-n)) 44)):=fun ty=>by
  have h:=Lib.run_append_grow_zeros w 23 3 ty 44 i (.agg #[.int .i64 0,.int .i64 0]) .i64 .i64 Tryz.underlying23 Tryz.underlying3 hi1 i1 none 0 0 [] hold n h0 (by omega) (by omega) (by omega) (by rw[i3];omega)
   (by unfold Builtin.nextslicecap;rw[if_pos (by omega),i3];omega)
  rw[Nat.zero_add]at h;exact h
 have hGn:n<=grownCap w n 0 44:=grownCap_ge w _ _ _;have hGm:=grownCap_le_maxLen w n 0 44 (by unfold maxLen;omega)
 obtain⟨G,hG⟩:∃G,G=grownCap w n 0 44:=⟨_,rfl⟩;rw[<-hG]at hrz hGn hGm;have hG63:G<=9223372036854775807:=by unfold maxLen at hGm;omega
 have hzc:∀m,(Builtin.zeroCells #[.int .i64 0,.int .i64 0] m).size=m*2:=by intro m;unfold Builtin.zeroCells;simp
 obtain⟨cur,hcur⟩:∃cur,cur=(#[] ++Builtin.zeroCells #[.int .i64 0,.int .i64 0] n++Builtin.zeroCells #[.int .i64 0,.int .i64 0] (G-n):Array Value):=⟨_,rfl⟩;have hcs:cur.size=G*2:=by rw[hcur];simp[hzc];omega
 rw[<-hcur]at hrz;have hrow:(w.drew.alloc (.cells cur 44)).ownsRow w.heap.size 44 2 (.slice (some ⟨w.heap.size,0,none⟩) 0 G) 0 [] :=
  ⟨by simp,.inr ⟨w.heap.size,G,cur,rfl,Nat.le_refl _,Blk.new w.drew 44 cur,by omega,hGm,hcs,by simp⟩⟩
 have hbl:Below w.heap.size w (w.drew.alloc (.cells cur 44)):=((Below.refl _ _).drew).alloc (Nat.le_refl _) _;clear hold hinf hi1 i1 i2 i3 hcur hcs hzc hG hGm
 go_enter Tryz.func207,Tryz.ntmps207
 go_wp2_with (at_builtin;refine Lib.wpList_append_run _ rfl _ _ _ _ rfl _ _ rfl rfl _ _ (hrz _) ?_)
 all_goals
  go_ret
  exact⟨_,rfl,hrow,hbl⟩
theorem Xv{n:Nat}(h0:0<n)(hn:n<=100000):aGn Tryz.prog 207 [.int .i64 n] 44 2 [] 0 [] :=by
 refine⟨by kernel_rfl,by decide,fun C w vs hC h=> ?_⟩
 unfold bZ at h;obtain⟨v,r,rfl,h1,h2⟩:=h;unfold aZ at h1;unfold bZ at h2;subst h1 h2;refine(aCb n w h0 hn).mono ?_;rintro e w' ⟨v,rfl,⟨_,h3⟩,hb⟩;rcases h3 with⟨rfl,_⟩|⟨g,cap,cur,rfl,h4,h5,_,h6,h7,_⟩
 ·exact⟨_,[],none,0,rfl,hb,by unfold bZ;rfl,.inl ⟨rfl,rfl,rfl,rfl,rfl⟩⟩
 ·exact⟨_,[],some g,cap,rfl,hb,by unfold bZ;rfl,.inr ⟨g,cur,rfl,rfl,Nat.zero_le _,h4,h5,h7,Nat.zero_le _,h6,fun i x hi=>by simp at hi⟩⟩
def aGe:List SV->Option Nat
 |[.nil,.int .i64 (.ofNat n)] =>some n
 |_=>none
theorem Zf{s:List SV}{n:Nat}(h:aGe s=some n):s=[.nil,.int .i64 (n:Int)] :=by
 unfold aGe at h;split at h
 ·cases h;rfl
 ·cases h
def aJA:Con:=⟨Nat,aGe,fun n=>[0<n,n<=100000],.ownN 44 .V (fun _=>[])⟩
theorem aLU:aJA.Ok Tryz.prog 207:=by
 intro s n hd hp;rw[Zf hd];exact⟨[.int .i64 ((show Nat from n:Nat):Int)],rfl,Xv (hp _ List.mem_cons_self) (hp _ (List.mem_cons_of_mem _ List.mem_cons_self))⟩
end Go.Proofs.YtdaeofhdgabhjaaGreat
namespace Go.Proofs.YtdaeofhdgabhjaaGreat
open Go.RowKit
set_option maxRecDepth 100000
noncomputable section
open Geo (nth aC)
def aPt:Ar Geo.Pt where
 enc p:= .pro [.int .i64 p.x,.int .i64 p.y,.int .i64 p.den] 0
 dec s:=match s with
  | .pro [.int .i64 x,.int .i64 y,.int .i64 z] 0=>some ⟨x,y,z⟩
  |_=>none
 ok s a h:=by(split at h<;>cases h;rfl)
 pl _:=⟨_,rfl⟩
def jPU(key:Nat)(I:List Prop)(u:Frm):Nat×Ann:=(key+10000,.mk Unit (fun _ _=>some ()) [] (fun _=>I) (fun _=>u) (fun _=>[]) (fun _=>0) (fun _=>[]))
def Zy(p:Geo.Pt)(l:List Geo.S):Bool:=l.foldl (fun b s=>b !=Geo.sC s p) false
theorem Yj{p:Geo.Pt}{l:List Geo.S}{k:Nat}(h:k<l.length):Zy p (l.take (k+1))=(Zy p (l.take k) !=Geo.sC (bB l k) p):=by
 unfold Zy;rw[List.take_add_one,List.getElem?_eq_getElem h,List.foldl_append,gP h];rfl
theorem No{p:Geo.Pt}:∀{l:List Geo.S} {k:Nat} (ins:Bool),k<l.length->(∀j,j<k->Geo.onP (bB l j) p=false)->Geo.onP (bB l k) p=true->Geo.kK p l ins=1
 |[],k,ins,h,_,_=>by simp at h
 |s::l,0,ins,h,_,h2=>by
  unfold Geo.kK;rw[show Geo.onP s p=true from h2];rfl
 |s::l,k+1,ins,h,h1,h2=>by
  unfold Geo.kK;rw[show Geo.onP s p=false from h1 0 (by omega)]
  exact No (l:=l) (k:=k) _ (by simpa using h) (fun j hj=>h1 (j+1) (by omega)) h2
theorem Hy{p:Geo.Pt}:∀{l:List Geo.S} (ins:Bool),(∀j,j<l.length->Geo.onP (bB l j) p=false)->Geo.kK p l ins=if l.foldl (fun b s=>b !=Geo.sC s p) ins=true then 2 else 0
 |[],ins,_=>rfl
 |s::l,ins,h1=>by
  unfold Geo.kK;rw[show Geo.onP s p=false from h1 0 (by simp)]
  exact Hy (l:=l) _ (fun j hj=>h1 (j+1) (by simpa using hj))
def pb(r:Geo.aM)(p:Geo.Pt)(k:Nat):Bool:=Zy p ((Geo.aD r).take k)
theorem aCm{r:Geo.aM}(h:Geo.cO r=true){j:Nat}(hj:j<(Geo.aD r).length):bd 2000 (bB (Geo.aD r) j).a/\bd 2000 (bB (Geo.aD r) j).b:=Wo (by rw[<-Geo.qE];exact h) hj
def cOK(a b:Geo.V):Prop:=(-4000000000000000000<=a.x*b.y/\a.x*b.y<=4000000000000000000)/\(-4000000000000000000<=a.y*b.x/\a.y*b.x<=4000000000000000000)
def aFK:Con:=con (ac aV (a1 aV)) (fun(a,b)=>[cOK a b]) (fun(a,b)=> .int .i64 (Geo.cross a b)
 )
theorem aK7:aFK.Ok Tryz.prog 111:=aX (bK aHf) (raw:=bO) (fun(_,_)=>[]) (fun(_,_)=>⟨_,rfl⟩) fun(a,b) hp=>bL (q:=aJ (a.x*b.y)/\aJ (a.y*b.x)/\aJ (a.x*b.y-a.y*b.x)/\a.x*b.y-a.y*b.x=Geo.cross a b) (by kernel_rfl) (by
 change cOK a b at hp;unfold cOK at hp;exact⟨cP (by omega),cP (by omega),cP (by omega),rfl⟩)
def aFh:Tab:=cC [(111,aFK)] t83
theorem aAR:aFh.Ok Tryz.prog:=aK aHf ⟨aK7,trivial⟩
def aJH:Con:=con (ac aV (a1 aPt)) (fun(v,p)=>[PtB p,bd 10000 v]) (fun(v,p)=>aV.enc (Geo.toV p v)
 )
theorem aL1:aJH.Ok Tryz.prog 186:=aX (bK aAR) (raw:=bO) (fun(_,_)=>[]) (fun(_,_)=>⟨_,rfl⟩) fun(v,p) hp=>bL (q:=aJ (v.x*p.den)/\aJ (p.x-v.x*p.den)/\aJ (v.y*p.den)/\aJ (p.y-v.y*p.den)/\p.x-v.x*p.den=(Geo.toV p v).x/\p.y-v.y*p.den=(Geo.toV p v).y) (by kernel_rfl) (by
 change PtB p/\bd 10000 v at hp;have h:=hp.1.off hp.2;have h2:(-600000000000<=p.x/\p.x<=600000000000)/\(-600000000000<=p.y/\p.y<=600000000000):=hp.1.2;exact⟨cP (by omega),cP (by omega),cP (by omega),cP (by omega),rfl,rfl⟩)
def aH3:Tab:=cC [(186,aJH)] aFh
theorem aEj:aH3.Ok Tryz.prog:=aK aAR ⟨aL1,trivial⟩
def aKh:Con:=con (ac (aL .V) (a1 aT)) (fun(r,_)=>[r.length<=1000]) (fun(r,p)=> .int .i64 (Geo.cI r p))
theorem aMB:aKh.Ok Tryz.prog 140:=aX (bK aEj) (raw:=bO) (fun(r,p)=>[jP 3 [Geo.cO r=true,Geo.dG p=true],lp 6 25 (Geo.aD r).length (fun k=>[aU (fun j=>Geo.onP (nE r j) p=false) k]) [] (fun k=>[(6,.bool (pb r p k))]) (fun _=>[]) fun k=>[jb 11 77 (Geo.onP (nE r k) p),jb 14 91 (Geo.sC (nE r k) p),jPU 15 [Geo.onP (nE r k) p=false] [(6,.bool (pb r p (k+1)))]]]
  ) (fun(_,_)=>⟨_,rfl⟩) fun(r,p) hp=>bL (q:=(r.length<=1000/\((!Geo.cO r)=true->0=Geo.cI r p)/\
  ((!Geo.cO r)=false->((!Geo.dG p)=true->0=Geo.cI r p)/\
   ((!Geo.dG p)=false->Geo.cO r=true/\Geo.dG p=true)))/\
 (∀y:Unit,Geo.cO r=true/\Geo.dG p=true->r.length<=1000/\(0=(0:Int)/\false=pb r p 0/\(0:Nat)<=(Geo.aD r).length/\aU (fun j=>Geo.onP (nE r j) p=false) 0)/\
  (∀x:Nat,x<=(Geo.aD r).length/\aU (fun j=>Geo.onP (nE r j) p=false) x->((x:Int)<(Geo.aD r).length->(ix (x:Int) (Geo.aD r).length/\x<(Geo.aD r).length/\PtB p/\bd 10000 (nE r x).a/\PtB p/\bd 10000 (nE r x).b/\bd 1000000000 (nE r x).b/\bd 1000000000 (nE r x).a/\cOK (Geo.sub (nE r x).b (nE r x).a) (Geo.toV p (nE r x).a)/\((Geo.cross (Geo.sub (nE r x).b (nE r x).a) (Geo.toV p (nE r x).a)=0->(Min.min (Geo.toV p (nE r x).a).x (Geo.toV p (nE r x).b).x<=0->(0<=Max.max (Geo.toV p (nE r x).a).x (Geo.toV p (nE r x).b).x->(Min.min (Geo.toV p (nE r x).a).y (Geo.toV p (nE r x).b).y<=0->decide (0<=Max.max (Geo.toV p (nE r x).a).y (Geo.toV p (nE r x).b).y)=Geo.onP (nE r x) p)/\
         (¬Min.min (Geo.toV p (nE r x).a).y (Geo.toV p (nE r x).b).y<=0->false=Geo.onP (nE r x) p))/\
        (¬0<=Max.max (Geo.toV p (nE r x).a).x (Geo.toV p (nE r x).b).x->false=Geo.onP (nE r x) p))/\
       (¬Min.min (Geo.toV p (nE r x).a).x (Geo.toV p (nE r x).b).x<=0->false=Geo.onP (nE r x) p))/\
      (¬Geo.cross (Geo.sub (nE r x).b (nE r x).a) (Geo.toV p (nE r x).a)=0->false=Geo.onP (nE r x) p))/\
     (∀y_1:Unit,(Geo.onP (nE r x) p=true->1=Geo.cI r p)/\
      (Geo.onP (nE r x) p=false->(((decide (0<=(Geo.toV p (nE r x).a).y) !=decide (0<=(Geo.toV p (nE r x).b).y))=true->(decide (0<=(Geo.toV p (nE r x).a).y)==decide (0<Geo.cross (Geo.sub (nE r x).b (nE r x).a) (Geo.toV p (nE r x).a)))=Geo.sC (nE r x) p)/\
        ((decide (0<=(Geo.toV p (nE r x).a).y) !=decide (0<=(Geo.toV p (nE r x).b).y))=false->false=Geo.sC (nE r x) p))/\
       (∀y_2:Unit,(Geo.sC (nE r x) p=true->(!pb r p x)=pb r p (x+1)/\Geo.onP (nE r x) p=false)/\
        (Geo.sC (nE r x) p=false->pb r p x=pb r p (x+1)/\Geo.onP (nE r x) p=false)))))/\
    (∀y_1:Unit,Geo.onP (nE r x) p=false->aJ ((x:Int)+1)/\(x:Int)+1=((x+1:Nat):Int)/\pb r p (x+1)=pb r p (x+1)/\x+1<=(Geo.aD r).length/\aU (fun j=>Geo.onP (nE r j) p=false) (x+1)/\(Geo.aD r).length-(x+1)<(Geo.aD r).length-x))/\
   (¬(x:Int)<(Geo.aD r).length->(pb r p x=true->2=Geo.cI r p)/\
    (pb r p x=false->0=Geo.cI r p))))) (by kernel_rfl) (by
  change r.length<=1000 at hp;have e0:pb r p 0=false:=rfl;have es:∀k:Nat,(k:Int)<(Geo.aD r).length->pb r p (k+1)=(pb r p k !=Geo.sC (nE r k) p):=fun k h=>Yj (by omega)
  have hw0:Geo.cO r=false\/Geo.dG p=false->0=Geo.cI r p:=fun h=>by unfold Geo.cI;rcases h with h|h<;>simp[h]
  have hw:Geo.cO r=true->Geo.dG p=true->Geo.cI r p=Geo.kK p (Geo.aD r) false:=fun h1 h2=>by unfold Geo.cI;simp[h1,h2]
  have eb:Geo.cO r=true->∀j:Nat,(j:Int)<(Geo.aD r).length->bd 2000 (bB (Geo.aD r) j).a/\bd 2000 (bB (Geo.aD r) j).b:=fun h j hj=>aCm h (by omega)
  have el:(Geo.aD r).length<=1000:=by unfold Geo.aD;split<;>simp<;>omega
  have s1:∀j:Nat,(j:Int)<(Geo.aD r).length->aU (fun j=>Geo.onP (nE r j) p=false) j->Geo.onP (nE r j) p=true->Geo.kK p (Geo.aD r) false=1:=fun j h1 h2 h3=>No false (by omega) h2 h3
  have s2:∀k:Nat,¬(k:Int)<(Geo.aD r).length->k<=(Geo.aD r).length->aU (fun j=>Geo.onP (nE r j) p=false) k->Geo.kK p (Geo.aD r) false=if pb r p k=true then 2 else 0:=fun k h1 h2 h=>by
   obtain rfl:k=(Geo.aD r).length:=by omega
   rw[Hy false h];unfold pb Zy;rw[List.take_length]
  have gV:Geo.cO r=true->Geo.dG p=true->∀j:Nat,(j:Int)<(Geo.aD r).length->cOK (Geo.sub (bB (Geo.aD r) j).b (bB (Geo.aD r) j).a) (Geo.toV p (bB (Geo.aD r) j).a):=fun h1 h2 j hj=>by
   have b1:=gS (eb h1 j hj).2 (eb h1 j hj).1;have hB:=PtB.of h2;have b2:=hB.off (eb h1 j hj).1.mono;have h2:(-600000000000<=p.x/\p.x<=600000000000)/\(-600000000000<=p.y/\p.y<=600000000000):=hB.2;have b3:bd 2000000000000 (Geo.toV p (bB (Geo.aD r) j).a):=by unfold bd Geo.toV;dsimp only;omega
   exact⟨by have:=fR b1.1 b3.2;omega,by have:=fR b1.2 b3.1;omega⟩
  have oN:∀j:Nat,(¬Geo.iK (nE r j) p=0\/¬Min.min (Geo.toV p (nE r j).a).x (Geo.toV p (nE r j).b).x<=0\/¬0<=Max.max (Geo.toV p (nE r j).a).x (Geo.toV p (nE r j).b).x\/¬Min.min (Geo.toV p (nE r j).a).y (Geo.toV p (nE r j).b).y<=0)->false=Geo.onP (nE r j) p:=fun j h=>by
   symm;unfold Geo.onP;rcases h with h|h|h|h
   ·rw[beq_eq_false_iff_ne.2 h];simp
   ·rw[decide_eq_false h];simp
   ·rw[decide_eq_false h];simp
   ·rw[decide_eq_false h];simp
  have oY:∀j:Nat,Geo.iK (nE r j) p=0->Min.min (Geo.toV p (nE r j).a).x (Geo.toV p (nE r j).b).x<=0->0<=Max.max (Geo.toV p (nE r j).a).x (Geo.toV p (nE r j).b).x->Min.min (Geo.toV p (nE r j).a).y (Geo.toV p (nE r j).b).y<=0->decide (0<=Max.max (Geo.toV p (nE r j).a).y (Geo.toV p (nE r j).b).y)=Geo.onP (nE r j) p:=fun j h1 h2 h3 h4=>by
   unfold Geo.onP;rw[beq_iff_eq.2 h1,decide_eq_true h2,decide_eq_true h3,decide_eq_true h4];simp
  have hN:∀j:Nat,(decide (0<=(Geo.toV p (nE r j).a).y) !=decide (0<=(Geo.toV p (nE r j).b).y))=false->false=Geo.sC (nE r j) p:=fun j h=>by unfold Geo.sC;rw[h];rfl
  have hY:∀j:Nat,(decide (0<=(Geo.toV p (nE r j).a).y) !=decide (0<=(Geo.toV p (nE r j).b).y))=true->(decide (0<=(Geo.toV p (nE r j).a).y)==decide (0<Geo.iK (nE r j) p))=Geo.sC (nE r j) p:=fun j h=>by unfold Geo.sC;rw[h];rfl
  repeat' first|with_reducible apply And.intro|with_reducible intro
  all_goals repeat with_reducible cases‹_/\_›
  all_goals first|assumption|rfl|exact trivial|exact nb ‹_› |exact nb' ‹_› |omega|exact cQ (by omega)|(unfold ix;omega)|(unfold aJ;omega)|exact bC _|exact aE ‹_› ‹_› |(refine aE ‹_› ?_;simp_all;done)|exact PtB.of ‹_› |exact(eb ‹_› _ ‹_›).1.mono|exact(eb ‹_› _ ‹_›).2.mono|exact gV ‹_› ‹_› _ ‹_› |exact oY _ ‹_› ‹_› ‹_› ‹_› |exact oN _ (.inl ‹_›)|exact oN _ (.inr (.inl ‹_›))|exact oN _ (.inr (.inr (.inl ‹_›)))|exact oN _ (.inr (.inr (.inr ‹_›)))|exact hN _ ‹_› |exact hY _ ‹_› |exact hw0 (.inl (nb' ‹_›))|exact hw0 (.inr (nb' ‹_›))|(rw[hw ‹_› ‹_›,s1 _ ‹_› ‹_› ‹_›];done)|(rw[hw ‹_› ‹_›,s2 _ ‹_› ‹_› ‹_›,‹pb _ _ _=_›];rfl)|(rw[es _ ‹_›,‹Geo.sC _ _=_›];simp;done)|grind)
def aIH:Tab:=cC [(140,aKh)] aH3
theorem aEW:aIH.Ok Tryz.prog:=aK aEj ⟨aMB,trivial⟩
def c65:Con:=con (ac (aL .V) (a1 aV)) (fun(r,_)=>[r.length<=1000]) (fun(r,v)=> .int .i64 (Geo.dS r v)
 )
theorem k65:c65.Ok Tryz.prog 65:=aX (bK aEW) (raw:=bO) (fun(_,_)=>[]) (fun(_,_)=>⟨_,rfl⟩) fun(r,v) hp=>bL (q:=(0:Int)<=4000/\(4000:Int)<=9000000000000000000/\((!Geo.bG v 4000)=true->0=Geo.dS r v)/\
 ((!Geo.bG v 4000)=false->r.length<=1000/\Geo.cI r (Geo.pT v)=Geo.dS r v)) (by kernel_rfl) (by
  change r.length<=1000 at hp;have e:Geo.dS r v=if(!Geo.bG v 4000)=true then 0 else Geo.cI r (Geo.pT v):=rfl
  exact⟨by decide,by decide,fun h=>by rw[e,if_pos h],fun h=>⟨hp,by rw[e,h];rfl⟩⟩)
def t65:Tab:=cC [(65,c65)] aIH
theorem aHq:t65.Ok Tryz.prog:=aK aEW ⟨k65,trivial⟩
def c89:Con:=con (a1 (aL .V)) (fun r=>[r.length<=1000]) (fun r=> .int .i64 (if Geo.cO r=true then Geo.dX r else 0)
 )
theorem k89:c89.Ok Tryz.prog 89:=aX (bK aHq) (raw:=bO) (fun _=>[]) (fun _=>⟨_,rfl⟩) fun r hp=>bL (q:=r.length<=1000/\((!Geo.cO r)=true->0=(if Geo.cO r=true then Geo.dX r else 0))/\
 ((!Geo.cO r)=false->Geo.near r=true/\r.length<=100000/\Geo.dX r=(if Geo.cO r=true then Geo.dX r else 0))) (by kernel_rfl) (by
  change r.length<=1000 at hp;refine⟨hp,fun h=>by rw[nb' h];rfl,fun h=>⟨?_,by omega,by rw[nb h];rfl⟩⟩
  exact((tR r).1 (nb h)).2.2.1)
def t89:Tab:=cC [(89,c89)] t65
theorem aLk:t89.Ok Tryz.prog:=aK aHq ⟨k89,trivial⟩
def aHX:Tab:=cC [(207,aJA)] t89
theorem aEd:aHX.Ok Tryz.prog:=aK aLk ⟨aLU,trivial⟩
def aJM:Con:=con (a1 (aL .R)) (fun l=>[l.length<=1000,0<l.flatten.length,l.flatten.length<=1000]) (fun l=> .lst .V l.flatten)
theorem aL6:aJM.Ok Tryz.prog 181:=aX (bK aEd) (raw:=fun r i=>Nat.beq r 1&&Nat.beq i 0) (fun l=>[lp 3 11 l.length (fun _=>[]) [] (fun k=>[(3,.int .i64 (((l.take k).flatten.length:Nat):Int))]) (fun _=>[]),lp 11 27 l.length (fun _=>[]) [7] (fun k=>[(6,.own 7 .V ((l.take k).flatten.length))]) (fun k=>[(7,.row 44 .V ((l.take k).flatten))])]
  ) (fun _=>⟨_,rfl⟩) fun l hp=>bL (q:=(0=(0:Int)/\0=((List.flatten (List.take 0 l)).length:Int)/\(0:Nat)<=l.length)/\
 (∀x:Nat,x<=l.length->((x:Int)<l.length->ix (x:Int) l.length/\aJ (((List.flatten (List.take x l)).length:Int)+(aC l x).length)/\(((List.flatten (List.take x l)).length:Int)+(aC l x).length<0->False)/\
   (¬((List.flatten (List.take x l)).length:Int)+(aC l x).length<0->aJ ((x:Int)+1)/\(x:Int)+1=((x+1:Nat):Int)/\((List.flatten (List.take x l)).length:Int)+(aC l x).length=(List.flatten (List.take (x+1) l)).length/\x+1<=l.length/\l.length-(x+1)<l.length-x))/\
  (¬(x:Int)<l.length->(0:Nat)<(List.flatten (List.take x l)).length/\(List.flatten (List.take x l)).length<=100000/\(0=(0:Int)/\([] :List Geo.V).length=(List.flatten (List.take 0 l)).length/\([] :List Geo.V)=List.flatten (List.take 0 l)/\(0:Nat)<=l.length)/\
   (∀x_1:Nat,x_1<=l.length->((x_1:Int)<l.length->ix (x_1:Int) l.length/\(List.flatten (List.take x_1 l)).length=(List.flatten (List.take x_1 l)).length/\(List.flatten (List.take x_1 l)).length+(aC l x_1).length<=1000000/\aJ ((x_1:Int)+1)/\(x_1:Int)+1=((x_1+1:Nat):Int)/\(List.flatten (List.take x_1 l)++aC l x_1).length=(List.flatten (List.take (x_1+1) l)).length/\List.flatten (List.take x_1 l)++aC l x_1=List.flatten (List.take (x_1+1) l)/\x_1+1<=l.length/\l.length-(x_1+1)<l.length-x_1)/\
    (¬(x_1:Int)<l.length->(List.flatten (List.take x_1 l)).length=(List.flatten (List.take x_1 l)).length/\List.flatten (List.take x_1 l)=List.flatten l))))) (by kernel_rfl) (by
  change l.length<=1000/\0<l.flatten.length/\l.flatten.length<=1000 at hp;have e1:∀x:Nat,(x:Int)<l.length->(l.take (x+1)).flatten=(l.take x).flatten++aC l x:=fun x h=>by
   rw[List.take_succ_eq_append_getElem (by omega),List.flatten_append,List.flatten_singleton,gQ (by omega)]
  have e2:∀x:Nat,(l.take x).flatten.length<=l.flatten.length:=fun x=>by
   conv=>rhs;rw[<-List.take_append_drop x l,List.flatten_append,List.length_append]
   omega
  have e3:∀x:Nat,¬(x:Int)<l.length->List.take x l=l:=fun x h=>List.take_of_length_le (by omega)
  have e4:∀x:Nat,(x:Int)<l.length->(l.take x).flatten.length+(aC l x).length<=l.flatten.length:=fun x h=>by
   have:=e2 (x+1);rw[e1 x h,List.length_append]at this;exact this
  have e5:∀x:Nat,(x:Int)<l.length->((List.flatten (List.take x l)).length:Int)+(aC l x).length=(List.flatten (List.take (x+1) l)).length:=fun x h=>by rw[e1 x h,List.length_append];omega
  have e6:∀x:Nat,(x:Int)<l.length->aJ (((List.flatten (List.take x l)).length:Int)+(aC l x).length):=fun x h=>cP (by have:=e4 x h;omega)
  repeat' first|with_reducible apply And.intro|with_reducible intro
  all_goals repeat with_reducible cases‹_/\_›
  all_goals first|assumption|rfl|exact trivial|exact nb ‹_› |exact nb' ‹_› |omega|exact cQ (by omega)|(unfold ix;omega)|(unfold aJ;omega)|exact bC _|exact aE ‹_› ‹_› |(refine aE ‹_› ?_;simp_all;done)|exact e6 _ ‹_› |exact e5 _ ‹_› |exact(e1 _ ‹_›).symm|(rw[e1 _ ‹_›];done)|(rw[e3 _ ‹_›];first|done|omega)|exact Nat.le_trans (e4 _ ‹_›) (by omega)|(rw[e3 _ ‹_›]at*;omega)|grind)
def aH8:Tab:=cC [(181,aJM)] aHX
theorem aEo:aH8.Ok Tryz.prog:=aK aEd ⟨aL6,trivial⟩
theorem xT(a b:Geo.V):Geo.dW a b<0↔Geo.cH a b=true:=by
 unfold Geo.dW Geo.cH Geo.fG;grind
theorem zQ(a:Geo.V):Geo.cH a a=false:=by
 unfold Geo.cH;grind
def aJP:Con:=con (ac (aL .V) (a1 (aF 78))) (fun(r,_)=>[0<r.length,r.length<=1000]) (fun(r,_)=>aV.enc (nth r (Geo.cE r)))
theorem aL9:aJP.Ok Tryz.prog 175:=aX (bK aEo) (raw:=bO) (fun(r,_)=>[(5,.mk Nat (fun F _=>sQ F 6) [] (fun k=>[0<k,k<=r.length]) (fun k=>[(6,.int .i64 (k:Int))]) (fun k=>[(7,.box 44 [.int .i64 (nth r (Geo.bV r k)).x,.int .i64 (nth r (Geo.bV r k)).y])]) (fun k=>r.length-k) (fun _=>[]))]
  ) (fun(_,_)=>⟨_,rfl⟩) fun(r,u) hp=>bL (q:=((r.length:Int)<1->False)/\
 (¬(r.length:Int)<1->ix 0 r.length/\(1=(1:Int)/\(nth r 0).x=(nth r (Geo.bV r 1)).x/\(nth r 0).y=(nth r (Geo.bV r 1)).y/\(0:Nat)<1/\(1:Nat)<=r.length)/\
  (∀x:Nat,(0:Nat)<x/\x<=r.length->((x:Int)<r.length->ix (x:Int) r.length/\(Geo.dW (nth r x) (nth r (Geo.bV r x))<0->ix (x:Int) r.length/\aJ ((x:Int)+1)/\(x:Int)+1=((x+1:Nat):Int)/\(nth r x).x=(nth r (Geo.bV r (x+1))).x/\(nth r x).y=(nth r (Geo.bV r (x+1))).y/\(0:Nat)<x+1/\x+1<=r.length/\r.length-(x+1)<r.length-x)/\
    (¬Geo.dW (nth r x) (nth r (Geo.bV r x))<0->aJ ((x:Int)+1)/\(x:Int)+1=((x+1:Nat):Int)/\(nth r (Geo.bV r x)).x=(nth r (Geo.bV r (x+1))).x/\(nth r (Geo.bV r x)).y=(nth r (Geo.bV r (x+1))).y/\(0:Nat)<x+1/\x+1<=r.length/\r.length-(x+1)<r.length-x))/\
   (¬(x:Int)<r.length->(nth r (Geo.bV r x)).x=(nth r (Geo.cE r)).x/\(nth r (Geo.bV r x)).y=(nth r (Geo.cE r)).y)))) (by kernel_rfl) (by
  change 0<r.length/\r.length<=1000 at hp;have e0:Geo.bV r 1=0:=by unfold Geo.bV Geo.bV;split<;>rfl
  have e1:∀x:Nat,Geo.dW (nth r x) (nth r (Geo.bV r x))<0->Geo.bV r (x+1)=x:=fun x h=>if_pos ((xT _ _).1 h)
  have e2:∀x:Nat,¬Geo.dW (nth r x) (nth r (Geo.bV r x))<0->Geo.bV r (x+1)=Geo.bV r x:=fun x h=>if_neg fun h2=>h ((xT _ _).2 h2)
  have e3:∀x:Nat,¬(x:Int)<r.length->x<=r.length->Geo.bV r x=Geo.cE r:=fun x h1 h2=>by rw[show x=r.length by omega];rfl
  repeat' first|with_reducible apply And.intro|with_reducible intro
  all_goals repeat with_reducible cases‹_/\_›
  all_goals first|assumption|rfl|exact trivial|exact nb ‹_› |exact nb' ‹_› |omega|exact cQ (by omega)|(unfold ix;omega)|(unfold aJ;omega)|exact bC _|exact aE ‹_› ‹_› |(refine aE ‹_› ?_;simp_all;done)|(rw[e0];done)|(rw[e1 _ ‹_›];done)|(rw[e2 _ ‹_›];done)|(rw[e3 _ ‹_› ‹_›];done)|grind)
def aIc:Tab:=cC [(175,aJP)] aH8
theorem aEr:aIc.Ok Tryz.prog:=aK aEo ⟨aL9,trivial⟩
def aJQ:Con:=con (ac (aL .V) (a1 aV)) (fun(r,_)=>[r.length<=1000]) (fun(r,v)=> .int .i64 (fI (fun x=>decide (v=x)) r))
theorem aMa:aJQ.Ok Tryz.prog 174:=aX (bK aEr) (raw:=bO) (fun(r,v)=>[cnt 2 8 r.length (aU fun j=>decide (v=nth r j)=false)]
  ) (fun(_,_)=>⟨_,rfl⟩) fun(r,v) hp=>bL (q:=(0=(0:Int)/\(0:Nat)<=r.length/\aU (fun j=>decide (v=nth r j)=false) 0)/\
 (∀x:Nat,x<=r.length/\aU (fun j=>decide (v=nth r j)=false) x->((x:Int)<r.length->ix (x:Int) r.length/\(v=(nth r x)->(x:Int)=fI (fun x=>decide (v=x)) r)/\
   (¬v=(nth r x)->aJ ((x:Int)+1)/\(x:Int)+1=((x+1:Nat):Int)/\x+1<=r.length/\aU (fun j=>decide (v=nth r j)=false) (x+1)/\r.length-(x+1)<r.length-x))/\
  (¬(x:Int)<r.length-> -1=fI (fun x=>decide (v=x)) r))) (by kernel_rfl) (by
  change r.length<=1000 at hp
  repeat' first|with_reducible apply And.intro|with_reducible intro
  all_goals repeat with_reducible cases‹_/\_›
  all_goals first|assumption|rfl|exact trivial|exact nb ‹_› |exact nb' ‹_› |omega|exact cQ (by omega)|(unfold ix;omega)|(unfold aJ;omega)|exact bC _|exact aE ‹_› ‹_› |(refine aE ‹_› ?_;simp_all;done)|exact xJ (t:= .V) (by omega) (decide_eq_true ‹_›) ‹_› |(obtain rfl:_=r.length:=Nat.le_antisymm ‹_› (by omega);exact wJ (t:= .V) ‹_›)|grind)
def aId:Tab:=cC [(174,aJQ)] aIc
theorem aEs:aId.Ok Tryz.prog:=aK aEr ⟨aMa,trivial⟩
def aKt:Con:=con (a1 (aL .V)) (fun r=>[r.length<=1000]) (fun r=> .lst .V (Geo.dJ r)
 )
theorem aMN:aKt.Ok Tryz.prog 126:=aX (bK aEs) (raw:=bO) (fun _=>[]) (fun _=>⟨_,rfl⟩) fun r hp=>bL (q:=r.length<=1000/\((!Geo.cO r)=true->Geo.dJ r=([] :List Geo.V))/\
 ((!Geo.cO r)=false->(0:Nat)<r.length/\r.length<=1000/\r.length<=1000/\(0<=fI (fun x=>decide ((nth r (Geo.cE r))=x)) r/\fI (fun x=>decide ((nth r (Geo.cE r))=x)) r<=r.length)/\(0<=fI (fun x=>decide ((nth r (Geo.cE r))=x)) r/\fI (fun x=>decide ((nth r (Geo.cE r))=x)) r<=r.length)/\[List.drop (fI (fun x=>decide ((nth r (Geo.cE r))=x)) r).toNat r,List.take (fI (fun x=>decide ((nth r (Geo.cE r))=x)) r).toNat r].length<=1000/\(0:Nat)<(List.flatten [List.drop (fI (fun x=>decide ((nth r (Geo.cE r))=x)) r).toNat r,List.take (fI (fun x=>decide ((nth r (Geo.cE r))=x)) r).toNat r]).length/\(List.flatten [List.drop (fI (fun x=>decide ((nth r (Geo.cE r))=x)) r).toNat r,List.take (fI (fun x=>decide ((nth r (Geo.cE r))=x)) r).toNat r]).length<=1000/\List.flatten [List.drop (fI (fun x=>decide ((nth r (Geo.cE r))=x)) r).toNat r,List.take (fI (fun x=>decide ((nth r (Geo.cE r))=x)) r).toNat r] =Geo.dJ r)) (by kernel_rfl) (by
  change r.length<=1000 at hp;have h0:(!Geo.cO r)=false->0<r.length:=fun h=>by have:=((tR r).1 (nb h)).1;omega
  have hf:0<r.length->fI (fun x=>decide (nth r (Geo.cE r)=x)) r=(Geo.cE r:Int):=fun h=>by
   have hl:=Geo.wT h;symm;exact xJ (t:= .V) hl (decide_eq_true rfl) fun j hj=>decide_eq_false fun e=>by
    have:=Geo.wB r r.length j hj;rw[show Geo.bV r r.length=Geo.cE r from rfl,e]at this
    exact absurd ((zQ (nth r j)).symm.trans this) (by decide)
  refine⟨hp,fun h=>by unfold Geo.dJ;rw[nb' h];rfl,fun h=> ?_⟩
  have h1:=h0 h;have hl:=Geo.wT h1;rw[hf h1];have hc:[List.drop ((Geo.cE r:Nat):Int).toNat r,List.take ((Geo.cE r:Nat):Int).toNat r].flatten=Geo.dJ r:=by
   unfold Geo.dJ;rw[nb h];simp[Geo.dH]
  repeat' first|with_reducible apply And.intro|with_reducible intro
  all_goals repeat with_reducible cases‹_/\_›
  all_goals first|assumption|rfl|exact trivial|exact nb ‹_› |exact nb' ‹_› |omega|exact cQ (by omega)|(unfold ix;omega)|(unfold aJ;omega)|exact bC _|exact aE ‹_› ‹_› |(refine aE ‹_› ?_;simp_all;done)|exact hc|grind)
def aIS:Tab:=cC [(126,aKt)] aId
theorem aE8:aIS.Ok Tryz.prog:=aK aEs ⟨aMN,trivial⟩
end
end Go.Proofs.YtdaeofhdgabhjaaGreat
namespace Go.Proofs.YtdaeofhdgabhjaaGreat
open Go.RowKit
set_option maxRecDepth 100000
noncomputable section
def aPR:Ar Geo.aM where
 enc r:= .pro [.lst .V r] 0
 dec s:=match s with
  | .pro [x] 0=>Gn .V x
  |_=>none
 ok s a h:=by
  split at h
  ·have e:=pC h;show(match cR (avs [_])with|some q=>AV.p (.pro q 0)|none=> .any)=_
   rw[avs,avs,e];rfl
  ·cases h
 pl _:=⟨_,rfl⟩
def aPi:Ar Int where
 enc n:= .pro [.int .i64 n] 0
 dec s:=match s with
  | .pro [.int .i64 n] 0=>some n
  |_=>none
 ok s a h:=by(split at h<;>cases h;rfl)
 pl _:=⟨_,rfl⟩
def aCl(f:Nat){α:Type}(A:Arl α):Ar α where
 enc a:= .fnp f [] (A.enc a)
 dec s:=match s with
  | .fnp g [] b=>(match Nat.beq g f with|true=>A.dec b|false=>none)
  |_=>none
 ok s a h:=by
  split at h
  ·split at h
   ·rename_i b e;have:=A.ok _ _ h;simp only[SV.av,this];rw[Nat.eq_of_beq_eq_true e]
   ·cases h
  ·cases h
 pl a:=by
  obtain⟨q,h⟩:=A.pl a;exact⟨.fn (.func f) [] q,by simp only[SV.av,h,avs,cB];rfl⟩
def aFN:Ar (Geo.aM×Int×Unit):=aCl 180 (ac aPR (ac aPi a0))
theorem Kh{t:LT}{l:List t.ty}{q:t.ty->Bool}{j:Nat}(hj:j<l.length)(h:q (t.nth l j)=false):l.all q=false:=
 List.all_eq_false.2 ⟨_,List.getElem_mem hj,by rw[<-t.nth_eq l hj,h];simp⟩
theorem Ck{t:LT}{l:List t.ty}{q:t.ty->Bool}(h:aU (fun j=>q (t.nth l j)=true) l.length):l.all q=true:=
 List.all_eq_true.2 fun x hx=>by
  obtain⟨j,hj,rfl⟩:=List.getElem_of_mem hx;have:=h j hj;dsimp only at this;rwa[t.nth_eq l hj]at this
def aJN:Con:=con (ac aV (ac aPR (a1 aPi))) (fun(_,r,_)=>[r.length<=1000]) (fun(v,r,p)=> .bool (decide (¬Geo.dS r v=p))
 )
theorem aL7:aJN.Ok Tryz.prog 180:=aX (bK aE8) (raw:=bO) (fun(_,_,_)=>[]) (fun(_,_,_)=>⟨_,rfl⟩) fun(v,r,p) hp=>bL (q:=r.length<=1000/\decide (¬Geo.dS r v=p)=decide (¬Geo.dS r v=p)) (by kernel_rfl) (by
 change r.length<=1000 at hp
 repeat' first|with_reducible apply And.intro|with_reducible intro
 all_goals repeat with_reducible cases‹_/\_›
 all_goals first|assumption|rfl|exact trivial|exact nb ‹_› |exact nb' ‹_› |omega|exact cQ (by omega)|(unfold ix;omega)|(unfold aJ;omega)|exact bC _|exact aE ‹_› ‹_› |(refine aE ‹_› ?_;simp_all;done)|grind)
def aH9:Tab:=cC [(180,aJN)] aIS
theorem aEp:aH9.Ok Tryz.prog:=aK aE8 ⟨aL7,trivial⟩
def aJ4:Con:=con (ac (aL .V) (a1 aFN)) (fun(l,c)=>[l.length<=1000000,c.1.length<=1000]) (fun(l,c)=> .int .i64 (fI (fun v=>decide (¬Geo.dS c.1 v=c.2.1)) l))
theorem aMo:aJ4.Ok Tryz.prog 157:=aX (bK aEp) (raw:=bO) (fun(l,c)=>[cnt 2 8 l.length (aU fun j=>decide (¬Geo.dS c.1 (Geo.nth l j)=c.2.1)=false)]
  ) (fun(_,_)=>⟨_,rfl⟩) fun(l,c) hp=>bL (q:=(0=(0:Int)/\(0:Nat)<=l.length/\aU (fun j=>decide (¬Geo.dS c.1 (Geo.nth l j)=c.2.1)=false) 0)/\
 (∀x:Nat,x<=l.length/\aU (fun j=>decide (¬Geo.dS c.1 (Geo.nth l j)=c.2.1)=false) x->((x:Int)<l.length->ix (x:Int) l.length/\c.1.length<=1000/\(decide (¬Geo.dS c.1 (Geo.nth l x)=c.2.1)=true->(x:Int)=fI (fun v=>decide (¬Geo.dS c.1 v=c.2.1)) l)/\
   (decide (¬Geo.dS c.1 (Geo.nth l x)=c.2.1)=false->aJ ((x:Int)+1)/\(x:Int)+1=((x+1:Nat):Int)/\x+1<=l.length/\aU (fun j=>decide (¬Geo.dS c.1 (Geo.nth l j)=c.2.1)=false) (x+1)/\l.length-(x+1)<l.length-x))/\
  (¬(x:Int)<l.length-> -1=fI (fun v=>decide (¬Geo.dS c.1 v=c.2.1)) l))) (by kernel_rfl) (by
  change l.length<=1000000/\c.1.length<=1000 at hp
  repeat' first|with_reducible apply And.intro|with_reducible intro
  all_goals repeat with_reducible cases‹_/\_›
  all_goals first|assumption|rfl|exact trivial|exact nb ‹_› |exact nb' ‹_› |omega|exact cQ (by omega)|(unfold ix;omega)|(unfold aJ;omega)|exact bC _|exact aE ‹_› ‹_› |(refine aE ‹_› ?_;simp_all;done)|exact xJ (t:= .V) (by omega) ‹_› ‹_› |(obtain rfl:_=l.length:=Nat.le_antisymm ‹_› (by omega);exact wJ (t:= .V) ‹_›)|grind)
def aIs:Tab:=cC [(157,aJ4)] aH9
theorem aEG:aIs.Ok Tryz.prog:=aK aEp ⟨aMo,trivial⟩
def c84:Con:=con (ac (aL .V) (a1 aFN)) (fun(l,c)=>[l.length<=1000000,c.1.length<=1000]) (fun(l,c)=> .bool (l.any fun v=>decide (¬Geo.dS c.1 v=c.2.1))
 )
theorem k84:c84.Ok Tryz.prog 84:=aX (bK aEG) (raw:=bO) (fun(_,_)=>[]) (fun(_,_)=>⟨_,rfl⟩) fun(l,c) hp=>bL (q:=l.length<=1000000/\c.fst.length<=1000/\decide (0<=fI (fun v=>decide (¬Geo.dS c.fst v=c.2.1)) l)=List.any l (fun v=>decide (¬Geo.dS c.1 v=c.2.1))) (by kernel_rfl) (by
 change l.length<=1000000/\c.1.length<=1000 at hp;exact⟨hp.1,hp.2,zA _ _⟩)
def t84:Tab:=cC [(84,c84)] aIs
theorem aHd:t84.Ok Tryz.prog:=aK aEG ⟨k84,trivial⟩
def aGl:Con:=con (ac (aL .V) (ac (aL .V) (a1 aI))) (fun(r,q,_)=>[r.length<=1000,q.length<=1000]) (fun(r,q,p)=> .bool (Geo.cR r q p)
 )
theorem aJj:aGl.Ok Tryz.prog 123:=aX (bK aHd) (raw:=bO) (fun(_,_,_)=>[]) (fun(_,_,_)=>⟨_,rfl⟩) fun(r,q,p) hp=>bL (q:=r.length<=1000000/\q.length<=1000/\(!List.any r (fun v=>decide (¬Geo.dS q v=p)))=Geo.cR r q p) (by kernel_rfl) (by
 change r.length<=1000/\q.length<=1000 at hp;refine⟨by omega,hp.2,?_⟩
 unfold Geo.cR;rw[List.any_eq_not_all_not,Bool.not_not];congr 1;funext v;rw[Bool.eq_iff_iff];simp)
def aIU:Tab:=cC [(123,aGl)] t84
theorem aFa:aIU.Ok Tryz.prog:=aK aHd ⟨aJj,trivial⟩
def aGk:Con:=con (ac (aL .V) (a1 (aL .V))) (fun(a,b)=>[a.length<=1000,b.length<=1000]) (fun(a,b)=> .bool (Geo.eQ a b))
theorem aJi:aGk.Ok Tryz.prog 124:=aX (bK aFa) (raw:=bO) (fun(a,b)=>[cnt 2 12 (Geo.aD a).length (aU fun i=>((Geo.aD b).all fun y=>Geo.dQ (bB (Geo.aD a) i) y==0)=true) fun i=>[cnt 5 19 (Geo.aD b).length (aU fun k=>(Geo.dQ (bB (Geo.aD a) i) (bB (Geo.aD b) k)==0)=true)]]
  ) (fun(_,_)=>⟨_,rfl⟩) fun(a,b) hp=>bL (q:=a.length<=1000/\(0=(0:Int)/\(0:Nat)<=(Geo.aD a).length/\aU (fun i=>List.all (Geo.aD b) (fun y=>Geo.dQ (bB (Geo.aD a) i) y==0)=true) 0)/\
 (∀x:Nat,x<=(Geo.aD a).length/\aU (fun i=>List.all (Geo.aD b) (fun y=>Geo.dQ (bB (Geo.aD a) i) y==0)=true) x->((x:Int)<(Geo.aD a).length->ix (x:Int) (Geo.aD a).length/\x<(Geo.aD a).length/\b.length<=1000/\(0=(0:Int)/\(0:Nat)<=(Geo.aD b).length/\aU (fun k=>(Geo.dQ (bB (Geo.aD a) x) (bB (Geo.aD b) k)==0)=true) 0)/\
   (∀x_1:Nat,x_1<=(Geo.aD b).length/\aU (fun k=>(Geo.dQ (bB (Geo.aD a) x) (bB (Geo.aD b) k)==0)=true) x_1->((x_1:Int)<(Geo.aD b).length->ix (x_1:Int) (Geo.aD b).length/\x_1<(Geo.aD b).length/\(¬Geo.dQ (bB (Geo.aD a) x) (bB (Geo.aD b) x_1)=0->false=Geo.eQ a b)/\
     (¬(¬Geo.dQ (bB (Geo.aD a) x) (bB (Geo.aD b) x_1)=0)->aJ ((x_1:Int)+1)/\(x_1:Int)+1=((x_1+1:Nat):Int)/\x_1+1<=(Geo.aD b).length/\aU (fun k=>(Geo.dQ (bB (Geo.aD a) x) (bB (Geo.aD b) k)==0)=true) (x_1+1)/\(Geo.aD b).length-(x_1+1)<(Geo.aD b).length-x_1))/\
    (¬(x_1:Int)<(Geo.aD b).length->aJ ((x:Int)+1)/\(x:Int)+1=((x+1:Nat):Int)/\x+1<=(Geo.aD a).length/\aU (fun i=>List.all (Geo.aD b) (fun y=>Geo.dQ (bB (Geo.aD a) i) y==0)=true) (x+1)/\(Geo.aD a).length-(x+1)<(Geo.aD a).length-x)))/\
  (¬(x:Int)<(Geo.aD a).length->true=Geo.eQ a b))) (by kernel_rfl) (by
  change a.length<=1000/\b.length<=1000 at hp;have el:∀r:Geo.aM,r.length<=1000->(Geo.aD r).length<=1000:=fun r h=>by unfold Geo.aD;split<;>simp<;>omega
  have ea:=el a hp.1;have eb:=el b hp.2;have h1:∀x y:Nat,(x:Int)<(Geo.aD a).length->(y:Int)<(Geo.aD b).length->¬Geo.dQ (bB (Geo.aD a) x) (bB (Geo.aD b) y)=0->false=Geo.eQ a b:=fun x y hx hy h=>
   (Kh (t:= .S) (l:=Geo.aD a) (j:=x) (by omega) (Kh (t:= .S) (l:=Geo.aD b) (q:=fun y=>Geo.dQ (bB (Geo.aD a) x) y==0) (j:=y) (by omega) (beq_eq_false_iff_ne.2 h))).symm
  have h2:∀x:Nat,¬(x:Int)<(Geo.aD a).length->x<=(Geo.aD a).length->aU (fun i=>((Geo.aD b).all fun y=>Geo.dQ (bB (Geo.aD a) i) y==0)=true) x->true=Geo.eQ a b:=fun x hx hx2 h=>by
   obtain rfl:x=(Geo.aD a).length:=by omega
   exact(Ck (t:= .S) h).symm
  have h3:∀x y:Nat,¬(y:Int)<(Geo.aD b).length->y<=(Geo.aD b).length->aU (fun k=>(Geo.dQ (bB (Geo.aD a) x) (bB (Geo.aD b) k)==0)=true) y->((Geo.aD b).all fun z=>Geo.dQ (bB (Geo.aD a) x) z==0)=true:=fun x y hy hy2 h=>by
   obtain rfl:y=(Geo.aD b).length:=by omega
   exact Ck (t:= .S) h
  repeat' first|with_reducible apply And.intro|with_reducible intro
  all_goals repeat with_reducible cases‹_/\_›
  all_goals first|assumption|rfl|exact trivial|exact nb ‹_› |exact nb' ‹_› |omega|exact cQ (by omega)|(unfold ix;omega)|(unfold aJ;omega)|exact bC _|exact aE ‹_› ‹_› |(refine aE ‹_› ?_;simp_all;done)|exact h1 _ _ ‹_› ‹_› ‹_› |exact h2 _ ‹_› ‹_› ‹_› |exact aE ‹_› (h3 _ _ ‹_› ‹_› ‹_›)|exact aE ‹_› (beq_iff_eq.2 (Decidable.of_not_not ‹¬¬_›))|grind)
def aFV:Tab:=cC [(124,aGk)] aIU
theorem aAh:aFV.Ok Tryz.prog:=aK aFa ⟨aJi,trivial⟩
end
end Go.Proofs.YtdaeofhdgabhjaaGreat
namespace Go.Proofs.YtdaeofhdgabhjaaGreat
open Go.RowKit
theorem aDc{r n:Nat}{P:Program}{row:String}{args:Array Value}{w:World}{R:Value->World->Prop}(h:Rows P row args w R):RowsIn (Fence.wide.inRound r) n P row args w R:=
 fun c cs _=>let⟨v,w',hr,s⟩:=h c cs;⟨v,w',hr,stepsIn_wide.2 s⟩
theorem mI{r n:Nat}{P:Program}{ops:Array Oper}{Q:Exit->Act->World->Prop}(hd:∀(i:Nat) (o:Oper),ops[i]? =some o->∀c,o.op≠ .defer c)(hno:¬LetsOut Q):
  ∀(l:List Nat) (a:Act) (w:World),wpOps P ops Q l a w->wpOpsIn (Fence.wide.inRound r) n P ops Q l a w
 |[],_,_,h=>h
 |i::rest,a,w,h=>by
  unfold wpOps at h;unfold wpOpsIn;cases ho:ops[i]? with
  |none=>rw[ho]at h;exact mI hd hno rest a w h
  |some o=>
   rw[ho]at h;simp only[]at h|-;by_cases hw:Region.wanted o (yielded ops a.tmps)=true
   ·rw[if_pos hw]at h|-;rcases h with h|⟨_,h⟩
    ·refine⟨fun _ _=>trivial,?_⟩
     show o.uponIn _ n P a _ Q ((Oper.semAt (some r) a.eval o).run P w);rw[Oper.semAt_some r a.eval o (hd i o ho)];unfold Oper.wp at h;generalize (execOp a.eval o).run P w=res at h|-;cases res with
     |ok x w'=>
      cases x with
      |value v=>exact mI hd hno rest _ _ h
      |skip=>exact mI hd hno rest _ _ h
      |defer d=>exact mI hd hno rest _ _ h
      |enter f args=>
       refine⟨fun h=>by simp[Fence.wide]at h,CallsIn.inRound r (callsIn_wide.2 (Calls.mono h ?_))⟩
       intro e w'' he;cases e with
       |returned v=>exact mI hd hno rest _ _ he
       |panicked c=>exact he
       |outgrown=>exact he
      |row row args=>
       refine⟨fun h=>by simp[Fence.wide]at h,aDc (Rows.mono h ?_)⟩
       intro v w'' he;exact mI hd hno rest _ _ he
      |_=>exact h.elim
     |halt x w'=>cases x<;>first|exact h|exact h.elim
    ·exact absurd h hno
   ·rw[if_neg hw]at h|-;exact⟨fun _ _=>trivial,mI hd hno rest _ _ h⟩
def aFt(Q:Exit->Act->World->Prop):Exit->Act->World->Prop:=fun e a w=>e= .normal/\Q .normal a w
theorem aBR(Q:Exit->Act->World->Prop):¬LetsOut (aFt Q):=fun h=>by
 obtain⟨a,w,e,_⟩:=h;cases e
theorem aBQ{F:Fence}{n:Nat}{P:Program}{c:Code}{Q:Exit->Act->World->Prop}{a:Act}{w:World}(h:c.wpIn F n P (aFt Q) a w):c.wpIn F n P Q a w:=
 wpIn_mono h fun e a w he=>by obtain⟨rfl,he⟩:=he;exact he
theorem Ga{P:Program}{ops:Array Oper}{Q:Exit->Act->World->Prop}{a0:Act}{w0:World}
  (hac:∀(i:Nat) (o:Oper),ops[i]? =some o->∀e∈o.after.toList,Region.binds .any e=true->e.on<i)
  (Inv:(Nat->Bool)->Act->World->Prop) (h0:Inv (fun _=>false) a0 w0.drew)
  (hstep:∀(i:Nat) (o:Oper) (D:Nat->Bool) (a:Act) (w:World),ops[i]? =some o->Inv D a w->D i=false->(∀e∈o.after.toList,Region.binds .any e=true->D e.on=true)->
    wpOp P ops Q i (fun a' w'=>Inv (fun j=>if j=i then true else D j) a' w') a w)
  (hend:∀(D:Nat->Bool) (a:Act) (w:World),Inv D a w->(∀i,i<ops.size->D i=true)->Q .normal a w):
  wpAny P .any ops Q ops.size (Array.replicate ops.size false) a0 w0.drew:=by
 refine(Hr hac Inv hstep hend _ _ _ _ (by simp) ?_ ?_)
 ·simp
 ·have e:(fun j=>(Array.replicate ops.size false).getD j false)=(fun _=>false):=by
   funext j
   rw[Array.getD_eq_getD_getElem?,Array.getElem?_replicate];split<;>rfl
  rw[e];exact h0
theorem Lo{P:Program}{ops:Array Oper}{Q:Exit->Act->World->Prop}{a0:Act}{w0:World}
  (dsts:List Nat)
  (hok:((List.range ops.size).all fun i=>((ops[i]?).map fun o=>(o.after.toList.all fun e=> !Region.binds .any e||decide (e.on<i))&&(match o.dst with|some d=>dsts.contains d|none=>true)).getD true)=true)
  (hds:∀s∈dsts,s<a0.tmps.size)
  (F:(Nat->Bool)->(Nat->Value)->World->Prop) (h0:F (fun _=>false) (fun s=>a0.tmps.getD s undef) w0.drew)
  (hstep:∀(i:Nat) (o:Oper) (D:Nat->Bool) (V:Nat->Value) (w:World),ops[i]? =some o->F D V w->D i=false->(∀e∈o.after.toList,Region.binds .any e=true->D e.on=true)->
    (∀s,s∉dsts->V s=a0.tmps.getD s undef)->
    if Region.wanted o (gdV ops V)=true then
     cF P o V w (fun v w'=>F (fun j=>if j=i then true else D j) (match o.dst with|some d=>fun s=>if s=d then v else V s|none=>V) w')
    else F (fun j=>if j=i then true else D j) (match o.dst with|some d=>fun s=>if s=d then undef else V s|none=>V) w)
  (hend:∀(D:Nat->Bool) (V:Nat->Value) (w:World),F D V w->(∀i,i<ops.size->D i=true)->Q .normal (eD a0 dsts V) w):
  wpAny P .any ops Q ops.size (Array.replicate ops.size false) a0 w0.drew:=by
 have hops:∀(i:Nat) (o:Oper),ops[i]? =some o->(∀e∈o.after.toList,Region.binds .any e=true->e.on<i)/\(∀d,o.dst=some d->d∈dsts):=by
  intro i o ho;have hi:i<ops.size:=(Array.getElem?_eq_some_iff.1 ho).1;rw[List.all_eq_true]at hok;have:=hok i (List.mem_range.2 hi);rw[ho]at this;simp only[Option.map_some,Option.getD_some,Bool.and_eq_true]at this;obtain⟨g2,g3⟩:=this;refine⟨?_,?_⟩
  ·intro e he hb;rw[List.all_eq_true]at g2;have:=g2 e he;rw[hb]at this;simpa using this
  ·intro d hd;rw[hd]at g3;simpa using g3
 refine Ga (fun i o ho=>(hops i o ho).1) (fun D a w=>a.defers=a0.defers/\a.tmps.size=a0.tmps.size/\(∀s,s∉dsts->a.tmps.getD s undef=a0.tmps.getD s undef)/\F D (fun s=>a.tmps.getD s undef) w) ⟨rfl,rfl,fun _ _=>rfl,h0⟩ ?_ ?_
 ·intro i o D a w ho ⟨i1,i2,i3,i4⟩ hD hpre;obtain⟨_,hdst⟩:=hops i o ho;have hrun:=hstep i o D (fun s=>a.tmps.getD s undef) w ho i4 hD hpre i3
  have hput:∀(v:Value) (w':World),F (fun j=>if j=i then true else D j) (match o.dst with|some d=>fun s=>if s=d then v else a.tmps.getD s undef|none=>fun s=>a.tmps.getD s undef) w'->
    (a.put o.dst v).defers=a0.defers/\(a.put o.dst v).tmps.size=a0.tmps.size/\(∀s,s∉dsts->(a.put o.dst v).tmps.getD s undef=a0.tmps.getD s undef)/\F (fun j=>if j=i then true else D j) (fun s=>(a.put o.dst v).tmps.getD s undef) w':=by
   intro v w' hF;cases hd:o.dst with
   |none=>rw[hd]at hF;exact⟨i1,i2,i3,hF⟩
   |some d=>
    rw[hd]at hF;have hdm:=hdst d hd;have hlt:d<a.tmps.size:=by rw[i2];exact hds d hdm
    have hget:∀s,(a.put (some d) v).tmps.getD s undef=if s=d then v else a.tmps.getD s undef:=by
     intro s;simp only[Act.put,Array.getD_eq_getD_getElem?,Array.getElem?_setIfInBounds];by_cases e:d=s
     ·subst e;rw[if_pos rfl,if_pos hlt,if_pos rfl];rfl
     ·rw[if_neg e,if_neg (fun e'=>e e'.symm)]
    refine⟨i1,by simpa[Act.put]using i2,?_,?_⟩
    ·intro s hs;rw[hget,if_neg (fun e=>hs (by rw[e];exact hdm))]
     exact i3 s hs
    ·have e:(fun s=>(a.put (some d) v).tmps.getD s undef)=(fun s=>if s=d then v else a.tmps.getD s undef):=funext hget
     rw[e];exact hF
  unfold wpOp;rw[ho];simp only[];rw[pF];by_cases hw:Region.wanted o (gdV ops fun s=>a.tmps.getD s undef)=true
  ·rw[if_pos hw]at hrun|-;refine .inl ?_;unfold Oper.wp;rw[Act.eval_evalV];unfold cF at hrun;cases hr:(execOp (bI fun s=>a.tmps.getD s undef) o).run P w with
   |halt x w'=>rw[hr]at hrun;exact hrun.elim
   |ok n w'=>
    rw[hr]at hrun;cases n<;>simp only[]at hrun<;>first|exact hrun.elim|skip
    ·exact hput _ _ hrun
    ·exact hput _ _ hrun
    ·rename_i f args;show Calls P f args w' _;refine hrun.mono ?_;rintro e w'' ⟨v,rfl,hK⟩;exact hput _ _ hK
  ·rw[if_neg hw]at hrun|-;exact hput _ _ hrun
 ·intro D a w ⟨i1,i2,i3,i4⟩ hall;have:=hend D _ w i4 hall;obtain⟨p1,p2,p3⟩:=lL (fun s=>a.tmps.getD s undef) dsts a0 hds
  have e:eD a0 dsts (fun s=>a.tmps.getD s undef)=a:=by
   obtain⟨t,df⟩:=a;have ht:(eD a0 dsts (fun s=>t.getD s undef)).tmps=t:=by
    apply Array.ext
    ·rw[p2];exact i2.symm
    ·intro s h1 h2;have h3:=p3 s (by rw[<-i2];exact h2)
     rw[Array.getD_eq_getD_getElem?,Array.getElem?_eq_getElem h1,Option.getD_some]at h3;rw[h3];by_cases hm:s∈dsts
     ·rw[if_pos hm];simp[Array.getD_eq_getD_getElem?,h2]
     ·rw[if_neg hm,<-i3 s hm];simp[Array.getD_eq_getD_getElem?,h2]
   have hdf:(eD a0 dsts (fun s=>t.getD s undef)).defers=df:=p1.trans i1.symm
   show eD a0 dsts (fun s=>t.getD s undef)={tmps:=t,defers:=df}
   cases hp:eD a0 dsts (fun s=>t.getD s undef)with
   |mk t' df'=>
    rw[hp]at ht hdf;have e1:t'=t:=ht;have e2:df'=df:=hdf;rw[e1,e2]
  rw[e]at this;exact this
theorem Lq{P:Program}{l:List Oper}{Q:Exit->Act->World->Prop}{a0:Act}{w0:World}
  (dsts:List Nat) (anc:List (List Nat)) (hok:okF l anc=true) (hdst:((List.range l.length).all fun i=>cN l i==1000000||dsts.contains (cN l i))=true) (hds:∀s∈dsts,s<a0.tmps.size)
  (WR:(Nat->Bool)->World->Prop) (fact:Nat->Value->World->Prop) (h0:WR (fun _=>false) w0.drew)
  (hmono:∀j v w w',fact j v w->Below w.heap.size w w'->fact j v w')
  (hstep:qK (Ul P l anc a0 WR fact) l 0)
  (hend:∀(D:Nat->Bool) (V:Nat->Value) (w:World),(∀i,i<l.length->D i=true)->(∀i,i<l.length->fact i (fQ l V i) w)->WR D w->Q .normal (eD a0 dsts V) w):
  wpAny P .any l.toArray Q l.toArray.size (Array.replicate l.toArray.size false) a0 w0.drew:=by
 unfold okF at hok;rw[List.all_eq_true]at hok;have hget:∀i o,l[i]? =some o->i<l.length:=fun i o h=>(List.getElem?_eq_some_iff.1 h).1
 have hop:∀i o,l[i]? =some o->(∀e∈o.after.toList,Region.binds .any e=true->e.on<i/\(eT anc i).contains e.on=true)/\o.guard=none/\
   (∀j,(eT anc i).contains j=true->j<i/\∃e∈o.after.toList,Region.binds .any e=true/\(e.on=j\/(eT anc e.on).contains j=true))/\(∀d,o.dst=some d->cN l i=d/\d≠1000000)/\(o.dst=none->cN l i=1000000):=by
  intro i o ho;have h1:=hok i (List.mem_range.2 (hget i o ho));simp only[Bool.and_eq_true]at h1;obtain⟨⟨h2,h3⟩,_⟩:=h1;rw[ho]at h2;simp only[Option.map_some,Option.getD_some,Bool.and_eq_true,Option.isNone_iff_eq_none,bne_iff_ne,ne_eq]at h2;refine⟨?_,h2.1.2,?_,?_,?_⟩
  ·intro e he hb;have:=List.all_eq_true.1 h2.1.1 e he;rw[hb]at this;simpa using this
  ·intro j hj;rw[List.all_eq_true]at h3;have:=h3 j (by simpa using hj)
   simp only[Bool.and_eq_true,decide_eq_true_eq]at this;obtain⟨h4,h5⟩:=this;refine⟨h4,?_⟩;rw[ho]at h5;simp only[Option.map_some,Option.getD_some,List.any_eq_true,Bool.and_eq_true,Bool.or_eq_true,beq_iff_eq]at h5;exact h5
  ·intro d hd;refine⟨by unfold cN;rw[ho];simp[hd],?_⟩
   rintro rfl;exact h2.2 hd
  ·intro hd;unfold cN;rw[ho];simp[hd]
 have huniq:∀i j,i<l.length->j<l.length->j≠i->cN l j=cN l i->cN l i=1000000:=by
  intro i j hi hj hne he;have h1:=hok i (List.mem_range.2 hi);simp only[Bool.and_eq_true]at h1;obtain⟨_,h3⟩:=h1;rw[List.all_eq_true]at h3;have:=h3 j (List.mem_range.2 hj);simp only[Bool.or_eq_true,beq_iff_eq,bne_iff_ne,ne_eq]at this;rcases this with(h|h)|h
  ·exact absurd h hne
  ·exact absurd he h
  ·exact h
 let G:(Nat->Bool)->(Nat->Value)->World->Prop:=fun D V w=>
  (∀i j,D i=true->(eT anc i).contains j=true->D j=true)/\(∀i,i<l.length->D i=true->fact i (fQ l V i) w)/\
  (∀s,(∀j,j<l.length->cN l j=s->D j=false)->V s=a0.tmps.getD s undef)/\WR D w
 refine Lo dsts ?_ hds G ?_ ?_ ?_
 ·rw[List.all_eq_true];intro i hi;have hi':=List.mem_range.1 hi;simp only[List.size_toArray]at hi';have ho:l[i]? =some l[i] :=List.getElem?_eq_getElem hi';obtain⟨q1,q2,q3,q4,q5⟩:=hop i _ ho;simp only[List.getElem?_toArray,ho,Option.map_some,Option.getD_some,Bool.and_eq_true];refine⟨?_,?_⟩
  ·rw[List.all_eq_true];intro e he;cases hb:Region.binds .any e with
   |false=>simp
   |true=>simpa using(q1 e he hb).1
  ·cases hd:l[i].dst with
   |none=>rfl
   |some d=>
    have e1:=(q4 d hd).1;rw[List.all_eq_true]at hdst;have:=hdst i (List.mem_range.2 hi');rw[e1]at this;simp only[Bool.or_eq_true,beq_iff_eq]at this;rcases this with h|h
    ·exact absurd h (q4 d hd).2
    ·simpa using h
 ·exact⟨(fun i j h=>by cases h),(fun i _ h=>by cases h),(fun s _=>rfl),h0⟩
 ·intro i o D V w ho ⟨g1,g2,g3,g4⟩ hD hpre hV;have ho':l[i]? =some o:=by simpa using ho
  obtain⟨q1,q2,q3,q4,q5⟩:=hop i o ho';have hi:=hget i o ho';have hanc:∀j,(eT anc i).contains j=true->D j=true:=by
   intro j hj;obtain⟨_,e,he,hb,h⟩:=q3 j hj;have:=hpre e he hb;rcases h with rfl|h
   ·exact this
   ·exact g1 _ _ this h
  have hdesc:∀j,(eT anc j).contains i=true->D j=false:=by
   intro j hj;cases hx:D j with
   |false=>rfl
   |true=>rw[g1 _ _ hx hj]at hD;cases hD
  have hs:=nQ l 0 hstep i o ho';rw[Nat.zero_add]at hs;have hrun:=hs D V w hD (fun j hj=>⟨hanc j hj,g2 j (Nat.lt_trans (q3 j hj).1 hi) (hanc j hj)⟩) hdesc (fun s hsl=>g3 s (fun j hj hjs=>by
   unfold Kb at hsl;rw[List.all_eq_true]at hsl;have:=hsl j (List.mem_range.2 hj);simp only[Bool.or_eq_true,bne_iff_ne,ne_eq,beq_iff_eq]at this;rcases this with(h|h)|h
   ·exact absurd hjs h
   ·exact hdesc j h
   ·rw[h];exact hD)) g4
  rw[if_pos (by unfold Region.wanted;rw[q2])]
  have hmono':∀(K K':Value->World->Prop),(∀v w,K v w->K' v w)->cF P o V w K->cF P o V w K':=by
   intro K K' hk h;unfold cF at h|-;split at h
   ·exact hk _ _ h
   ·exact hk _ _ h
   ·exact h.mono fun e w'' ⟨v,he,hv⟩=>⟨v,he,hk _ _ hv⟩
   ·exact h.elim
  have key:∀(U:Nat->Value) (v:Value) (w':World),(∀s,s≠cN l i->U s=V s)->(cN l i≠1000000->U (cN l i)=v)->
    (fact i (if cN l i=1000000 then undef else v) w'/\WR (fX D i) w'/\(w'=w\/Below w.heap.size w w'\/∀j,D j=true->fact j (fQ l V j) w->fact j (fQ l V j) w'))->G (fX D i) U w':=by
   rintro U v w' hVd hVv ⟨k1,k2,k3⟩;refine⟨?_,?_,?_,k2⟩
   ·intro i' j h1 h2;by_cases e:j=i
    ·simp[fX,e]
    ·by_cases e':i'=i
     ·subst e';simp only[fX,e,if_false];exact hanc j h2
     ·simp only[fX,e',if_false]at h1;simp only[fX,e,if_false];exact g1 _ _ h1 h2
   ·intro i' hi' h1;by_cases e:i'=i
    ·subst e;have:fQ l U i'=if cN l i'=1000000 then undef else v:=by
      unfold fQ;by_cases h6:cN l i'=1000000
      ·rw[if_pos h6,if_pos h6]
      ·rw[if_neg h6,if_neg h6,hVv h6]
     rw[this];exact k1
    ·simp only[fX,e,if_false]at h1;have:fQ l U i'=fQ l V i':=by
      unfold fQ;by_cases h6:cN l i'=1000000
      ·rw[if_pos h6,if_pos h6]
      ·rw[if_neg h6,if_neg h6,hVd];intro h7;exact h6 (by rw[h7];exact huniq i i' hi hi' e h7)
     rw[this];have h8:=g2 i' hi' h1;rcases k3 with rfl|k3|k3
     ·exact h8
     ·exact hmono _ _ _ _ h8 k3
     ·exact k3 i' h1 h8
   ·intro s hs;have hne:s≠cN l i:=by
     intro h;have:=hs i hi h.symm;simp[fX]at this
    rw[hVd s hne];refine g3 s (fun j hj hjs=> ?_)
    have:=hs j hj hjs;by_cases e:j=i
    ·subst e;exact hD
    ·simpa[fX,e]using this
  refine hmono' _ _ ?_ hrun;intro v w' hk;show G (fX D i) _ w';cases hd:o.dst with
  |none=>
   have e1:=q5 hd;refine key _ v w' ?_ (fun h=>absurd e1 h) hk
   intro s _;rfl
  |some d=>
   have e1:=(q4 d hd).1;refine key _ v w' ?_ ?_ hk
   ·intro s hs;rw[e1]at hs;simp only[];rw[if_neg hs]
   ·intro _;rw[e1];simp
 ·intro D V w ⟨g1,g2,g3,g4⟩ hall;simp only[List.size_toArray]at hall;exact hend D V w hall (fun i hi=>g2 i hi (hall i hi)) g4
theorem pX{r n:Nat}{P:Program}{id:Nat}{l:List Oper}{Q:Exit->Act->World->Prop}{a0:Act}{w0:World}(hm:P.follows .mixedOrders=true)
  (hdf:(l.all fun o=>match o.op with| .defer _=>false|_=>true)=true)
  (dsts:List Nat) (anc:List (List Nat)) (hok:okF l anc=true) (hdst:((List.range l.length).all fun i=>cN l i==1000000||dsts.contains (cN l i))=true) (hds:∀s∈dsts,s<a0.tmps.size)
  (WR:(Nat->Bool)->World->Prop) (fact:Nat->Value->World->Prop) (h0:WR (fun _=>false) w0.drew)
  (hmono:∀j v w w',fact j v w->Below w.heap.size w w'->fact j v w')
  (hstep:qK (Ul P l anc a0 WR fact) l 0)
  (hend:∀(D:Nat->Bool) (V:Nat->Value) (w:World),(∀i,i<l.length->D i=true)->(∀i,i<l.length->fact i (fQ l V i) w)->WR D w->Q .normal (eD a0 dsts V) w):
  (Code.region id l.toArray true).wpIn (Fence.wide.inRound r) n P Q a0 w0:=by
 refine aBQ (wpIn_region_draw fun t=> ?_)
 simp only[Region.schedule,hm,Bool.true_or,if_true];refine mI ?_ (aBR Q) _ _ _ (wpAny_sound _ t _ _ _ (Lq dsts anc hok hdst hds WR fact h0 hmono hstep fun D V w h1 h2 h3=>⟨rfl,hend D V w h1 h2 h3⟩))
 intro i o ho c hc;have:=List.all_eq_true.1 hdf o (List.mem_of_getElem? (by simpa using ho))
 rw[hc]at this;cases this
end Go.Proofs.YtdaeofhdgabhjaaGreat
namespace Go.Proofs.YtdaeofhdgabhjaaGreat
open Go.RowKit
def RdV(w:World)(a:Option Addr)(xs:List Geo.V):Prop:=
 ∀i,i<xs.length->∃b off,a=some ⟨b,off,none⟩/\b<w.heap.size/\w.cell? ⟨b,off+i*2,none⟩=some (.int .i64 (Geo.nth xs i).x)/\w.cell? ⟨b,off+i*2+1,none⟩=some (.int .i64 (Geo.nth xs i).y)
theorem RdV.below{w w':World}{a:Option Addr}{xs:List Geo.V}(h:RdV w a xs)(hb:Below w.heap.size w w'):RdV w' a xs:=by
 intro i hi;obtain⟨b,off,ha,hlt,h1,h2⟩:=h i hi;exact⟨b,off,ha,Nat.lt_of_lt_of_le hlt hb.size,(hb.cell (p:=⟨b,_,none⟩) hlt).trans h1,(hb.cell (p:=⟨b,_,none⟩) hlt).trans h2⟩
def jR(xs:List Geo.S):List Value:=xs.flatMap fun s=>[.int .i64 s.a.x,.int .i64 s.a.y,.int .i64 s.b.x,.int .i64 s.b.y]
theorem yR(xs:List Geo.S):(jR xs).length=xs.length*4:=by
 induction xs with
 |nil=>rfl
 |cons s l ih=>unfold jR at*;simp only[List.flatMap_cons,List.length_append,ih,List.length_cons,List.length_nil];omega
theorem Mc(xs ys:List Geo.S):jR (xs++ys)=jR xs++jR ys:=by unfold jR;rw[List.flatMap_append]
theorem Rd.Ky{w:World}{base:Nat}{e:TypeId}{size:Nat}{v:Value}{n:Nat}{cs:List Value}(h:w.ownsRow base e size v n cs):∃a c,v= .slice a n c/\Rd w a cs/\mH base a/\(a=none->c=0)/\n<=c:=by
 obtain⟨a,c,hv,h1,h2,h3⟩:=Rd.Ro h;refine⟨a,c,hv,h1,h2,h3,?_⟩;rcases h.2 with⟨h4,h5⟩|⟨g,cap,cur,h4,_,_,h5,_⟩
 ·omega
 ·rw[hv]at h4;simp only[Value.slice.injEq]at h4;omega
theorem yM{w:World}{base base':Nat}{e:TypeId}{size:Nat}{v:Value}{n:Nat}{xs:List Value}(h:w.ownsRow base e size v n xs)(hb:base'<=base):w.ownsRow base' e size v n xs:=
 ⟨h.1,h.2.imp id fun⟨g,cap,cur,h1,h2,h3⟩=>⟨g,cap,cur,h1,Nat.le_trans hb h2,h3⟩⟩
def kY(xs:List Geo.V):List Value:=xs.flatMap fun v=>[.int .i64 v.x,.int .i64 v.y]
theorem nO(xs:List Geo.V):(kY xs).length=xs.length*2:=by
 induction xs with
 |nil=>rfl
 |cons s l ih=>unfold kY at*;simp only[List.flatMap_cons,List.length_append,ih,List.length_cons,List.length_nil];omega
theorem Yy(xs:List Geo.V):∀u∈kY xs,u.oneCell'=true:=by
 intro u hu;obtain⟨v,_,hv⟩:=List.mem_flatMap.1 hu;simp only[List.mem_cons,List.not_mem_nil,or_false]at hv;rcases hv with rfl|rfl<;>rfl
theorem zZ(xs:List Geo.V):∀(i:Nat),i<xs.length->(kY xs)[i*2]? =some (.int .i64 (Geo.nth xs i).x)/\(kY xs)[i*2+1]? =some (.int .i64 (Geo.nth xs i).y):=by
 induction xs with
 |nil=>intro i hi;simp at hi
 |cons s l ih=>
  intro i hi;have e:kY (s::l)=[.int .i64 s.x,.int .i64 s.y] ++kY l:=by unfold kY;rw[List.flatMap_cons]
  rw[e];cases i with
  |zero=>simp[Geo.nth]
  |succ i=>
   have h:=ih i (by simpa using hi)
   have e0:(i+1)*2=2+i*2:=by omega
   rw[e0,List.getElem?_append_right (by simp),List.getElem?_append_right (by simp;omega)]
   simpa[Nat.add_assoc,Nat.add_sub_cancel_left,Geo.nth]using h
theorem RdV.aK1{w:World}{a:Option Addr}{xs:List Geo.V}(h:Rd w a (kY xs)):RdV w a xs:=by
 intro i hi;obtain⟨g0,g1⟩:=zZ xs i hi;obtain⟨b,off,ha,hlt,h0⟩:=h _ _ g0;obtain⟨b',off',he,_,h1⟩:=h _ _ g1;rw[ha]at he;simp only[Option.some.injEq,Addr.mk.injEq,and_true]at he;obtain⟨rfl,rfl⟩:=he;exact⟨b,off,ha,hlt,h0,h1⟩
theorem RdV.rd{w:World}{a:Option Addr}{xs:List Geo.V}(h:RdV w a xs):Rd w a (kY xs):=by
 intro i u hi;have hlt:i<(kY xs).length:=(List.getElem?_eq_some_iff.1 hi).1;rw[nO]at hlt;obtain⟨g0,g1⟩:=zZ xs (i/2) (by omega)
 obtain⟨b,off,ha,hb,h0,h1⟩:=h (i/2) (by omega)
 refine⟨b,off,ha,hb,?_⟩;by_cases hm:i % 2=0
 ·have e:i=i/2*2:=by omega
  rw[e]at hi|-;rw[g0]at hi;cases hi;exact h0
 ·have e:i=i/2*2+1:=by omega
  rw[e]at hi|-;rw[g1]at hi;cases hi;exact h1
structure RV where
 a:Option Addr
 c:Nat
 r:Geo.aM
instance:Inhabited RV:=⟨⟨none,0,[]⟩⟩
def RV.enc(x:RV):Value:= .slice x.a x.r.length x.c
def Len(x:RV):Prop:=x.r.length<=1000/\x.r.length<=x.c/\(x.a=none->x.c=0)
def rS(w:World):bR:=fun b o v=>w.cell? ⟨b,o,none⟩=some v
theorem oL{w:World}{a:Option Addr}{c:Nat}{r:List Geo.V}(h:RdV w a r)(hl:Len ⟨a,c,r⟩):aZ (rS w) (.sl r.length (mG r)) (.slice a r.length c):=by
 obtain⟨_,h2,h3⟩:=hl;dsimp only at h2 h3;unfold aZ;refine⟨a,c,rfl,h2,fun ha=>⟨h3 ha,?_⟩,?_⟩
 ·cases r with
  |nil=>rfl
  |cons v r=>obtain⟨b,off,hb,_⟩:=h 0 (by simp);rw[ha]at hb;cases hb
 ·rintro ad rfl;refine⟨fun h0=> ?_,eJ.of _ _ _ fun i x hi=> ?_⟩
  ·obtain⟨b,off,hb,_⟩:=h 0 h0;cases hb;rfl
  ·have hlt:i<(mG r).length:=(List.getElem?_eq_some_iff.1 hi).1;rw[Hf.length]at hlt;obtain⟨b,off,hb,_,h0,h1⟩:=h (i/2) (by omega)
   cases hb;have h4:=aDF (v:=r) (i:=i/2) (by omega)
   have g:∀j,j<2->(mG r)[i/2*2+j]? =([.int .i64 (Geo.nth r (i/2)).x,.int .i64 (Geo.nth r (i/2)).y] :List PV)[j]? :=fun j hj=>by
    rw[<-h4,List.getElem?_take,if_pos hj,List.getElem?_drop]
   rcases Nat.mod_two_eq_zero_or_one i with hm|hm
   ·have:=g 0 (by decide)
    rw[show i/2*2+0=i by omega,hi]at this
    cases this;exact⟨_,by show w.cell? _=_;rw[show off+i=off+i/2*2 by omega];exact h0,rfl,by unfold aZ;rfl⟩
   ·have:=g 1 (by decide)
    rw[show i/2*2+1=i by omega,hi]at this
    cases this;exact⟨_,by show w.cell? _=_;rw[show off+i=off+i/2*2+1 by omega];exact h1,rfl,by unfold aZ;rfl⟩
theorem bZ.one{C:bR}{x:PV}{v:Value}(h:aZ C x v):bZ C [x] [v] :=by
 unfold bZ;exact⟨_,_,rfl,h,by unfold bZ;rfl⟩
theorem bZ.aAH{C:bR}{x:PV}{v:Value}{l:List PV}{vs:List Value}(h:aZ C x v)(h2:bZ C l vs):bZ C (x::l) (v::vs):=by
 unfold bZ;exact⟨_,_,rfl,h,h2⟩
theorem yG{f:FuncId}{xs:List SV}{r:SV}{B:List PV}{q:PV}{vs:List Value}{u:Value}{w:World}(h:∃A q,avs xs=A.map .p/\r.av= .p q/\Sat Tryz.prog false f A q)(hB:avs xs=B.map .p)(hq:r.av= .p q)
  (hu:∀C v,aZ C q v->v=u) (hr:bZ (rS w) B vs):Calls Tryz.prog f vs.toArray w fun e w'=>e= .returned u/\Below w.heap.size w w':=by
 obtain⟨A,q',h1,h2,h3⟩:=h;rw[hq]at h2;cases h2;rw[hB]at h1;have:B=A:=by have:=congrArg cR h1;rw[cB,cB]at this;cases this;rfl
 subst this;refine(h3.2 (rS w) w vs (fun _ _ _ h=>h) hr).mono ?_
 rintro e w' ⟨v,rfl,hv,hb⟩;exact⟨by rw[hu _ _ hv],hb⟩
theorem Gz(a:Option Addr)(c:Nat)(xs:List Geo.V)(w:World)(h:RdV w a xs)(hl:Len ⟨a,c,xs⟩):
  Calls Tryz.prog 83 #[.slice a xs.length c] w fun e w'=>e= .returned (.bool (Geo.cO xs))/\Below w.heap.size w w':=
 yG (k83 [.lst .V xs] xs rfl ((gE (l:=c83.pre xs)).1 hl.1)) (B:=[.sl xs.length (mG xs)]) rfl rfl (fun C v h=>by unfold aZ at h;exact h) (bZ.one (oL h hl))
theorem Jh(a:Option Addr)(c:Nat)(xs:List Geo.V)(w:World)(h:RdV w a xs)(hl:Len ⟨a,c,xs⟩):
  Calls Tryz.prog 89 #[.slice a xs.length c] w fun e w'=>e= .returned (.int .i64 (if Geo.cO xs then Geo.dX xs else 0))/\Below w.heap.size w w':=
 yG (k89 [.lst .V xs] xs rfl ((gE (l:=c89.pre xs)).1 hl.1)) (B:=[.sl xs.length (mG xs)]) rfl rfl (fun C v h=>by unfold aZ at h;exact h) (bZ.one (oL h hl))
theorem lJ(a:Option Addr)(c:Nat)(xs:List Geo.V)(a':Option Addr)(c':Nat)(ys:List Geo.V)(p:Int)(w:World)(h':RdV w a' ys)(hl':Len ⟨a',c',ys⟩)(h:RdV w a xs)(hl:Len ⟨a,c,xs⟩):
  Calls Tryz.prog 123 #[.slice a xs.length c,.slice a' ys.length c',.int .i64 p] w fun e w'=>e= .returned (.bool (Geo.cR xs ys p))/\Below w.heap.size w w':=
 yG (aJj [.lst .V xs,.lst .V ys,.int .i64 p] (xs,ys,p) rfl ((gE (l:=aGl.pre (xs,ys,p))).1 ⟨hl.1,hl'.1⟩)) (B:=[.sl xs.length (mG xs),.sl ys.length (mG ys),.int .i64 p]) rfl rfl (fun C v h=>by unfold aZ at h;exact h)
  ((bZ.one (by unfold aZ;rfl)).aAH (oL h' hl')|>.aAH (oL h hl))
theorem vK(a:Option Addr)(c:Nat)(xs:List Geo.V)(a':Option Addr)(c':Nat)(ys:List Geo.V)(w:World)(h:RdV w a xs)(h':RdV w a' ys)(hl:Len ⟨a,c,xs⟩)(hl':Len ⟨a',c',ys⟩):
  Calls Tryz.prog 124 #[.slice a xs.length c,.slice a' ys.length c'] w fun e w'=>e= .returned (.bool (Geo.eQ xs ys))/\Below w.heap.size w w':=
 yG (aJi [.lst .V xs,.lst .V ys] (xs,ys) rfl ((gE (l:=aGk.pre (xs,ys))).1 ⟨hl.1,hl'.1⟩)) (B:=[.sl xs.length (mG xs),.sl ys.length (mG ys)]) rfl rfl (fun C v h=>by unfold aZ at h;exact h)
  ((bZ.one (oL h' hl')).aAH (oL h hl))
theorem Zd(a:Option Addr)(c:Nat)(xs:List Geo.V)(w:World)(h:RdV w a xs)(hl:Len ⟨a,c,xs⟩):
  Calls Tryz.prog 155 #[.slice a xs.length c] w fun e w'=>∃a' c',e= .returned (.slice a' (Geo.aD xs).length c')/\Rd w' a' (jR (Geo.aD xs))/\mH w.heap.size a'/\(a'=none->c'=0)/\Below w.heap.size w w':=by
 obtain⟨A,Y,h1,h2,h3⟩:=aJg [.lst .V xs] xs rfl ((gE (l:=aGi.pre xs)).1 hl.1);cases Y with
 |cons y Y=>simp[avs]at h2
 |nil=>
 have hA:A=[.sl xs.length (mG xs)] :=by
  have h1:[AV.p (.sl xs.length (mG xs))] =A.map .p:=h1;have:=congrArg cR h1;rw[cB]at this;cases this;rfl
 subst hA;refine(h3.2.2 (rS w) w [_] (fun _ _ _ h=>h) (bZ.one (oL h hl))).mono ?_
 rintro e w' ⟨v,us,q,c',rfl,hb,hys,hrow⟩;unfold bZ at hys;subst hys;have e1:∀l:List Geo.S,jR l=(l.flatMap fun s=>[s.a.x,s.a.y,s.b.x,s.b.y]).map (Value.int .i64):=fun l=>by unfold jR;rw[List.map_flatMap];rfl
 have e2:∀l:List Geo.S,LT.S.enc l=(l.flatMap fun s=>[s.a.x,s.a.y,s.b.x,s.b.y]).map (PV.int .i64):=fun l=>by unfold LT.enc;rw[List.map_flatMap];rfl
 rcases hrow with⟨_,rfl,hm,_,_⟩|⟨b,arr,_,rfl,h4,h5,h6,_,h7,_,h8⟩
 ·have hn:Geo.aD xs=[] :=List.length_eq_zero_iff.1 hm;rw[hn];exact⟨none,0,rfl,(fun i u hi=>by simp[jR]at hi),(fun b hb=>by cases hb),(fun _=>rfl),hb⟩
 ·refine⟨some ⟨b,0,none⟩,c',rfl,fun i u hi=> ?_,fun b' hb'=>by cases hb';exact h5,(fun e=>by cases e),hb⟩
  rw[e1,List.getElem?_map,Option.map_eq_some_iff]at hi;obtain⟨n,hn,rfl⟩:=hi;obtain⟨u,g1,_,g2⟩:=h8 i (.int .i64 n) (by rw[e2,List.getElem?_map,hn];rfl)
  unfold aZ at g2;subst g2;exact⟨b,0,rfl,(Array.getElem?_eq_some_iff.1 h6).1,by rw[Nat.zero_add,cell_of_row w' b i arr 46 (0,0) h6];exact g1⟩
end Go.Proofs.YtdaeofhdgabhjaaGreat
namespace Go.Proofs.YtdaeofhdgabhjaaGreat
open Go.RowKit Go.Shelf
attribute [local go_sem] Oper.semAt_some
def RdH(n0:Nat)(w:World)(ah:Option Addr)(hs:List RV):Prop:=∀i,i<hs.length->∃b off,ah=some ⟨b,off,none⟩/\b<n0/\w.cell? ⟨b,off+i,none⟩=some (RV.enc (hs.getD i default))
theorem RdH.below{n0:Nat}{w w':World}{ah:Option Addr}{hs:List RV}(h:RdH n0 w ah hs)(hb:Below n0 w w'):RdH n0 w' ah hs:=by
 intro i hi;obtain⟨b,off,ha,hlt,h1⟩:=h i hi;exact⟨b,off,ha,hlt,(hb.cell (p:=⟨b,_,none⟩) hlt).trans h1⟩
theorem RdH.mono{n0 n1:Nat}{w:World}{ah:Option Addr}{hs:List RV}(h:RdH n0 w ah hs)(hn:n0<=n1):RdH n1 w ah hs:=by
 intro i hi;obtain⟨b,off,ha,hlt,h1⟩:=h i hi;exact⟨b,off,ha,by omega,h1⟩
def Kp2(n0 b:Nat)(W W':World):Prop:=Below n0 W W'/\W'.heap[b]? =W.heap[b]?
theorem Kp2.trans{n0 b:Nat}{A B C:World}(h:Kp2 n0 b A B)(k:Kp2 n0 b B C):Kp2 n0 b A C:=⟨h.1.trans k.1,k.2.trans h.2⟩
theorem Kp2.blk{n0 b:Nat}{W W':World}{t:TypeId}{cs:Array Value}(h:Kp2 n0 b W W')(hb:Blk W b t cs):Blk W' b t cs:=h.2.trans hb
set_option maxRecDepth 100000 in
set_option maxHeartbeats 2000000 in
theorem Yc(F:Fence)(n:Nat)(h179:F.fn 179)(hro:F.round=none)(hn:1<=n)(l b n0:Nat)(o:RV)(ah:Option Addr)(ch:Nat)(hs:List RV)(hhs:hs.length<=1000)(J Jx:List RV->World->Prop)
  (hY:∀pre x W,x∈o::hs->J pre W->pre.length<hs.length+1->YieldAt F (n-1) Tryz.prog l #[RV.enc x] W fun e W'=>
    (e= .returned (.bool true)/\J (pre++[x]) W'/\Kp2 n0 b W W')\/(e= .returned (.bool false)/\Jx (pre++[x]) W'))
  (W:World) (hB:Blk W b 26 #[RV.enc o,.slice ah hs.length ch]) (hH:RdH n0 W ah hs) (h0:J [] W):
  CallsIn F n Tryz.prog 179 #[.func (.yield l) #[] #[],.pointer (some ⟨b,0,none⟩)] W fun e W'=>(∃v,e= .returned v)/\
   ((∃ys,ys=o::hs/\J ys W')\/(∃pre,pre<+:o::hs/\Jx pre W')):=by
 obtain⟨fn,tmps,assign,body,hy,hR⟩:=hY [] o W List.mem_cons_self h0 (by simp)
 dsimp only[RV.enc]at hy;have c0:=hB.cell 0;have c1:=hB.cell 1;simp[RV.enc]at c0 c1;refine callsIn_of_wp Tryz.func179 rfl h179 ?_ hro;simp only[Tryz.ntmps179,List.size_toArray,List.length_cons,List.length_nil,Nat.reduceAdd,Nat.reduceSub,Array.replicate_succ,Array.replicate_zero,List.push_toArray,List.append_toArray,List.nil_append,List.cons_append]
 gi_wp2
 refine hR.mono ?_;rintro e W1 (⟨rfl,hJ1,hk1⟩|⟨rfl,hJx1⟩)
 ·have hB1:=hk1.blk hB;have hH1:=hH.below hk1.1;clear c0 c1 hR hy;have c0:=hB1.cell 0;have c1:=hB1.cell 1;simp[RV.enc]at c0 c1
  gi_wp2
  gi_loopw [4,13] (fun _ i wr=>∃k:Nat,k<=hs.length/\i= .int .i64 k/\J (o::hs.take k) wr/\Kp2 n0 b W1 wr) (fun _ i _=>hs.length-(intOf i).toNat)
  case atStart=>exact⟨0,by omega,rfl,by simpa using hJ1,Below.refl _ _,rfl⟩
  case round=>
   obtain⟨k,hk,rfl,hJr,hkr⟩:=hrel;by_cases hlt:k<hs.length
   ·obtain⟨bb,off,rfl,hbb,p0⟩:=hH1.below hkr.1 k hlt;have hblt:bb<wr.heap.size:=by
     rcases Nat.lt_or_ge bb wr.heap.size with h|h
     ·exact h
     ·simp[World.cell?,Array.getElem?_eq_none h]at p0
    have htk:o::hs.take (k+1)=(o::hs.take k)++[hs.getD k default] :=by
     rw[List.take_add_one,List.getD_eq_getElem?_getD,List.getElem?_eq_getElem hlt];simp
    obtain⟨fn,tmps,assign,body,hy,hR⟩:=hY (o::hs.take k) (hs.getD k default) wr (List.mem_cons_of_mem _ (by rw[List.getD_eq_getElem?_getD,List.getElem?_eq_getElem hlt];exact List.getElem_mem hlt)) hJr (by simp;omega)
    rw[<-htk]at hR;dsimp only[RV.enc]at hy;unfold RV.enc at p0;clear htk;generalize hs.getD k default=z at hy p0
    gi_wp2
    refine hR.mono ?_;rintro e W3 (⟨rfl,hJ3,hk3⟩|⟨rfl,hJx3⟩)
    ·gi_wp2
     go_roundw
     case rel=>exact⟨k+1,by omega,by go_num,hJ3,hkr.trans hk3⟩
     case measure=>simp[intOf];omega
    ·gi_wp2
     refine bodyPost_ret (results_none rfl _ _ _) rfl ?_;exact⟨⟨_,rfl⟩,.inr ⟨_,⟨hs.drop (k+1),by simp⟩,hJx3⟩⟩
   ·have hk2:k=hs.length:=by omega
    subst hk2;rw[List.take_length]at hJr
    gi_wp2
    go_end0
    exact⟨⟨_,rfl⟩,.inl ⟨_,rfl,hJr⟩⟩
 ·gi_wp2
  refine bodyPost_ret (results_none rfl _ _ _) rfl ?_;exact⟨⟨_,rfl⟩,.inr ⟨_,⟨hs,by simp⟩,hJx1⟩⟩
theorem nL(F:Fence)(n:Nat)(h179:F.fn 179)(hro:F.round=none)(hn:1<=n)(b n0:Nat)(o:RV)(ah:Option Addr)(ch:Nat)(hs:List RV)(hhs:hs.length<=1000)(w:World)(hn0:n0<=w.heap.size)(hB:Blk w b 26 #[RV.enc o,.slice ah hs.length ch])(hH:RdH n0 w ah hs):
  SeqStopsK F n Tryz.prog 179 #[.pointer (some ⟨b,0,none⟩)] (fun x:{x:RV//x∈o::hs}=> #[RV.enc x.1]) (Kp2 n0 b) (fun ys=>ys.map (·.1)=o::hs) (fun pre=>pre.map (·.1)<+:o::hs) (hs.length+1) w:=fun l J Jx W hW _ _ hY h0=>by
 refine(Yc F n h179 hro hn l b n0 o ah ch hs hhs (fun pre W=>∃p:List {x:RV//x∈o::hs},p.map (·.1)=pre/\J p W) (fun pre W=>∃p:List {x:RV//x∈o::hs},p.map (·.1)=pre/\Jx p W) ?_ W (hB.then_ hW) (hH.below (hW.mono hn0)) ⟨[],rfl,h0⟩).mono ?_
 ·rintro pre x W' hx ⟨p,rfl,hJ⟩ hl;obtain⟨fn,tmps,assign,body,hy,hR⟩:=hY p ⟨x,hx⟩ W' hJ (by simpa using hl)
  refine⟨fn,tmps,assign,body,hy,hR.mono ?_⟩;rintro e W2 (⟨rfl,h1,h2⟩|⟨rfl,h1⟩)
  ·exact .inl ⟨rfl,⟨p++[⟨x,hx⟩],by simp,h1⟩,h2⟩
  ·exact .inr ⟨rfl,⟨p++[⟨x,hx⟩],by simp,h1⟩⟩
 ·rintro e W' ⟨hv,⟨ys,rfl,p,hp,hJ⟩|⟨pre,hpre,p,rfl,hJ⟩⟩
  ·exact⟨hv,.inl ⟨p,hp,hJ⟩⟩
  ·exact⟨hv,.inr ⟨p,hpre,hJ⟩⟩
theorem Uv{n0 b:Nat}{w:World}(hn:n0<=w.heap.size)(hb:b<w.heap.size)(W:World)(l:Nat)(o o':Obj)(hl:w.heap.size<=l)(h:W.heap[l]? =some o)(h1:o.isCells=false)(h2:o.isWalk=false):Kp2 n0 b W (W.putObj l o'):=
 ⟨belowK_b hn W l o o' hl h h1 h2,World.putObj_heap_other (by omega)⟩
theorem uY(o:RV)(ah:Option Addr)(nh ch:Nat)(w:World):
  Calls Tryz.prog 122 #[.agg #[RV.enc o,.slice ah nh ch]] w fun e w'=>e= .returned (.func (.func 179) #[] #[.pointer (some ⟨w.heap.size,0,none⟩)])/\w'=w.alloc (.cells #[RV.enc o,.slice ah nh ch] 26):=by
 unfold RV.enc
 go_enter Tryz.func122,Tryz.ntmps122
 go_wp2
 go_ret
 exact⟨rfl,rfl⟩
end Go.Proofs.YtdaeofhdgabhjaaGreat
namespace Go.Proofs.YtdaeofhdgabhjaaGreat
open Go.RowKit Go.Shelf
open Geo (aC)
attribute [local go_sem] Oper.semAt_some
structure RdSh(w:World)(o:RV)(ah:Option Addr)(hs:List RV):Prop where
 h:RdH w.heap.size w ah hs
 v:∀x∈o::hs,RdV w x.a x.r/\Len x
 n:hs.length<=1000
theorem RdSh.below{w w':World}{o:RV}{ah:Option Addr}{hs:List RV}(H:RdSh w o ah hs)(hb:Below w.heap.size w w'):RdSh w' o ah hs:=
 ⟨(H.h.below hb).mono hb.size,fun x hx=>⟨(H.v x hx).1.below hb,(H.v x hx).2⟩,H.n⟩
def iO(o:RV)(hs:List RV):Geo.Shape:=⟨o.r,hs.map RV.r⟩
section
variable {F:Fence} {n:Nat} {P:Program} {fn:Func} {R:Ending->World->Prop} {a:Act} {w:World} {v:Value}
theorem Ey(hr:(results fn a.tmps).run P w= .ok v w)(hd:a.defers=[])(hR:R (.returned v) w):bodyPostM F n P fn R .ret a w:=by
 show LeavesInM F n P fn a.tmps R a.defers .returning w;rw[hd];exact⟨v,hr,hR⟩
theorem Ex{D:Nat}(hd:a.defers=[{target:= .collected D,args:= #[]}])(hK:w.heap[D]? =some (.deferred (some [])))(hr:(results fn a.tmps).run P (w.putObj D (.deferred none))= .ok v (w.putObj D (.deferred none)))
  (hR:R (.returned v) (w.putObj D (.deferred none))):bodyPostM F n P fn R .ret a w:=by
 show LeavesInM F n P fn a.tmps R a.defers .returning w;rw[hd];exact⟨by simp,.inl ⟨_,_,rfl,run_takeDeferred hK,v,hr,hR⟩⟩
end
theorem fS{n0 D:Nat}{W:World}(hD:n0<=D)(hK:W.heap[D]? =some (.deferred (some []))):Below n0 W (W.putObj D (.deferred none)):=
 (Below.refl n0 W).grown (grownBy_putObj' W D _) (by have:=(Array.getElem?_eq_some_iff.1 hK).1;omega) (fun k e=>by cases e;omega)
theorem pN{W W':World}(h:Below W.heap.size W W'):KeepsOthers W W':=
 ⟨h.size,fun k _o hk _=>(h.block k (Array.getElem?_eq_some_iff.1 hk).1).trans hk⟩
theorem lI{β:Type}{B g:Nat}{t:TypeId}{cs:β->Array Value}:OwnFrom B (fun(s:β) W=>Blk W g t (cs s)):=fun s W W' row h hg hr=>by
 have h':W.heap[g]? =some (.cells (cs s) t (0,0)):=h;show W'.heap[g]? =some (.cells (cs s) t (0,0));refine(hg.block g (Array.getElem?_eq_some_iff.1 h').1 ?_).trans h';intro e;obtain⟨_,o,ho,hc⟩:=hr g e.symm;rw[h']at ho;cases ho;cases hc
theorem sW{β:Type}{B:Nat}{p:β->Prop}:OwnFrom B (fun(s:β) (_:World)=>p s):=fun _ _ _ _ h _ _=>h
theorem aCu{W:World}{D g:Nat}{t:TypeId}{cs:Array Value}(h:Blk W g t cs)(hK:W.heap[D]? =some (.deferred (some [])))(o':Obj):Blk (W.putObj D o') g t cs:=by
 have h':W.heap[g]? =some (.cells cs t (0,0)):=h;refine(World.putObj_heap_other ?_).trans h';intro e;subst e;rw[h']at hK;cases hK
theorem sV{F:Fence}{n:Nat}{R:Ending->World->Prop}{W:World}{D s:Nat}{T:Array Value}{v:Bool}(hT:T.getD 2 undef= .pointer (some ⟨s,0,none⟩))(b2:Blk W s 4 #[.bool v])(hK:W.heap[D]? =some (.deferred (some [])))
  (hR:R (.returned (.bool v)) (W.putObj D (.deferred none))):bodyPostM F n Tryz.prog Tryz.f55 R .ret {tmps:=T,defers:=[{target:= .collected D,args:= #[]}]} W:=by
 refine Ex (v:= .bool v) rfl hK ?_ hR;have c2:=(aCu b2 hK (.deferred none)).cell 0;simp at c2;rw[Array.getD_eq_getD_getElem?]at hT;simp[results,Tryz.f55,go_sem,hT,c2]
theorem Pk{s:Geo.Shape}(h:6<s.holes.length):Geo.aR s=false:=by
 unfold Geo.aR;rw[decide_eq_false (by omega)];simp
def lF(o:Geo.aM)(L:List Geo.aM)(i:Nat):Bool:=Geo.cR (aC L i) o 2&&Geo.eQ (aC L i) o&&
 ((List.range i).all fun k=>Geo.eQ (aC L i) (aC L k)&&Geo.cR (aC L i) (aC L k) 0&&Geo.cR (aC L k) (aC L i) 0)
def Cs(L:List Geo.aM)(i k:Nat):Bool:=Geo.eQ (aC L i) (aC L k)&&Geo.cR (aC L i) (aC L k) 0&&Geo.cR (aC L k) (aC L i) 0
theorem mT(s:Geo.Shape):Geo.aR s=(decide (s.holes.length<=6)&&(Geo.aA s).all Geo.cO&&decide (Geo.eN s<=80)&&((List.range s.holes.length).all (lF s.outer s.holes))):=rfl
theorem Pm{s:Geo.Shape}{i:Nat}(hi:i<s.holes.length)(h:lF s.outer s.holes i=false):Geo.aR s=false:=by
 rw[mT];have:((List.range s.holes.length).all (lF s.outer s.holes))=false:=List.all_eq_false.2 ⟨i,List.mem_range.2 hi,by simp[h]⟩
 rw[this];simp
theorem Gc{s:Geo.Shape}(h:80<Geo.eN s):Geo.aR s=false:=by
 rw[mT,decide_eq_false (show¬Geo.eN s<=80 by omega)];simp
theorem Pj{s:Geo.Shape}{r:Geo.aM}(hr:r∈Geo.aA s)(h:Geo.cO r=false):Geo.aR s=false:=by
 rw[mT];have:((Geo.aA s).all Geo.cO)=false:=List.all_eq_false.2 ⟨r,hr,by simp[h]⟩
 rw[this];simp
theorem Se{s:Geo.Shape}(h1:¬6<s.holes.length)(h2:∀r∈Geo.aA s,Geo.cO r=true)(h3:¬80<Geo.eN s)(h4:∀i,i<s.holes.length->lF s.outer s.holes i=true):Geo.aR s=true:=by
 rw[mT,decide_eq_true (show s.holes.length<=6 by omega),decide_eq_true (show Geo.eN s<=80 by omega),List.all_eq_true.2 h2]
 simp only[Bool.true_and,Bool.and_true,List.all_eq_true,List.mem_range];exact h4
theorem Yw{o:Geo.aM}{L:List Geo.aM}{i:Nat}(h1:Geo.cR (aC L i) o 2=true)(h2:Geo.eQ (aC L i) o=true)(h3:∀k,k<i->Cs L i k=true):lF o L i=true:=by
 unfold lF;rw[h1,h2];simp only[Bool.true_and,List.all_eq_true,List.mem_range];exact h3
theorem Tl{o:Geo.aM}{L:List Geo.aM}{i:Nat}(h1:Geo.cR (aC L i) o 2=false):lF o L i=false:=by unfold lF;rw[h1];simp
theorem Tk{o:Geo.aM}{L:List Geo.aM}{i:Nat}(h1:Geo.eQ (aC L i) o=false):lF o L i=false:=by unfold lF;rw[h1];simp
theorem Tj{o:Geo.aM}{L:List Geo.aM}{i k:Nat}(hk:k<i)(h1:Cs L i k=false):lF o L i=false:=by
 unfold lF;have:((List.range i).all fun k=>Geo.eQ (aC L i) (aC L k)&&Geo.cR (aC L i) (aC L k) 0&&Geo.cR (aC L k) (aC L i) 0)=false:=List.all_eq_false.2 ⟨k,List.mem_range.2 hk,by simpa[Cs]using h1⟩
 rw[this];simp
theorem aBT(hs:List RV){k:Nat}(hk:k<hs.length):aC (hs.map RV.r) k=(hs.getD k default).r:=by
 unfold aC;simp[List.getD_eq_getElem?_getD,hk]
theorem Oq(hs:List RV){k:Nat}(hk:k<hs.length):hs.getD k default∈hs:=by
 rw[List.getD_eq_getElem?_getD,List.getElem?_eq_getElem hk];exact List.getElem_mem hk
set_option maxRecDepth 100000 in
set_option maxHeartbeats 2000000 in
theorem oT(o:RV)(ah:Option Addr)(ch:Nat)(hs:List RV)(w:World)(H:RdSh w o ah hs)(hch:hs.length<=ch):
  Calls Tryz.prog 55 #[.agg #[RV.enc o,.slice ah hs.length ch]] w fun e w'=>e= .returned (.bool (Geo.aR (iO o hs)))/\Below w.heap.size w w':=by
 have hN:=H.n;by_cases c1:6<hs.length
 ·have HV:Hid (Geo.aR (iO o hs)=false):=Lib.hid (Pk (by unfold iO;simpa using c1))
  have d1:decide ((6:Int)<hs.length)=true:=decide_eq_true (by omega)
  refine(callsIn_wide (n:=9)).1 (callsIn_of_wp_marks Tryz.func55 rfl trivial ((wpIn_wide (n:=9)).2 ?_) rfl);simp only[Tryz.ntmps55,List.size_toArray,List.length_cons,List.length_nil,Nat.reduceAdd,Nat.reduceSub,Array.replicate_succ,Array.replicate_zero,List.push_toArray,List.append_toArray,List.nil_append,List.cons_append];dsimp only[RV.enc]
  go_wp2_with fail
  have hBW:Below w.heap.size w (((w.alloc (.cells #[.slice o.a o.r.length o.c,.slice ah hs.length ch] 26)).alloc (.cells #[.bool false] 4))):=((Below.refl _ _).alloc (Nat.le_refl _) _).alloc (by simp) _
  refine Ey (v:= .bool false) ?_ rfl ?_
  ·simp[results,Tryz.f55,go_sem]
  ·exact⟨by rw[HV.out],hBW⟩
 ·have d1:decide ((6:Int)<hs.length)=false:=decide_eq_false (by omega)
  refine(callsIn_wide (n:=9)).1 (callsIn_of_wp_marks Tryz.func55 rfl trivial ((wpIn_wide (n:=9)).2 ?_) rfl);simp only[Tryz.ntmps55,List.size_toArray,List.length_cons,List.length_nil,Nat.reduceAdd,Nat.reduceSub,Array.replicate_succ,Array.replicate_zero,List.push_toArray,List.append_toArray,List.nil_append,List.cons_append];dsimp only[RV.enc]
  go_wp2_with fail
  refine(uY o ah hs.length ch _).mono ?_;rintro e w1 ⟨rfl,rfl⟩
  go_wp2_with fail
  have B1:=(((Blk.new w 26 #[.slice o.a o.r.length o.c,.slice ah hs.length ch]).alloc (.cells #[.bool false] 4)).alloc (.cells #[.int .i64 0] 3)).alloc (.cells #[RV.enc o,.slice ah hs.length ch] 26);have B2:=((Blk.new (w.alloc (.cells #[.slice o.a o.r.length o.c,.slice ah hs.length ch] 26)) 4 #[.bool false]).alloc (.cells #[.int .i64 0] 3)).alloc (.cells #[RV.enc o,.slice ah hs.length ch] 26);have B3:=(Blk.new ((w.alloc (.cells #[.slice o.a o.r.length o.c,.slice ah hs.length ch] 26)).alloc (.cells #[.bool false] 4)) 3 #[.int .i64 0]).alloc (.cells #[RV.enc o,.slice ah hs.length ch] 26);have B4:=Blk.new (((w.alloc (.cells #[.slice o.a o.r.length o.c,.slice ah hs.length ch] 26)).alloc (.cells #[.bool false] 4)).alloc (.cells #[.int .i64 0] 3)) 26 #[RV.enc o,.slice ah hs.length ch];have hBW:Below w.heap.size w ((((w.alloc (.cells #[.slice o.a o.r.length o.c,.slice ah hs.length ch] 26)).alloc (.cells #[.bool false] 4)).alloc (.cells #[.int .i64 0] 3)).alloc (.cells #[RV.enc o,.slice ah hs.length ch] 26)):=((((Below.refl _ _).alloc (Nat.le_refl _) _).alloc (by simp) _).alloc (by simp;omega) _).alloc (by simp;omega) _
  have hs0:w.heap.size+4=((((w.alloc (.cells #[.slice o.a o.r.length o.c,.slice ah hs.length ch] 26)).alloc (.cells #[.bool false] 4)).alloc (.cells #[.int .i64 0] 3)).alloc (.cells #[RV.enc o,.slice ah hs.length ch] 26)).heap.size:=by simp
  simp only[World.size_alloc]at B1 B2 B3 B4;generalize (((w.alloc (.cells #[.slice o.a o.r.length o.c,.slice ah hs.length ch] 26)).alloc (.cells #[.bool false] 4)).alloc (.cells #[.int .i64 0] 3)).alloc (.cells #[RV.enc o,.slice ah hs.length ch] 26)=W0 at B1 B2 B3 B4 hBW hs0|-;refine(wpIn_wide (n:=9)).1 ?_
  refine' wpIn_rangeFunc_ownF (F:=Fence.wide) (n:=9) rfl (by omega) (gf:=179) (lb:= #[.pointer (some ⟨w.heap.size+1+1+1,0,none⟩)]) rfl trivial (enters_of Tryz.func179 (by kernel_rfl) rfl)
   (nL Fence.wide 8 trivial rfl (by omega) (w.heap.size+1+1+1) w.heap.size o ah ch hs H.n W0 (by omega) B4 (H.h.below hBW)) Kp2.trans (Uv (by omega) (by omega)) (Below.refl _ _) (fun _=>rfl)
   (fun pre W=>((Blk W w.heap.size 26 #[.slice o.a o.r.length o.c,.slice ah hs.length ch]/\(Blk W (w.heap.size+1) 4 #[.bool false]/\Blk W (w.heap.size+1+1+1) 26 #[RV.enc o,.slice ah hs.length ch]))/\Blk W (w.heap.size+1+1) 3 #[.int .i64 ((pre.map fun x=>x.1.r.length).sum:Nat)])/\(((pre.map fun x=>x.1.r.length).sum<=1000*pre.length/\∀x∈pre,Geo.cO x.1.r=true)/\Below w.heap.size w W))
   (fun c pre W=>Blk W (w.heap.size+1) 4 #[.bool false]/\((c= .ret/\∃x∈pre,Geo.cO x.1.r=false)/\Below w.heap.size w W))
   (OwnFrom.and (OwnFrom.and (OwnFrom.and lI (OwnFrom.and lI lI)) lI) (OwnFrom.and sW (ownFrom_below (Nat.le_refl _) (by omega))))
   (fun c=>OwnFrom.and lI (OwnFrom.and sW (ownFrom_below (Nat.le_refl _) (by omega))))
   ⟨⟨⟨B1,B2,B4⟩,B3⟩,⟨by simp,by simp⟩,hBW⟩ _ ?assign ?body ?done ?stop
  case assign=>
   intro l x W K hK;dsimp only[RV.enc]
   gi_wp2
   exact hK
  case body=>
   rintro l pre ⟨⟨xa,xc,xr⟩,hxm⟩ W ⟨⟨⟨b1,b2,b4⟩,b3⟩,⟨hsum,hval⟩,hb⟩ hlen;obtain⟨hxr,hxl⟩:=H.v _ hxm;dsimp only at hxr hxl;have hxn:xr.length<=1000:=hxl.1;have HS:Hid (((pre++[(⟨⟨xa,xc,xr⟩,hxm⟩:{x:RV//x∈o::hs})]).map fun x:{x:RV//x∈o::hs}=>x.1.r.length).sum=(pre.map fun x=>x.1.r.length).sum+xr.length):=Lib.hid (by simp)
   obtain⟨S,hS⟩:∃S,S=(List.map (fun x:{x:RV//x∈o::hs}=>List.length x.1.r) pre).sum:=⟨_,rfl⟩
   rw[<-hS]at b3 hsum HS;clear hS;have hSb:S<=1001000:=by have:=H.n;omega
   have c2:=b2.cell 0;have c3:=b3.cell 0;have f2:=b2.frozen 0;have f3:=b3.frozen 0;simp at c2 c3;dsimp only[RV.enc];clear H d1 hN hBW B1 B2 B3 B4 hs0
   gi_wp2_with fail
   refine⟨trivial,(CallsIn.inRound l (callsIn_wide.2 (Gz xa xc xr _ (hxr.below (hb.setCell (p:=⟨w.heap.size+1+1,0,none⟩) (by simp;omega) _)) hxl))).mono ?_⟩
   rintro e w1 ⟨rfl,hb1⟩;have hk:KeepsOthers W w1:=(KeepsOthers.setCell W _ _).trans (pN hb1);have q2:=(b2.far (p:=⟨w.heap.size+1+1,0,none⟩) (by simp) (.int .i64 ((S:Int)+xr.length))).then_ hb1
   have q1:=(b1.far (p:=⟨w.heap.size+1+1,0,none⟩) (by simp;omega) (.int .i64 ((S:Int)+xr.length))).then_ hb1
   have q4:=(b4.far (p:=⟨w.heap.size+1+1,0,none⟩) (by simp) (.int .i64 ((S:Int)+xr.length))).then_ hb1
   have q3:=(b3.pZ 0 (.int .i64 ((S:Int)+xr.length))).then_ hb1;have hB1:Below w.heap.size W w1:=((Below.refl _ W).setCell (p:=⟨w.heap.size+1+1,0,none⟩) (by simp;omega) _).trans (hb1.mono (by have:=hb.size;simpa using this))
   have hK:Kp2 w.heap.size (w.heap.size+1+1+1) W w1:=⟨hB1,Eq.trans q4 (Eq.symm b4)⟩;clear hb1 c2 c3 f2 f3 b1 b2 b3 b4;cases hv:Geo.cO xr with
   |true=>
    gi_wp2
    refine⟨hk,hK,⟨⟨q1,q2,q4⟩,?_⟩,⟨?_,?_⟩,hb.trans hB1⟩
    ·rw[HS.out];simpa using q3
    ·rw[HS.out];simp;omega
    ·intro x hx;rcases List.mem_append.1 hx with h|h
     ·exact hval x h
     ·simp at h;subst h;exact hv
   |false=>
    have c2:=q2.cell 0;have f2:=q2.frozen 0;simp at c2
    gi_wp2
    refine⟨hk.trans (KeepsOthers.setCell _ _ _),by simpa using q2.pZ 0 (.bool false),⟨rfl,⟨_,List.mem_append.2 (.inr List.mem_cons_self),hv⟩⟩,(hb.trans hB1).setCell (p:=⟨w.heap.size+1,0,none⟩) (by simp) _⟩
  case stop=>
   rintro D c pre W hD hpre ⟨b2,⟨rfl,x,hx,hv⟩,hb⟩ hK;have HV:Hid (Geo.aR (iO o hs)=false):=Lib.hid (Pj (r:=x.1.r) (by have:=x.2;unfold iO Geo.aA;simp only[List.mem_cons]at this|-;rcases this with h|h;exact .inl (by rw[h]);exact .inr (List.mem_map.2 ⟨_,h,rfl⟩)) hv)
   gi_wp2
   exact sV rfl b2 hK ⟨by rw[HV.out],hb.trans (fS (by omega) hK)⟩
  case done=>
   rintro D xs W hD hxs ⟨⟨⟨b1,b2,b4⟩,b3⟩,⟨hsum,hval⟩,hb⟩ hK;have hN7:xs.length<=7:=by have:=congrArg List.length hxs;simp at this;omega
   have HC:(xs.map fun x=>x.1.r.length).sum=Geo.eN (iO o hs):=by
    have e:(xs.map fun x=>x.1.r.length)=(xs.map (·.1)).map fun x=>x.r.length:=by rw[List.map_map];rfl
    rw[e,hxs];unfold Geo.eN Geo.aA iO;simp[Function.comp_def]
   have HA:Hid (∀r∈Geo.aA (iO o hs),Geo.cO r=true):=Lib.hid (by
    intro r hr;have hr2:r∈(o::hs).map RV.r:=by unfold Geo.aA iO at hr;simpa using hr
    obtain⟨y,hy,rfl⟩:=List.mem_map.1 hr2;rw[<-hxs]at hy;obtain⟨z,hz,rfl⟩:=List.mem_map.1 hy;exact hval z hz)
   rw[HC]at b3 hsum;clear HC hval hxs b4 B1 B2 B3 B4;have c80':=Lib.hid (fun h:80<Geo.eN (iO o hs)=>Gc h)
   have HVA:=Lib.hid (fun(h:¬80<Geo.eN (iO o hs)) h4=>Se (s:=iO o hs) (by unfold iO;simpa using c1) HA.out h h4)
   generalize Geo.eN (iO o hs)=N at b3 hsum c80' HVA;have hNb:N<=7000:=by omega
   clear HA hsum hN7 xs;have c3:=b3.cell 0;have f2:=b2.frozen 0;have c2:=b2.cell 0;have d0:=b1.cell 0;have d1':=b1.cell 1;simp at c2 c3 d0 d1';have hne:D≠w.heap.size+1:=by omega
   have hKs:∀v,(W.setCell ⟨w.heap.size+1,0,none⟩ v).heap[D]? =some (.deferred (some [])):=fun v=>(Below.heap_setCell W ⟨w.heap.size+1,0,none⟩ v D (by simpa using hne)).trans hK
   by_cases c80:80<N
   ·have d80:decide ((80:Int)<N)=true:=decide_eq_true (by omega)
    have HV:=Lib.hid (c80'.out c80);clear c80' HVA hNb c80
    go_wp2
    exact sV rfl (by simpa using b2.pZ 0 (.bool false)) (hKs _) ⟨by rw[HV.out],(hb.setCell (p:=⟨w.heap.size+1,0,none⟩) (by simp) _).trans (fS (by omega) (hKs _))⟩
   ·have d80:decide ((80:Int)<N)=false:=decide_eq_false (by omega)
    replace HVA:=Lib.hid (HVA.out c80);clear c80' c80 hNb b3
    go_wp2_with fail
    have hDl:D<W.heap.size:=(Array.getElem?_eq_some_iff.1 hK).1;have hKX:∀wx,Below W.heap.size W wx->(wx.setCell ⟨w.heap.size+1,0,none⟩ (.bool false)).heap[D]? =some (.deferred (some [])):=fun wx h=>(Below.heap_setCell wx ⟨w.heap.size+1,0,none⟩ _ D (by simpa using hne)).trans ((h.block D hDl).trans hK)
    have hKT:∀wx,Below W.heap.size W wx->(wx.setCell ⟨w.heap.size+1,0,none⟩ (.bool true)).heap[D]? =some (.deferred (some [])):=fun wx h=>(Below.heap_setCell wx ⟨w.heap.size+1,0,none⟩ _ D (by simpa using hne)).trans ((h.block D hDl).trans hK)
    have ho:=H.v o List.mem_cons_self;have hol:(iO o hs).outer=o.r:=rfl;have hhl:(iO o hs).holes=hs.map RV.r:=rfl;have hlen:(iO o hs).holes.length=hs.length:=by rw[hhl,List.length_map]
    have HNO:=Lib.hid (fun i (hi:i<hs.length) h=>Pm (s:=iO o hs) (i:=i) (by rw[hlen];exact hi) h)
    rw[hol,hhl]at HNO;rw[hol,hhl,List.length_map]at HVA;have HM:=Lib.hid (fun k (hk:k<hs.length)=>aBT hs hk)
    clear hol hhl hlen hKs f2 c2 c3 d0 d1' hBW;have HC:=Lib.hid (fun(wx:World) (h:Below W.heap.size W wx)=>(show wx.cell? ⟨w.heap.size,0,none⟩=some (.slice o.a o.r.length o.c)/\wx.cell? ⟨w.heap.size,1,none⟩=some (.slice ah hs.length ch)/\wx.cell? ⟨w.heap.size+1,0,none⟩=some (.bool false)/\wx.frozen? ⟨w.heap.size+1,0,none⟩=false from
     ⟨by simpa using(b1.then_ h).cell 0,by simpa using(b1.then_ h).cell 1,by simpa using(b2.then_ h).cell 0,(b2.then_ h).frozen 0⟩))
    go_loopw [5,6,8,28] (fun _ _ _ i wr=>∃k:Nat,k<=hs.length/\i= .int .i64 k/\Hid (∀i,i<k->lF o.r (hs.map RV.r) i=true)/\Below W.heap.size W wr) (fun _ _ _ i _=>hs.length-(intOf i).toNat)
    case atStart=>exact⟨0,by omega,rfl,Lib.hid (fun i hi=>by omega),Below.refl _ _⟩
    case round=>
     obtain⟨k,hk,rfl,HT,hbr⟩:=hrel;by_cases hlt:k<hs.length
     ·obtain⟨bb,off,rfl,hbb,p0⟩:=H.h k hlt;have hbw:=hb.trans (hbr.mono hb.size);replace p0:=(hbw.cell (p:=⟨bb,_,none⟩) hbb).trans p0;have hx:=H.v _ (List.mem_cons_of_mem _ (Oq hs hlt));have HMk:=HM.out k hlt;obtain⟨d0,d1',e1,e2⟩:=HC.out _ hbr;have hbbr:bb<wr.heap.size:=Nat.lt_of_lt_of_le hbb hbw.size;obtain⟨⟨xa,xc,xr⟩,hz⟩:∃z,z=hs.getD k default:=⟨_,rfl⟩;rw[<-hz]at p0 hx HMk;dsimp only[RV.enc]at p0 hx HMk;clear hz;have HNK:=Lib.hid (HNO.out k hlt);cases h1:Geo.cR xr o.r 2 with
      |false=>
       have HV:=Lib.hid (HNK.out (Tl (by rw[HMk];exact h1)))
       clear HNK HMk
       go_wp2_with fail
       refine(lJ xa xc xr o.a o.c o.r 2 _ (ho.1.below hbw) ho.2 (hx.1.below hbw) hx.2).mono ?_;rintro e w1 ⟨rfl,hb1⟩;rw[h1];have hbX:=hbr.trans (hb1.mono hbr.size);clear d0 d1' e1 e2 p0 hb1;obtain⟨d0,d1',e1,e2⟩:=HC.out _ hbX
       go_wp2
       exact sV rfl (by simpa using(b2.then_ hbX).pZ 0 (.bool false)) (hKX _ hbX) ⟨by rw[HV.out],((hb.trans (hbX.mono hb.size)).setCell (p:=⟨w.heap.size+1,0,none⟩) (by simp) _).trans (fS (by omega) (hKX _ hbX))⟩
      |true=>
       go_wp2_with fail
       refine(lJ xa xc xr o.a o.c o.r 2 _ (ho.1.below hbw) ho.2 (hx.1.below hbw) hx.2).mono ?_;rintro e w1 ⟨rfl,hb1⟩;rw[h1];have hbY:=hbr.trans (hb1.mono hbr.size);have hbv:=hbw.trans (hb1.mono hbw.size);clear d0 d1' e1 e2 hb1 p0 hbr hbw;obtain⟨d0,d1',e1,e2⟩:=HC.out _ hbY;cases h2:Geo.eQ xr o.r with
       |false=>
        have HV:=Lib.hid (HNK.out (Tk (by rw[HMk];exact h2)))
        clear HNK HMk
        go_wp2_with fail
        refine(vK xa xc xr o.a o.c o.r _ (hx.1.below hbv) (ho.1.below hbv) hx.2 ho.2).mono ?_;rintro e w2 ⟨rfl,hb2⟩;rw[h2];have hbX:=hbY.trans (hb2.mono hbY.size);clear d0 d1' e1 e2 hb2;obtain⟨d0,d1',e1,e2⟩:=HC.out _ hbX
        go_wp2
        exact sV rfl (by simpa using(b2.then_ hbX).pZ 0 (.bool false)) (hKX _ hbX) ⟨by rw[HV.out],((hb.trans (hbX.mono hb.size)).setCell (p:=⟨w.heap.size+1,0,none⟩) (by simp) _).trans (fS (by omega) (hKX _ hbX))⟩
       |true=>
        go_wp2_with fail
        refine(vK xa xc xr o.a o.c o.r _ (hx.1.below hbv) (ho.1.below hbv) hx.2 ho.2).mono ?_;rintro e w2 ⟨rfl,hb2⟩;rw[h2];have hbX:=hbY.trans (hb2.mono hbY.size);clear d0 d1' e1 e2 hb2 hbY hbv hbbr;obtain⟨d0,d1',e1,e2⟩:=HC.out _ hbX;have hkc:k<=ch:=by omega
        go_wp2_with fail
        clear d0 d1' e1 e2 HNO;have hbv2:=hb.trans (hbX.mono hb.size)
        go_loopw [8,50] (fun _ i wr=>∃q:Nat,q<=k/\i= .int .i64 q/\Hid (∀i,i<q->Cs (hs.map RV.r) k i=true)/\Below W.heap.size W wr) (fun _ i _=>k-(intOf i).toNat)
        case atStart=>exact⟨0,by omega,rfl,Lib.hid (fun i hi=>by omega),hbX⟩
        case round=>
         obtain⟨q,hq,rfl,HQ,hbq⟩:=hrel;by_cases hlq:q<k
         ·have hqs:q<hs.length:=by omega
          obtain⟨bb',off',he,hbb',p0⟩:=H.h q hqs;simp only[Option.some.injEq,Addr.mk.injEq,and_true]at he;obtain⟨rfl,rfl⟩:=he;have hbw:=hb.trans (hbq.mono hb.size);replace p0:=(hbw.cell (p:=⟨bb,_,none⟩) hbb).trans p0;have hy:=H.v _ (List.mem_cons_of_mem _ (Oq hs hqs));have HMq:=HM.out q hqs;have hbbr:bb<wr.heap.size:=Nat.lt_of_lt_of_le hbb hbw.size;obtain⟨⟨ya,yc,yr⟩,hz⟩:∃z,z=hs.getD q default:=⟨_,rfl⟩;rw[<-hz]at p0 hy HMq;dsimp only[RV.enc]at p0 hy HMq;clear hz hbb';have HNQ:=Lib.hid (fun h=>HNK.out (Tj hlq h))
          have HP:Hid (Cs (hs.map RV.r) k q=(Geo.eQ xr yr&&Geo.cR xr yr 0&&Geo.cR yr xr 0)):=Lib.hid (by unfold Cs;rw[HMk,HMq])
          cases h3:Geo.eQ xr yr with
          |false=>
           have HV:=Lib.hid (HNQ.out (by rw[HP.out,h3];rfl))
           go_wp2_with fail
           refine(vK xa xc xr ya yc yr _ (hx.1.below hbw) (hy.1.below hbw) hx.2 hy.2).mono ?_;rintro e w3 ⟨rfl,hbw3⟩;rw[h3];have hbz:=hbq.trans (hbw3.mono hbq.size);have hbv3:=hbw.trans (hbw3.mono hbw.size);clear hbw3;obtain⟨d0,d1',e1,e2⟩:=HC.out _ hbz
           go_wp2
           exact sV rfl (by simpa using(b2.then_ hbz).pZ 0 (.bool false)) (hKX _ hbz) ⟨by rw[HV.out],((hb.trans (hbz.mono hb.size)).setCell (p:=⟨w.heap.size+1,0,none⟩) (by simp) _).trans (fS (by omega) (hKX _ hbz))⟩
          |true=>
           go_wp2_with fail
           refine(vK xa xc xr ya yc yr _ (hx.1.below hbw) (hy.1.below hbw) hx.2 hy.2).mono ?_;rintro e w3 ⟨rfl,hbw3⟩;rw[h3];have hbz:=hbq.trans (hbw3.mono hbq.size);have hbv3:=hbw.trans (hbw3.mono hbw.size);clear hbw3;clear p0 hbw;cases h4:Geo.cR xr yr 0 with
           |false=>
            have HV:=Lib.hid (HNQ.out (by rw[HP.out,h3,h4];rfl))
            go_wp2_with fail
            refine(lJ xa xc xr ya yc yr 0 _ (hy.1.below hbv3) hy.2 (hx.1.below hbv3) hx.2).mono ?_;rintro e w4 ⟨rfl,hbw4⟩;rw[h4];have hbz4:=hbz.trans (hbw4.mono hbz.size);have hbv4:=hbv3.trans (hbw4.mono hbv3.size);clear hbw4;obtain⟨d0,d1',e1,e2⟩:=HC.out _ hbz4
            go_wp2
            exact sV rfl (by simpa using(b2.then_ hbz4).pZ 0 (.bool false)) (hKX _ hbz4) ⟨by rw[HV.out],((hb.trans (hbz4.mono hb.size)).setCell (p:=⟨w.heap.size+1,0,none⟩) (by simp) _).trans (fS (by omega) (hKX _ hbz4))⟩
           |true=>
            go_wp2_with fail
            refine(lJ xa xc xr ya yc yr 0 _ (hy.1.below hbv3) hy.2 (hx.1.below hbv3) hx.2).mono ?_;rintro e w4 ⟨rfl,hbw4⟩;rw[h4];have hbz4:=hbz.trans (hbw4.mono hbz.size);have hbv4:=hbv3.trans (hbw4.mono hbv3.size);clear hbw4;clear hbv3;cases h5:Geo.cR yr xr 0 with
            |false=>
             have HV:=Lib.hid (HNQ.out (by rw[HP.out,h3,h4,h5];rfl))
             go_wp2_with fail
             refine(lJ ya yc yr xa xc xr 0 _ (hx.1.below hbv4) hx.2 (hy.1.below hbv4) hy.2).mono ?_;rintro e w5 ⟨rfl,hbw5⟩;rw[h5];have hbz5:=hbz4.trans (hbw5.mono hbz4.size);have hbv5:=hbv4.trans (hbw5.mono hbv4.size);clear hbw5;obtain⟨d0,d1',e1,e2⟩:=HC.out _ hbz5
             go_wp2
             exact sV rfl (by simpa using(b2.then_ hbz5).pZ 0 (.bool false)) (hKX _ hbz5) ⟨by rw[HV.out],((hb.trans (hbz5.mono hb.size)).setCell (p:=⟨w.heap.size+1,0,none⟩) (by simp) _).trans (fS (by omega) (hKX _ hbz5))⟩
            |true=>
             have HQ2:Hid (∀i,i<q+1->Cs (hs.map RV.r) k i=true):=Lib.hid (fun i hi=>by
              by_cases e:i=q
              ·subst e;rw[HP.out,h3,h4,h5];rfl
              ·exact HQ.out i (by omega))
             go_wp2_with fail
             refine(lJ ya yc yr xa xc xr 0 _ (hx.1.below hbv4) hx.2 (hy.1.below hbv4) hy.2).mono ?_;rintro e w5 ⟨rfl,hbw5⟩;rw[h5];have hbz5:=hbz4.trans (hbw5.mono hbz4.size);have hbv5:=hbv4.trans (hbw5.mono hbv4.size);clear hbw5
             go_wp2
             go_roundw
             case rel=>exact⟨q+1,by omega,by go_num,HQ2,hbz5⟩
             case measure=>simp[intOf];omega
         ·have HT2:Hid (∀i,i<k+1->lF o.r (hs.map RV.r) i=true):=Lib.hid (fun i hi=>by
           by_cases e:i=k
           ·subst e;exact Yw (by rw[HMk];exact h1) (by rw[HMk];exact h2) (fun j hj=>HQ.out j (by omega))
           ·exact HT.out i (by omega))
          go_wp2
          go_roundw
          case rel=>exact⟨k+1,by omega,by go_num,HT2,hbq⟩
          case measure=>simp[intOf];omega
     ·have HV:=Lib.hid (HVA.out (fun i hi=>HT.out i (by omega)))
      obtain⟨d0,d1',e1,e2⟩:=HC.out _ hbr
      go_wp2
      exact sV rfl (by simpa using(b2.then_ hbr).pZ 0 (.bool true)) (hKT _ hbr) ⟨by rw[HV.out],((hb.trans (hbr.mono hb.size)).setCell (p:=⟨w.heap.size+1,0,none⟩) (by simp) _).trans (fS (by omega) (hKT _ hbr))⟩
end Go.Proofs.YtdaeofhdgabhjaaGreat
namespace Go.Proofs.YtdaeofhdgabhjaaGreat
open Go.RowKit Go.Shelf
attribute [local go_sem] Oper.semAt_some
theorem tW{W W':World}{base:Nat}{e:TypeId}{size:Nat}{v:Value}{n:Nat}{xs:List Value}{row:Option Nat}(h:W.ownsRow base e size v n xs)(hg:W.grownBy W' row)(hr:∀r,row=some r->∃o:Obj,W.heap[r]? =some o/\o.isCells=false):W'.ownsRow base e size v n xs:=
 ⟨h.1,h.2.imp id fun⟨g,cap,cur,h1,h2,h3,h4⟩=>⟨g,cap,cur,h1,h2,(hg.block g (Array.getElem?_eq_some_iff.1 h3).1 (fun e=>by
   obtain⟨o,ho,hc⟩:=hr g e.symm;rw[h3]at ho;cases ho;cases hc)).trans h3,h4⟩⟩
theorem aDd{β:Type}{B bx base:Nat}{t:TypeId}{e:TypeId}{size:Nat}{n:β->Nat}{xs:β->List Value}:OwnFrom B (fun(s:β) W=>∃v,Blk W bx t #[v]/\W.ownsRow base e size v (n s) (xs s)):=fun s W W' row ⟨v,h1,h2⟩ hg hr=>
 ⟨v,lI (cs:=fun _:β=> #[v]) s W W' row h1 hg hr,tW h2 hg (fun r e=>(hr r e).2)⟩
theorem yL{W:World}{D base:Nat}{e:TypeId}{size:Nat}{v:Value}{n:Nat}{xs:List Value}(h:W.ownsRow base e size v n xs)(hK:W.heap[D]? =some (.deferred (some [])))(o':Obj):(W.putObj D o').ownsRow base e size v n xs:=
 tW h (grownBy_putObj' W D o') (fun r e=>by cases e;exact⟨_,hK,rfl⟩)
theorem Ji{W W':World}{base:Nat}{e:TypeId}{size:Nat}{v:Value}{n:Nat}{xs:List Value}(h:W.ownsRow base e size v n xs)(hg:W.grownBy W' v.ownBlock):KeepsOthers W W':=
 KeepsOthers.of_grownBy hg (fun j o hj ho=>by
  rcases h.2 with⟨h1,h2⟩|⟨g,cap,cur,h1,h2,h3,h4⟩
  ·rw[h1]at hj;simp[Value.ownBlock]at hj
  ·rw[h1]at hj;simp[Value.ownBlock]at hj;subst hj;rw[h3]at ho;cases ho;rfl)
theorem zN{F:Fence}{n:Nat}{P:Program}{fn:Func}{R:Ending->World->Prop}{W:World}{D:Nat}{T:Array Value}{t:Tmp}{v:Value}(hf:fn.results= #[.tmp t])(hT:T.getD t undef=v)(hK:W.heap[D]? =some (.deferred (some [])))
  (hR:R (.returned v) (W.putObj D (.deferred none))):bodyPostM F n P fn R .ret {tmps:=T,defers:=[{target:= .collected D,args:= #[]}]} W:=by
 refine Ex (v:=v) rfl hK ?_ hR;rw[<-hT];simp[results,hf]
theorem Yz(xs:List Geo.S):∀u∈jR xs,u.oneCell'=true:=by
 intro u hu;obtain⟨v,_,hv⟩:=List.mem_flatMap.1 hu;simp only[List.mem_cons,List.not_mem_nil,or_false]at hv;rcases hv with rfl|rfl|rfl|rfl<;>rfl
theorem Rd.grown{w w':World}{a:Option Addr}{cs:List Value}{row:Option Nat}{m:Nat}(h:Rd w a cs)(hF:mH m a)(hr:∀k,row=some k->k<m)(hg:w.grownBy w' row):Rd w' a cs:=by
 intro i u hi;obtain⟨b,off,rfl,hb,hc⟩:=h i u hi;have hm:m<=b:=hF _ rfl;refine⟨b,off,rfl,Nat.lt_of_lt_of_le hb hg.size,(World.cell?_of_block (a:=⟨b,off+i,none⟩) (hg.block b hb ?_)).trans hc⟩;intro e;have:=hr b e.symm;omega
theorem Rd.pZ{w:World}{a:Option Addr}{cs:List Value}{m:Nat}{p:Addr}{u:Value}(h:Rd w a cs)(hF:mH m a)(hp:p.block<m):Rd (w.setCell p u) a cs:=by
 intro i v hi;obtain⟨b,off,rfl,hb,hc⟩:=h i v hi;have hm:m<=b:=hF _ rfl;exact⟨b,off,rfl,by simpa using hb,(World.cell?_of_block (a:=⟨b,off+i,none⟩) (Below.heap_setCell w p u b (by omega))).trans hc⟩
theorem pJ{W:World}{base:Nat}{e:TypeId}{size:Nat}{v:Value}{n:Nat}{xs:List Value}{p:Addr}{u:Value}(h:W.ownsRow base e size v n xs)(hp:p.block<base):(W.setCell p u).ownsRow base e size v n xs:=
 ⟨h.1,h.2.imp id fun⟨g,cap,cur,h1,h2,h3,h4⟩=>⟨g,cap,cur,h1,h2,(Below.heap_setCell W p u g (by omega)).trans h3,h4⟩⟩
abbrev Mem(o:RV)(hs:List RV):={x:RV//x∈o::hs}
def hZ{o:RV}{hs:List RV}(pre:List (Mem o hs)):List Geo.S:=pre.flatMap fun x=>Geo.aD x.1.r
theorem Md{o:RV}{hs:List RV}(pre:List (Mem o hs))(x:Mem o hs):hZ (pre++[x])=hZ pre++Geo.aD x.1.r:=by unfold hZ;simp
theorem Ty{o:RV}{hs:List RV}(h:∀x∈o::hs,x.r.length<=1000)(pre:List (Mem o hs)):(hZ pre).length<=1000*pre.length:=by
 induction pre with
 |nil=>simp[hZ]
 |cons x l ih=>
  have h1:=h x.1 x.2;have h2:=tJ x.1.r;unfold hZ at*;simp only[List.flatMap_cons,List.length_append,List.length_cons];omega
theorem Qi{o:RV}{hs:List RV}{xs:List (Mem o hs)}(h:xs.map (·.1)=o::hs):hZ xs=Geo.aY (iO o hs):=by
 have e:hZ xs=(xs.map (·.1)).flatMap fun x=>Geo.aD x.r:=by unfold hZ;rw[List.flatMap_map]
 rw[e,h];unfold Geo.aY Geo.aA iO;simp[List.flatMap_cons,List.flatMap_map]
set_option maxRecDepth 100000 in
set_option maxHeartbeats 2000000 in
theorem Ge(o:RV)(ah:Option Addr)(ch:Nat)(hs:List RV)(w:World)(H:RdSh w o ah hs)(hn:hs.length<=900):
  Calls Tryz.prog 131 #[.agg #[RV.enc o,.slice ah hs.length ch]] w fun e w'=>∃v,e= .returned v/\w'.ownsRow w.heap.size 46 4 v (Geo.aY (iO o hs)).length (jR (Geo.aY (iO o hs)))/\Below w.heap.size w w':=by
 refine(callsIn_wide (n:=9)).1 (callsIn_of_wp_marks Tryz.func131 rfl trivial ((wpIn_wide (n:=9)).2 ?_) rfl);simp only[Tryz.ntmps131,List.size_toArray,List.length_cons,List.length_nil,Nat.reduceAdd,Nat.reduceSub,Array.replicate_succ,Array.replicate_zero,List.push_toArray,List.append_toArray,List.nil_append,List.cons_append];dsimp only[RV.enc]
 go_wp2_with fail
 refine(uY o ah hs.length ch _).mono ?_;rintro e w1 ⟨rfl,rfl⟩
 go_wp2_with fail
 have B3:=(Blk.new (w.alloc (.cells #[.slice o.a o.r.length o.c,.slice ah hs.length ch] 26)) 32 #[.slice none 0 0]).alloc (.cells #[RV.enc o,.slice ah hs.length ch] 26);have B4:=Blk.new ((w.alloc (.cells #[.slice o.a o.r.length o.c,.slice ah hs.length ch] 26)).alloc (.cells #[.slice none 0 0] 32)) 26 #[RV.enc o,.slice ah hs.length ch];have hBW:Below w.heap.size w ((((w.alloc (.cells #[.slice o.a o.r.length o.c,.slice ah hs.length ch] 26)).alloc (.cells #[.slice none 0 0] 32))).alloc (.cells #[RV.enc o,.slice ah hs.length ch] 26)):=(((Below.refl _ _).alloc (Nat.le_refl _) _).alloc (by simp) _).alloc (by simp;omega) _
 have hs0:w.heap.size+3=((((w.alloc (.cells #[.slice o.a o.r.length o.c,.slice ah hs.length ch] 26)).alloc (.cells #[.slice none 0 0] 32))).alloc (.cells #[RV.enc o,.slice ah hs.length ch] 26)).heap.size:=by simp
 simp only[World.size_alloc]at B3 B4;generalize (((w.alloc (.cells #[.slice o.a o.r.length o.c,.slice ah hs.length ch] 26)).alloc (.cells #[.slice none 0 0] 32))).alloc (.cells #[RV.enc o,.slice ah hs.length ch] 26)=W0 at B3 B4 hBW hs0|-;refine(wpIn_wide (n:=9)).1 ?_
 refine' wpIn_rangeFunc_ownF (F:=Fence.wide) (n:=9) rfl (by omega) (gf:=179) (lb:= #[.pointer (some ⟨w.heap.size+1+1,0,none⟩)]) rfl trivial (enters_of Tryz.func179 (by kernel_rfl) rfl)
  (nL Fence.wide 8 trivial rfl (by omega) (w.heap.size+1+1) w.heap.size o ah ch hs H.n W0 (by omega) B4 (H.h.below hBW)) Kp2.trans (Uv (by omega) (by omega)) (Below.refl _ _) (fun _=>rfl)
  (fun pre W=>(Blk W (w.heap.size+1+1) 26 #[RV.enc o,.slice ah hs.length ch]/\∃v,Blk W (w.heap.size+1) 32 #[v]/\W.ownsRow (w.heap.size+3) 46 4 v (hZ pre).length (jR (hZ pre)))/\(w.heap.size+3<=W.heap.size/\Below w.heap.size w W))
  (fun c pre W=>False/\False)
  (OwnFrom.and (OwnFrom.and lI aDd) (OwnFrom.and (fun s A B row h hg _=>Nat.le_trans h hg.size) (ownFrom_below (Nat.le_refl _) (by omega))))
  (fun c=>OwnFrom.and sW sW)
  ⟨⟨B4,_,B3,World.ownsRow_nil _ _ _ _⟩,by omega,hBW⟩ _ ?assign ?body ?done ?stop
 case assign=>
  intro l x W K hK;dsimp only[RV.enc]
  gi_wp2
  exact hK
 case stop=>
  rintro D c pre W hD hpre ⟨h,_⟩ hK;exact h.elim
 case done=>
  rintro D xs W hD hxs ⟨⟨b4,v,b3,hrow⟩,_,hb⟩ hK;have c3:=b3.cell 0;simp at c3;have hD2:w.heap.size<=D:=by omega
  rw[Qi hxs]at hrow;clear hxs b4 B3 B4 hBW hs0 hD b3
  go_wp2
  exact zN (v:=v) rfl rfl hK ⟨v,rfl,yM (yL hrow hK _) (by omega),hb.trans (fS hD2 hK)⟩
 case body=>
  rintro l pre ⟨⟨xa,xc,xr⟩,hxm⟩ W ⟨⟨b4,u3,b3,hrow⟩,hsz,hb⟩ hlen;obtain⟨hxr,hxl⟩:=H.v _ hxm;dsimp only at hxr hxl;have hxn:xr.length<=1000:=hxl.1;have HE:Hid (hZ (pre++[(⟨⟨xa,xc,xr⟩,hxm⟩:Mem o hs)])=hZ pre++Geo.aD xr):=Lib.hid (Md _ _);have hle:=Ty (fun x hx=>(H.v x hx).2.1) pre
  have hle2:=tJ xr;have hsz2:(hZ pre).length+(Geo.aD xr).length<=1000000:=by omega
  rw[show(w.heap.size+3)=w.heap.size+3 from rfl]at hrow
  generalize hZ pre=E at HE hrow hsz2;clear hle hle2 B3 B4 hBW hs0;refine wpIn_block ?_;dsimp only[RV.enc];refine pX (by kernel_rfl) (by kernel_rfl) [8,9,10,11] [[],[],[1],[0,1,2],[0,1,2,3]] (by kernel_rfl) (by kernel_rfl) (by intro s hs;simp at hs|-;omega)
   (WR3 3 4 (fun wx=>Below W.heap.size W wx) (fun wx=>Blk wx (w.heap.size+1) 32 #[u3]/\Blk wx (w.heap.size+1+1) 26 #[RV.enc o,.slice ah hs.length ch]/\Below w.heap.size w wx/\KeepsOthers W wx/\Below w.heap.size W wx/\w.heap.size+3<=wx.heap.size) (fun wx=>∃v,Blk wx (w.heap.size+1) 32 #[v]/\wx.ownsRow (w.heap.size+3) 46 4 v (E.length+(Geo.aD xr).length) (jR (E++Geo.aD xr))/\Blk wx (w.heap.size+1+1) 26 #[RV.enc o,.slice ah hs.length ch]/\Below w.heap.size w wx/\KeepsOthers W wx/\Below w.heap.size W wx/\w.heap.size+3<=wx.heap.size))
   (fun i v wx=>match i with
     |0=>v=u3
     |1=>v= .slice xa xr.length xc
     |2=>∃a c,v= .slice a (Geo.aD xr).length c/\Rd wx a (jR (Geo.aD xr))/\(a=none->c=0)/\mH W.heap.size a
     |3=>wx.ownsRow (w.heap.size+3) 46 4 v (E.length+(Geo.aD xr).length) (jR (E++Geo.aD xr))
     |4=>True
     |_=>True)
   (WR3.start (Below.refl _ _).drew) ?_ ?_ ?_
  ·intro j v wx wy hf hxy;match j with
   |0=>exact hf
   |1=>exact hf
   |2=>obtain⟨a,c,h1,h2,h3⟩:=hf;exact⟨a,c,h1,h2.below hxy,h3⟩
   |3=>exact gG hf hxy
   |4=>exact hf
   |_+5=>exact trivial
  ·refine⟨?_,?_,?_,?_,?_,trivial⟩
   ·intro D V wx hD hanc hdesc hin hWR;have hA:=hWR.lo (hdesc 3 (by kernel_rfl)) (hdesc 4 (by kernel_rfl))
    have e3:=hin 3 (by kernel_rfl)
    simp at e3;have q0:=(Blk.then_ b3 hA).cell 0;simp at q0;refine opK ?_;intro K hK;simp[cF,execOp,bI,e3,q0,go_sem];exact hK _ _ ⟨rfl,(hWR.keep (by decide) (by decide)),.inl rfl⟩
   ·intro D V wx hD hanc hdesc hin hWR;have hA:=hWR.lo (hdesc 3 (by kernel_rfl)) (hdesc 4 (by kernel_rfl))
    have e4:=hin 4 (by kernel_rfl)
    simp at e4;refine opK ?_;intro K hK;simp[cF,execOp,bI,e4,go_sem];exact hK _ _ ⟨rfl,(hWR.keep (by decide) (by decide)),.inl rfl⟩
   ·intro D V wx hD hanc hdesc hin hWR;have hA:=hWR.lo (hdesc 3 (by kernel_rfl)) (hdesc 4 (by kernel_rfl))
    have e9:V 9= .slice xa xr.length xc:=(hanc 1 (by kernel_rfl)).2
    refine opK ?_;intro K hK;simp[cF,execOp,bI,e9,go_sem];refine(Zd xa xc xr _ (hxr.below (hb.trans (hA.mono hb.size))) hxl).mono ?_;rintro e w1 ⟨a,c,rfl,hR,hF,hN,hc⟩;exact⟨_,rfl,hK _ _ ⟨⟨a,c,rfl,hR,hN,hF.mono hA.size⟩,(.mkLo (hdesc 3 (by kernel_rfl)) (hdesc 4 (by kernel_rfl)) (by decide) (by decide) (Below.then_ hA hc)),.inr (.inl hc)⟩⟩
   ·intro D V wx hD hanc hdesc hin hWR;have hA:=hWR.lo hD (hdesc 4 (by kernel_rfl))
    have e8:V 8=u3:=(hanc 0 (by kernel_rfl)).2
    have e10:=(hanc 2 (by kernel_rfl)).2
    refine opK ?_;intro K hK;obtain⟨a,c,e10,hR,hN,hF⟩:=e10;have e10:V 10=_:=e10;refine vC (.tmp 8) (.tmp 10) 32 rfl (w.heap.size+3) 46 (.agg #[.int .i64 0,.int .i64 0,.int .i64 0,.int .i64 0]) 4 32 Tryz.underlying32 (by kernel_rfl) rfl (by decide) u3 _ _ e8 (gG hrow hA) _ _ _ (jR (Geo.aD xr)) e10 (yR _) hR hN (Yz _) (by omega) (by omega) (by have:=hA.size;omega) ?_
    intro v' w' h1 h2 h3 h4;have hbx:=(Blk.then_ b3 hA);have hbr:=(Blk.then_ b4 hA);have hro:=gG hrow hA;refine hK _ _ ⟨by rw[Mc];exact h1,.mkMid (hdesc 4 (by kernel_rfl)) (by decide) ⟨mW h3 hbx (xX hro (by omega)),mW h3 hbr (xX hro (by omega)),(hb.trans (hA.mono hb.size)).trans (h2.mono (by omega)),(pN hA).trans (Ji hro h3),((Below.refl w.heap.size W).trans (hA.mono hb.size)).trans (h2.mono (by omega)),by have:=hA.size;have:=h2.size;omega⟩,.inr (.inr ?_)⟩
    intro j hj hf;match j with
    |0=>exact hf
    |1=>exact hf
    |2=>obtain⟨a,c,g1,g2,g3,g4⟩:=hf;exact⟨a,c,g1,g2.grown g4 (fun k hk=>(fN hrow k hk).2) h3,g3,g4⟩
    |3=>exact absurd (hj.symm.trans hD) (by decide)
    |4=>exact absurd (hj.symm.trans (hdesc 4 (by kernel_rfl))) (by decide)
    |_+5=>exact trivial
   ·intro D V wx hD hanc hdesc hin hWR;have hB:=hWR.mid (hanc 3 (by kernel_rfl)).1 hD
    have e3:=hin 3 (by kernel_rfl)
    simp at e3;have e11:=(hanc 3 (by kernel_rfl)).2
    refine opK ?_;intro K hK;have q0:=hB.1.cell 0;have f0:=hB.1.frozen 0;simp at q0;have e11:wx.ownsRow (w.heap.size+3) 46 4 (V 11) (E.length+(Geo.aD xr).length) (jR (E++Geo.aD xr)):=e11;have e3:V 3=_:=e3;obtain⟨ra,rc,hv11,_,_,_⟩:=Rd.Ro e11;rw[hv11]at e11;simp[cF,execOp,bI,e3,hv11,q0,f0,go_sem];refine hK _ _ ⟨trivial,.mkHi ⟨_,by simpa using hB.1.pZ 0 (.slice ra (E.length+(Geo.aD xr).length) rc),pJ e11 (by show w.heap.size+1<w.heap.size+3;omega),hB.2.1.far (by simp) _,hB.2.2.1.setCell (p:=⟨w.heap.size+1,0,none⟩) (by simp) _,hB.2.2.2.1.trans (KeepsOthers.setCell _ _ _),hB.2.2.2.2.1.setCell (p:=⟨w.heap.size+1,0,none⟩) (by simp) _,by simpa using hB.2.2.2.2.2⟩,.inr (.inr ?_)⟩
    intro j hj hf;match j with
    |0=>exact hf
    |1=>exact hf
    |2=>obtain⟨a,c,g1,g2,g3,g4⟩:=hf;exact⟨a,c,g1,g2.pZ g4 b3.lt,g3,g4⟩
    |3=>exact pJ hf (by show w.heap.size+1<_;omega)
    |4=>exact absurd (hj.symm.trans hD) (by decide)
    |_+5=>exact trivial
  intro D V wx hall hf hWR;replace hWR:=hWR.hi (hall 4 (by decide))
  have f0:V 8=u3:=hf 0 (by decide)
  have f1:V 9= .slice xa xr.length xc:=hf 1 (by decide)
  have f2:=hf 2 (by decide)
  have f3:=hf 3 (by decide)
  clear hf hall;simp only[eD,List.foldl_cons,List.foldl_nil,f0,f1];simp only[Act.put,List.setIfInBounds_toArray,List.set_cons_succ,List.set_cons_zero];clear f0 f1;obtain⟨v',k1,k2,k3,k4,k5,k6,k7⟩:=hWR;refine⟨k5,⟨k6,Eq.trans k3 (Eq.symm b4)⟩,⟨k3,v',k1,?_⟩,k7,k4⟩;rw[HE.out,List.length_append];exact k2
end Go.Proofs.YtdaeofhdgabhjaaGreat
namespace Go.Proofs.YtdaeofhdgabhjaaGreat
open Go.RowKit Go.Shelf
set_option maxRecDepth 100000
attribute [local go_sem] Oper.semAt_some
set_option maxHeartbeats 2000000 in
theorem Zk(a:Option Addr)(c:Nat)(xs:List Geo.V)(w:World)(h:RdV w a xs)(hl:xs.length<=1000):
  Calls Tryz.prog 125 #[.slice a xs.length c] w fun e w'=>∃a' c',e= .returned (.slice a' xs.length c')/\Rd w' a' (kY xs)/\mH w.heap.size a'/\(a'=none->c'=0)/\xs.length<=c'/\Below w.heap.size w w':=by
 have hq:∀(w:World) (a:Option Addr) (n c n' c':Nat),(binOp .eql 23 (.slice a n c) (.slice none n' c')).run Tryz.prog w= .ok (.bool a.isNone) w:=fun w a n c n' c'=>Lib.run_eql_slice_nil w _ _ a n c n' c' Tryz.underlying23
 cases a with
 |none=>
  have h0:xs.length=0:=by
   rcases Nat.eq_zero_or_pos xs.length with h0|h0
   ·exact h0
   ·obtain⟨b,off,he,_⟩:=h 0 h0;cases he
  have hx:xs=[] :=List.length_eq_zero_iff.1 h0;subst hx
  go_enter Tryz.func125,Tryz.ntmps125
  go_wp2
  go_ret
  exact⟨none,0,rfl,(fun i u hi=>by simp[kY]at hi),(fun b hb=>by cases hb),(fun _=>rfl),Nat.le_refl _,Below.refl _ _⟩
 |some ad=>
  go_enter Tryz.func125,Tryz.ntmps125
  go_upto_region 3 with fail
  refine Lr [2,5,6,7] [[],[],[0,1],[0,1,2]] (by kernel_rfl) (by kernel_rfl) (by intro s hs;simp at hs|-;omega)
   (WR3 0 2 (fun wx=>wx=w) (fun wx=>Blk wx w.heap.size 44 #[]/\Below w.heap.size w wx) (fun wx=>Below w.heap.size w wx))
   (fun i v wx=>match i with
     |0=>v= .slice (some ⟨w.heap.size,0,none⟩) 0 0
     |1=>v= .slice (some ad) xs.length c
     |2=>wx.ownsRow w.heap.size 44 2 v (0+xs.length) ([] ++kY xs)
     |3=>wx.ownsRow w.heap.size 44 2 v xs.length (kY xs)
     |_=>True)
   (WR3.start rfl) ?_ ?_ ?_
  ·intro j v wx wy hf hxy;match j with
   |0=>exact hf
   |1=>exact hf
   |2=>exact gG hf hxy
   |3=>exact gG hf hxy
   |_+4=>exact trivial
  ·refine⟨?_,?_,?_,?_,trivial⟩
   ·intro D V wx hD hanc hdesc hin hWR;have hA:=hWR.lo hD (hdesc 2 (by kernel_rfl))
    rw[hA];refine opK ?_;intro K hK;simp[cF,execOp,bI,go_sem];exact hK _ _ ⟨rfl,.mkMid (hdesc 2 (by kernel_rfl)) (by decide) ⟨Blk.new _ _ _,(Below.refl _ _).alloc (Nat.le_refl _) _⟩,.inr (.inl ((Below.refl _ _).alloc (Nat.le_refl _) _))⟩
   ·intro D V wx hD hanc hdesc hin hWR;have e0:=hin 0 (by kernel_rfl)
    simp at e0;refine opK ?_;intro K hK;simp[cF,execOp,bI,e0,go_sem];exact hK _ _ ⟨rfl,(hWR.keep (by decide) (by decide)),.inl rfl⟩
   ·intro D V wx hD hanc hdesc hin hWR;have hB:=hWR.mid (hanc 0 (by kernel_rfl)).1 hD
    have e5:V 5= .slice (some ⟨w.heap.size,0,none⟩) 0 0:=(hanc 0 (by kernel_rfl)).2
    have e6:V 6= .slice (some ad) xs.length c:=(hanc 1 (by kernel_rfl)).2
    refine opK ?_;intro K hK;have hrow:wx.ownsRow w.heap.size 44 2 (.slice (some ⟨w.heap.size,0,none⟩) 0 0) 0 [] :=⟨rfl,.inr ⟨_,0, #[],rfl,Nat.le_refl _,hB.1,Nat.le_refl _,by simp,by simp,by simp⟩⟩
    refine vC (.tmp 5) (.tmp 6) 23 rfl w.heap.size 44 (.agg #[.int .i64 0,.int .i64 0]) 2 16 Tryz.underlying23 (by kernel_rfl) rfl (by decide) _ _ _ e5 hrow _ _ _ (kY xs) e6 (nO _) (h.below hB.2).rd (fun h=>by cases h) (Yy _) (by omega) (by omega) hB.2.size ?_
    intro v' w' h1 h2 h3 h4;refine hK _ _ ⟨h1,.mkHi (hB.2.trans h2),.inr (.inr ?_)⟩;intro j hj hf;match j with
    |0=>exact hf
    |1=>exact hf
    |2=>exact absurd (hj.symm.trans hD) (by decide)
    |3=>exact absurd (hj.symm.trans (hdesc 3 (by kernel_rfl))) (by decide)
    |_+4=>exact trivial
   ·intro D V wx hD hanc hdesc hin hWR;have e7:=(hanc 2 (by kernel_rfl)).2
    refine opK ?_;intro K hK;simp[cF,execOp,bI,go_sem];rw[Nat.zero_add,List.nil_append]at e7;exact hK _ _ ⟨e7,(hWR.keep (by decide) (by decide)),.inl rfl⟩
  intro D V wx hall hf hWR;replace hWR:=hWR.hi (hall 2 (by decide))
  have f0:V 5= .slice (some ⟨w.heap.size,0,none⟩) 0 0:=hf 0 (by decide)
  have f1:V 6= .slice (some ad) xs.length c:=hf 1 (by decide)
  have f2:=hf 2 (by decide)
  have f3:=hf 3 (by decide)
  clear hf hall;simp only[eD,List.foldl_cons,List.foldl_nil,f0,f1];simp only[Act.put,List.setIfInBounds_toArray,List.set_cons_succ,List.set_cons_zero];clear f0 f1
  go_wp2
  go_ret
  obtain⟨a',c',hv,k1,k2,k3,k4⟩:=Rd.Ky f3;have hv:V 2=_:=hv;exact⟨a',c',by simp[hv],k1,k2,k3,k4,hWR⟩
theorem RdV.grown{w w':World}{a:Option Addr}{xs:List Geo.V}{row:Option Nat}(h:RdV w a xs)(hr:0<xs.length->∀b,a=some b->row≠some b.block)(hg:w.grownBy w' row):RdV w' a xs:=by
 intro i hi;obtain⟨b,off,rfl,hb,h0,h1⟩:=h i hi;have e:=hg.block b hb (fun e=>hr (by omega) _ rfl e.symm)
 exact⟨b,off,rfl,Nat.lt_of_lt_of_le hb hg.size,(World.cell?_of_block (a:=⟨b,_,none⟩) e).trans h0,(World.cell?_of_block (a:=⟨b,_,none⟩) e).trans h1⟩
theorem RdV.pZ{w:World}{a:Option Addr}{xs:List Geo.V}{p:Addr}{u:Value}(h:RdV w a xs)(hp:0<xs.length->∀b,a=some b->p.block≠b.block):RdV (w.setCell p u) a xs:=by
 intro i hi;obtain⟨b,off,rfl,hb,h0,h1⟩:=h i hi;have e:=Below.heap_setCell w p u b (fun e=>hp (by omega) _ rfl (by simpa using e.symm))
 exact⟨b,off,rfl,by simpa using hb,(World.cell?_of_block (a:=⟨b,_,none⟩) e).trans h0,(World.cell?_of_block (a:=⟨b,_,none⟩) e).trans h1⟩
theorem RdV.own{W W':World}{a:Option Addr}{xs:List Geo.V}{row:Option Nat}(h:RdV W a xs)(hg:W.grownBy W' row)(hr:∀r,row=some r->∃o:Obj,W.heap[r]? =some o/\o.isCells=false):RdV W' a xs:=by
 intro i hi;obtain⟨b,off,rfl,hb,h0,h1⟩:=h i hi;exact⟨b,off,rfl,Nat.lt_of_lt_of_le hb hg.size,cell_kept h0 hg hr,cell_kept h1 hg hr⟩
theorem RdV.lt{w:World}{a:Option Addr}{xs:List Geo.V}(h:RdV w a xs)(h0:0<xs.length):∀b,a=some b->b.block<w.heap.size:=by
 intro b e;obtain⟨b',off,he,hb,_⟩:=h 0 h0;rw[e]at he;cases he;exact hb
structure RingOk(base:Nat)(w:World)(v:Value)(x:RV):Prop where
 rd:RdV w x.a x.r
 fresh:mH base x.a
 cap:x.r.length<=x.c
 len:x.r.length<=1000
 sep:0<x.r.length->∀b,x.a=some b->v.ownBlock≠some b.block
structure Rings(base bx:Nat)(w:World)(v:Value)(rs:List RV):Prop where
 box:Blk w bx 24 #[v]
 row:w.ownsRow base 23 1 v rs.length (rs.map RV.enc)
 ok:∀x∈rs,RingOk base w v x
theorem Yb{β:Type}{B base bx:Nat}{p:β->List RV->Prop}:OwnFrom B (fun(s:β) W=>∃v rs,Rings base bx W v rs/\p s rs):=fun s W W' row ⟨v,rs,h,hp⟩ hg hr=>
 ⟨v,rs,⟨lI (cs:=fun _:β=> #[v]) s W W' row h.box hg hr,tW h.row hg (fun r e=>(hr r e).2),fun x hx=>⟨(h.ok x hx).rd.own hg (fun r e=>(hr r e).2),(h.ok x hx).fresh,(h.ok x hx).cap,(h.ok x hx).len,(h.ok x hx).sep⟩⟩,hp⟩
set_option maxHeartbeats 2000000 in
theorem Gd(o:RV)(ah:Option Addr)(ch:Nat)(hs:List RV)(w:World)(H:RdSh w o ah hs):
  Calls Tryz.prog 56 #[.agg #[RV.enc o,.slice ah hs.length ch]] w fun e w'=>∃(v:Value) (rs:List RV),e= .returned v/\rs.map RV.r=Geo.aA (iO o hs)/\w'.ownsRow w.heap.size 23 1 v rs.length (rs.map RV.enc)/\(∀x∈rs,RingOk w.heap.size w' v x)/\Below w.heap.size w w':=by
 refine(callsIn_wide (n:=9)).1 (callsIn_of_wp_marks Tryz.func56 rfl trivial ((wpIn_wide (n:=9)).2 ?_) rfl);simp only[Tryz.ntmps56,List.size_toArray,List.length_cons,List.length_nil,Nat.reduceAdd,Nat.reduceSub,Array.replicate_succ,Array.replicate_zero,List.push_toArray,List.append_toArray,List.nil_append,List.cons_append];dsimp only[RV.enc]
 go_wp2_with fail
 refine(uY o ah hs.length ch _).mono ?_;rintro e w1 ⟨rfl,rfl⟩
 go_wp2_with fail
 have B3:=(Blk.new (w.alloc (.cells #[.slice o.a o.r.length o.c,.slice ah hs.length ch] 26)) 24 #[.slice none 0 0]).alloc (.cells #[RV.enc o,.slice ah hs.length ch] 26);have B4:=Blk.new ((w.alloc (.cells #[.slice o.a o.r.length o.c,.slice ah hs.length ch] 26)).alloc (.cells #[.slice none 0 0] 24)) 26 #[RV.enc o,.slice ah hs.length ch];have hBW:Below w.heap.size w ((((w.alloc (.cells #[.slice o.a o.r.length o.c,.slice ah hs.length ch] 26)).alloc (.cells #[.slice none 0 0] 24))).alloc (.cells #[RV.enc o,.slice ah hs.length ch] 26)):=(((Below.refl _ _).alloc (Nat.le_refl _) _).alloc (by simp) _).alloc (by simp;omega) _
 have hs0:w.heap.size+3=((((w.alloc (.cells #[.slice o.a o.r.length o.c,.slice ah hs.length ch] 26)).alloc (.cells #[.slice none 0 0] 24))).alloc (.cells #[RV.enc o,.slice ah hs.length ch] 26)).heap.size:=by simp
 simp only[World.size_alloc]at B3 B4;generalize (((w.alloc (.cells #[.slice o.a o.r.length o.c,.slice ah hs.length ch] 26)).alloc (.cells #[.slice none 0 0] 24))).alloc (.cells #[RV.enc o,.slice ah hs.length ch] 26)=W0 at B3 B4 hBW hs0|-;refine(wpIn_wide (n:=9)).1 ?_
 refine' wpIn_rangeFunc_ownF (F:=Fence.wide) (n:=9) rfl (by omega) (gf:=179) (lb:= #[.pointer (some ⟨w.heap.size+1+1,0,none⟩)]) rfl trivial (enters_of Tryz.func179 (by kernel_rfl) rfl)
  (nL Fence.wide 8 trivial rfl (by omega) (w.heap.size+1+1) w.heap.size o ah ch hs H.n W0 (by omega) B4 (H.h.below hBW)) Kp2.trans (Uv (by omega) (by omega)) (Below.refl _ _) (fun _=>rfl)
  (fun pre W=>(Blk W (w.heap.size+1+1) 26 #[RV.enc o,.slice ah hs.length ch]/\∃v rs,Rings (w.heap.size+3) (w.heap.size+1) W v rs/\rs.map RV.r=pre.map fun x=>x.1.r)/\(w.heap.size+3<=W.heap.size/\Below w.heap.size w W))
  (fun c pre W=>False/\False)
  (OwnFrom.and (OwnFrom.and lI Yb) (OwnFrom.and (fun s A B row h hg _=>Nat.le_trans h hg.size) (ownFrom_below (Nat.le_refl _) (by omega))))
  (fun c=>OwnFrom.and sW sW)
  ⟨⟨B4,_,[],⟨B3,World.ownsRow_nil _ _ _ _,fun x hx=>by cases hx⟩,rfl⟩,by omega,hBW⟩ _ ?assign ?body ?done ?stop
 case assign=>
  intro l x W K hK;dsimp only[RV.enc]
  gi_wp2
  exact hK
 case stop=>
  rintro D c pre W hD hpre ⟨h,_⟩ hK;exact h.elim
 case done=>
  rintro D xs W hD hxs ⟨⟨b4,v,rs,hR,hm⟩,_,hb⟩ hK;have c3:=hR.box.cell 0;simp at c3;have hD2:w.heap.size<=D:=by omega
  have hm2:rs.map RV.r=Geo.aA (iO o hs):=by
   have e:(xs.map fun x=>x.1.r)=(xs.map (·.1)).map RV.r:=by rw[List.map_map];rfl
   rw[hm,e,hxs];rfl
  clear hxs b4 B3 B4 hBW hs0 hD hm;have hmk:∀x∈rs,RingOk w.heap.size (W.putObj D (.deferred none)) v x:=fun x hx=>⟨(hR.ok x hx).rd.own (grownBy_putObj' W D _) (fun r e=>by cases e;exact⟨_,hK,rfl⟩),(hR.ok x hx).fresh.mono (by omega),(hR.ok x hx).cap,(hR.ok x hx).len,(hR.ok x hx).sep⟩
  have hrow:=hR.row;clear hR
  go_wp2
  exact zN (v:=v) rfl rfl hK ⟨v,rs,rfl,hm2,yM (yL hrow hK _) (by omega),hmk,hb.trans (fS hD2 hK)⟩
 case body=>
  rintro l pre ⟨⟨xa,xc,xr⟩,hxm⟩ W ⟨⟨b4,u3,rs,hR,hm⟩,hsz,hb⟩ hlen;obtain⟨hxr,hxl⟩:=H.v _ hxm;dsimp only at hxr hxl;have hxn:xr.length<=1000:=hxl.1;have hrl:rs.length<=1001:=by have h1:=congrArg List.length hm;have h2:=H.n;simp at h1;omega
  have HE:Hid (∀rs':List RV,rs'.map RV.r=rs.map RV.r++[xr]->rs'.map RV.r=(pre++[(⟨⟨xa,xc,xr⟩,hxm⟩:Mem o hs)]).map fun x=>x.1.r):=Lib.hid (fun rs' h=>by rw[h,hm];simp)
  have b3:=hR.box;have hrow:=hR.row;clear hm B3 B4 hBW hs0;refine wpIn_block ?_;dsimp only[RV.enc];refine pX (by kernel_rfl) (by kernel_rfl) [8,9,10,11,12] [[],[],[1],[1,2],[0,1,2,3],[0,1,2,3,4]] (by kernel_rfl) (by kernel_rfl) (by intro s hs;simp at hs|-;omega)
   (WR3 4 5 (fun wx=>Below W.heap.size W wx) (fun wx=>(∀x∈rs,RdV wx x.a x.r)/\Blk wx (w.heap.size+1) 24 #[u3]/\Blk wx (w.heap.size+1+1) 26 #[RV.enc o,.slice ah hs.length ch]/\Below w.heap.size w wx/\KeepsOthers W wx/\Below w.heap.size W wx/\w.heap.size+3<=wx.heap.size) (fun wx=>∃v rs',Rings (w.heap.size+3) (w.heap.size+1) wx v rs'/\rs'.map RV.r=rs.map RV.r++[xr]/\Blk wx (w.heap.size+1+1) 26 #[RV.enc o,.slice ah hs.length ch]/\Below w.heap.size w wx/\KeepsOthers W wx/\Below w.heap.size W wx/\w.heap.size+3<=wx.heap.size))
   (fun i v wx=>match i with
     |0=>v=u3
     |1=>v= .slice xa xr.length xc
     |2=>∃a c,v= .slice a xr.length c/\RdV wx a xr/\mH W.heap.size a/\xr.length<=c
     |3=>∃a c g,v= .slice (some ⟨g,0,none⟩) 1 1/\Blk wx g 23 #[.slice a xr.length c]/\W.heap.size<=g/\RdV wx a xr/\mH W.heap.size a/\xr.length<=c
     |4=>∃a c,wx.ownsRow (w.heap.size+3) 23 1 v (rs.length+1) (rs.map RV.enc++[.slice a xr.length c])/\RdV wx a xr/\mH W.heap.size a/\xr.length<=c/\(∀k,v.ownBlock=some k->u3.ownBlock=some k\/W.heap.size<=k)/\(0<xr.length->∀b,a=some b->v.ownBlock≠some b.block)
     |5=>True
     |_=>True)
   (WR3.start (Below.refl _ _).drew) ?_ ?_ ?_
  ·intro j v wx wy hf hxy;match j with
   |0=>exact hf
   |1=>exact hf
   |2=>obtain⟨a,c,h1,h2,h3⟩:=hf;exact⟨a,c,h1,h2.below hxy,h3⟩
   |3=>obtain⟨a,c,g,h1,h2,h3,h4,h5⟩:=hf;exact⟨a,c,g,h1,h2.then_ hxy,h3,h4.below hxy,h5⟩
   |4=>obtain⟨a,c,h1,h2,h3⟩:=hf;exact⟨a,c,gG h1 hxy,h2.below hxy,h3⟩
   |5=>exact hf
   |_+6=>exact trivial
  ·refine⟨?_,?_,?_,?_,?_,?_,trivial⟩
   ·intro D V wx hD hanc hdesc hin hWR;have hA:=hWR.lo (hdesc 4 (by kernel_rfl)) (hdesc 5 (by kernel_rfl))
    have e3:=hin 3 (by kernel_rfl)
    simp at e3;have q0:=(Blk.then_ b3 hA).cell 0;simp at q0;refine opK ?_;intro K hK;simp[cF,execOp,bI,e3,q0,go_sem];exact hK _ _ ⟨rfl,(hWR.keep (by decide) (by decide)),.inl rfl⟩
   ·intro D V wx hD hanc hdesc hin hWR;have hA:=hWR.lo (hdesc 4 (by kernel_rfl)) (hdesc 5 (by kernel_rfl))
    have e4:=hin 4 (by kernel_rfl)
    simp at e4;refine opK ?_;intro K hK;simp[cF,execOp,bI,e4,go_sem];exact hK _ _ ⟨rfl,(hWR.keep (by decide) (by decide)),.inl rfl⟩
   ·intro D V wx hD hanc hdesc hin hWR;have hA:=hWR.lo (hdesc 4 (by kernel_rfl)) (hdesc 5 (by kernel_rfl))
    have e9:V 9= .slice xa xr.length xc:=(hanc 1 (by kernel_rfl)).2
    refine opK ?_;intro K hK;simp[cF,execOp,bI,e9,go_sem];refine(Zk xa xc xr _ (hxr.below (hb.trans (hA.mono hb.size))) hxl.1).mono ?_;rintro e w1 ⟨a,c,rfl,hR',hF,hN,hC,hc⟩;exact⟨_,rfl,hK _ _ ⟨⟨a,c,rfl,RdV.aK1 hR',hF.mono hA.size,hC⟩,(.mkLo (hdesc 4 (by kernel_rfl)) (hdesc 5 (by kernel_rfl)) (by decide) (by decide) (Below.then_ hA hc)),.inr (.inl hc)⟩⟩
   ·intro D V wx hD hanc hdesc hin hWR;have hA:=hWR.lo (hdesc 4 (by kernel_rfl)) (hdesc 5 (by kernel_rfl))
    have e10:=(hanc 2 (by kernel_rfl)).2
    refine opK ?_;intro K hK;obtain⟨a,c,e10,r1,r2,r3⟩:=e10;have e10:V 10=_:=e10;simp[cF,execOp,bI,e10,go_sem];refine hK _ _ ⟨⟨a,c,_,rfl,Blk.new _ _ _,hA.size,r1.below ((Below.refl _ _).alloc (Nat.le_refl _) _),r2,r3⟩,(.mkLo (hdesc 4 (by kernel_rfl)) (hdesc 5 (by kernel_rfl)) (by decide) (by decide) (hA.alloc hA.size _)),.inr (.inl ((Below.refl _ _).alloc (Nat.le_refl _) _))⟩
   ·intro D V wx hD hanc hdesc hin hWR;have hA:=hWR.lo hD (hdesc 5 (by kernel_rfl))
    have e8:V 8=u3:=(hanc 0 (by kernel_rfl)).2
    have e11:=(hanc 3 (by kernel_rfl)).2
    refine opK ?_;intro K hK;obtain⟨a,c,g,e11,k1,k2,k3,k4,k5⟩:=e11;have e11:V 11=_:=e11;refine vC (.tmp 8) (.tmp 11) 24 rfl (w.heap.size+3) 23 (.slice none 0 0) 1 24 Tryz.underlying24 (by kernel_rfl) rfl (by decide) u3 _ _ e8 (gG hrow hA) _ _ _ [.slice a xr.length c] e11 rfl (Rd.aGM k1) (fun h=>by cases h) (by intro u hu;simp at hu;subst hu;rfl) (by omega) (by omega) (by have:=hA.size;omega) ?_
    intro v' w' h1 h2 h3 h4;have hbx:=(Blk.then_ b3 hA);have hbr:=(Blk.then_ b4 hA);have hro:=gG hrow hA;have hlt:=k3.lt;refine hK _ _ ⟨⟨a,c,h1,k3.grown (fun _ b hb e=>by have:=k4 b hb;have:=(fN hrow _ e).2;omega) h3,k4,k5,(fun k hk=>(h4 k hk).imp id (fun h=>Nat.le_trans hA.size h)),(fun h0 b hb e=>by have:=hlt h0 b hb;have:=k4 b hb;rcases h4 _ e with h|h<;>first|omega|(have:=(fN hrow _ h).2;omega))⟩,.mkMid (hdesc 5 (by kernel_rfl)) (by decide) ⟨(fun x hx=>((hR.ok x hx).rd.below hA).grown (hR.ok x hx).sep h3),mW h3 hbx (xX hro (by omega)),mW h3 hbr (xX hro (by omega)),(hb.trans (hA.mono hb.size)).trans (h2.mono (by omega)),(pN hA).trans (Ji hro h3),((Below.refl w.heap.size W).trans (hA.mono hb.size)).trans (h2.mono (by omega)),by have:=hA.size;have:=h2.size;omega⟩,.inr (.inr ?_)⟩
    intro j hj hf;match j with
    |0=>exact hf
    |1=>exact hf
    |2=>obtain⟨a,c,g1,g2,g3,g4⟩:=hf;exact⟨a,c,g1,g2.grown (fun _ b hb e=>by have:=g3 b hb;have:=(fN hrow _ e).2;omega) h3,g3,g4⟩
    |3=>obtain⟨a,c,g,g1,g2,g5,g6,g3,g4⟩:=hf;exact⟨a,c,g,g1,mW h3 g2 (fun e=>by have:=(fN hrow _ e).2;omega),g5,g6.grown (fun _ b hb e=>by have:=g3 b hb;have:=(fN hrow _ e).2;omega) h3,g3,g4⟩
    |4=>exact absurd (hj.symm.trans hD) (by decide)
    |5=>exact absurd (hj.symm.trans (hdesc 5 (by kernel_rfl))) (by decide)
    |_+6=>exact trivial
   ·intro D V wx hD hanc hdesc hin hWR;have hB:=hWR.mid (hanc 4 (by kernel_rfl)).1 hD
    have e3:=hin 3 (by kernel_rfl)
    simp at e3;have e12:=(hanc 4 (by kernel_rfl)).2
    refine opK ?_;intro K hK;have q0:=hB.2.1.cell 0;have f0:=hB.2.1.frozen 0;simp at q0;obtain⟨a,c,e12,k2,k3,k4,k5,k6⟩:=e12;have e12:wx.ownsRow (w.heap.size+3) 23 1 (V 12) (rs.length+1) (rs.map RV.enc++[.slice a xr.length c]):=e12;have e3:V 3=_:=e3;have k5:∀k,(V 12).ownBlock=some k->_:=k5;have k6:0<xr.length->∀b,a=some b->(V 12).ownBlock≠some b.block:=k6;obtain⟨ra,rc,hv,_,_,_⟩:=Rd.Ro e12;rw[hv]at e12 k5 k6;simp[cF,execOp,bI,e3,hv,q0,f0,go_sem];have HRK:∀x∈rs++[(⟨a,c,xr⟩:RV)],RingOk (w.heap.size+3) (wx.setCell ⟨w.heap.size+1,0,none⟩ (.slice ra (rs.length+1) rc)) (.slice ra (rs.length+1) rc) x:=by
     intro x hx;rcases List.mem_append.1 hx with h|h
     ·have ok:=hR.ok x h;refine⟨(hB.1 x h).pZ (fun _ b hb=>by have:=ok.fresh b hb;show w.heap.size+1≠_;omega),ok.fresh,ok.cap,ok.len,fun h0 b hb e=> ?_⟩
      rcases k5 _ e with e2|e2
      ·exact ok.sep h0 b hb e2
      ·have:=ok.rd.lt h0 b hb;omega
     ·simp at h;subst h;exact⟨k2.pZ (fun _ b hb=>by have:=k3 b hb;have:=b3.lt;show w.heap.size+1≠_;omega),k3.mono hsz,k4,hxn,k6⟩
    refine hK _ _ ⟨trivial,.mkHi ⟨_,rs++[⟨a,c,xr⟩],⟨by simpa using hB.2.1.pZ 0 (.slice ra (rs.length+1) rc),by simpa[RV.enc]using pJ e12 (by show w.heap.size+1<w.heap.size+3;omega),HRK⟩,by simp,hB.2.2.1.far (by simp) _,hB.2.2.2.1.setCell (p:=⟨w.heap.size+1,0,none⟩) (by simp) _,hB.2.2.2.2.1.trans (KeepsOthers.setCell _ _ _),hB.2.2.2.2.2.1.setCell (p:=⟨w.heap.size+1,0,none⟩) (by simp) _,by simpa using hB.2.2.2.2.2.2⟩,.inr (.inr ?_)⟩
    intro j hj hf;match j with
    |0=>exact hf
    |1=>exact hf
    |2=>obtain⟨a,c,g1,g2,g3,g4⟩:=hf;exact⟨a,c,g1,g2.pZ (fun _ b hb=>by have:=g3 b hb;have:=b3.lt;show w.heap.size+1≠_;omega),g3,g4⟩
    |3=>obtain⟨a,c,g,g1,g2,g5,g6,g3,g4⟩:=hf;exact⟨a,c,g,g1,g2.far (by have:=b3.lt;show g≠w.heap.size+1;omega) _,g5,g6.pZ (fun _ b hb=>by have:=g3 b hb;have:=b3.lt;show w.heap.size+1≠_;omega),g3,g4⟩
    |4=>obtain⟨a,c,g1,g2,g3,g4,g5,g6⟩:=hf;exact⟨a,c,pJ g1 (by show w.heap.size+1<_;omega),g2.pZ (fun _ b hb=>by have:=g3 b hb;have:=b3.lt;show w.heap.size+1≠_;omega),g3,g4,g5,g6⟩
    |5=>exact absurd (hj.symm.trans hD) (by decide)
    |_+6=>exact trivial
  intro D V wx hall hf hWR;replace hWR:=hWR.hi (hall 5 (by decide))
  have f0:V 8=u3:=hf 0 (by decide)
  have f1:V 9= .slice xa xr.length xc:=hf 1 (by decide)
  have f2:=hf 2 (by decide)
  have f3:=hf 3 (by decide)
  have f4:=hf 4 (by decide)
  clear hf hall;simp only[eD,List.foldl_cons,List.foldl_nil,f0,f1];simp only[Act.put,List.setIfInBounds_toArray,List.set_cons_succ,List.set_cons_zero];clear f0 f1;obtain⟨v',rs',k1,k2,k3,k4,k5,k6,k7⟩:=hWR;exact⟨k5,⟨k6,Eq.trans k3 (Eq.symm b4)⟩,⟨k3,v',rs',k1,HE.out _ k2⟩,k7,k4⟩
end Go.Proofs.YtdaeofhdgabhjaaGreat
namespace Go.Proofs.YtdaeofhdgabhjaaGreat
open Go.RowKit Go.Shelf
attribute [local go_sem] Oper.semAt_some
def gZ(s:Geo.Shape):Int:=Geo.dX s.outer-(s.holes.map Geo.dX).sum
theorem Ci{xs:List Geo.V}(h:Geo.cO xs=true): -8000000000<=Geo.dX xs/\Geo.dX xs<=8000000000:=by
 have V:=(Geo.eZ xs).1 h;have h:=Cw V.near xs.length (Nat.le_refl _);have e:ar xs xs.length=Geo.dX xs:=rfl;have:=V.most;rw[e]at h;omega
def gD{o:RV}{hs:List RV}(pre:List (Mem o hs)):Int:=(pre.map fun x=>Geo.dX x.1.r).sum
theorem Mi{o:RV}{hs:List RV}(pre:List (Mem o hs))(x:Mem o hs):gD (pre++[x])=gD pre+Geo.dX x.1.r:=by unfold gD;simp
theorem Ug{o:RV}{hs:List RV}(hv:∀x∈o::hs,Geo.cO x.r=true)(pre:List (Mem o hs)): -(8000000000*(pre.length:Int))<=gD pre/\gD pre<=8000000000*(pre.length:Int):=by
 induction pre with
 |nil=>simp[gD]
 |cons x l ih=>
  have:=Ci (hv x.1 x.2);unfold gD at*;simp only[List.map_cons,List.sum_cons,List.length_cons];omega
theorem Qo{o:RV}{hs:List RV}{xs:List (Mem o hs)}(h:xs.map (·.1)=o::hs):Geo.dX o.r*2-gD xs=gZ (iO o hs):=by
 have e:(xs.map fun x=>Geo.dX x.1.r)=(xs.map (·.1)).map fun x=>Geo.dX x.r:=by rw[List.map_map];rfl
 unfold gD gZ iO;rw[e,h];simp only[List.map_cons,List.sum_cons,List.map_map,Function.comp_def];omega
theorem Ls{s:Geo.Shape}(h:Geo.aR s=true):∀r∈Geo.aA s,Geo.cO r=true:=by
 rw[mT]at h;simp only[Bool.and_eq_true]at h;exact List.all_eq_true.1 h.1.1.2
set_option maxRecDepth 100000 in
set_option maxHeartbeats 2000000 in
theorem Gv(o:RV)(ah:Option Addr)(ch:Nat)(hs:List RV)(w:World)(H:RdSh w o ah hs)(hch:hs.length<=ch):
  Calls Tryz.prog 90 #[.agg #[RV.enc o,.slice ah hs.length ch]] w fun e w'=>e= .returned (.int .i64 (if Geo.aR (iO o hs)then gZ (iO o hs)else 0))/\Below w.heap.size w w':=by
 have HB0:=Blk.new w 26 #[RV.enc o,.slice ah hs.length ch];have hB0:Below w.heap.size w (w.alloc (.cells #[RV.enc o,.slice ah hs.length ch] 26)):=(Below.refl _ _).alloc (Nat.le_refl _) _;cases hv:Geo.aR (iO o hs)with
 |false=>
  refine(callsIn_wide (n:=9)).1 (callsIn_of_wp_marks Tryz.func90 rfl trivial ((wpIn_wide (n:=9)).2 ?_) rfl);simp only[Tryz.ntmps90,List.size_toArray,List.length_cons,List.length_nil,Nat.reduceAdd,Nat.reduceSub,Array.replicate_succ,Array.replicate_zero,List.push_toArray,List.append_toArray,List.nil_append,List.cons_append]
  go_wp2_with fail
  refine(oT o ah ch hs _ (H.below hB0) hch).mono ?_;rintro e w1 ⟨rfl,hb1⟩;rw[hv]
  go_wp2_with fail
  exact Ey (v:= .int .i64 0) (by simp[results,Tryz.f90]) rfl ⟨rfl,hB0.trans (hb1.mono hB0.size)⟩
 |true=>
  have hval:∀x∈o::hs,Geo.cO x.r=true:=fun x hx=>Ls hv x.r (by
   unfold Geo.aA iO;simp only[List.mem_cons]at hx|-;rcases hx with h|h
   ·exact .inl (by rw[h])
   ·exact .inr (List.mem_map.2 ⟨_,h,rfl⟩))
  have hAO:=Ci (hval o List.mem_cons_self);have hAO2:(if Geo.cO o.r then Geo.dX o.r else 0)=Geo.dX o.r:=by rw[hval o List.mem_cons_self];rfl
  refine(callsIn_wide (n:=9)).1 (callsIn_of_wp_marks Tryz.func90 rfl trivial ((wpIn_wide (n:=9)).2 ?_) rfl);simp only[Tryz.ntmps90,List.size_toArray,List.length_cons,List.length_nil,Nat.reduceAdd,Nat.reduceSub,Array.replicate_succ,Array.replicate_zero,List.push_toArray,List.append_toArray,List.nil_append,List.cons_append]
  go_wp2_with fail
  refine(oT o ah ch hs _ (H.below hB0) hch).mono ?_;rintro e w1 ⟨rfl,hb1⟩;rw[hv];have B1:=HB0.then_ hb1;have hB1:=hB0.trans (hb1.mono hB0.size);have hsz1:w.heap.size+1<=w1.heap.size:=by simpa using hb1.size
  clear HB0 hB0 hb1;have c0:=B1.cell 0;have c1:=B1.cell 1;simp at c0 c1
  go_wp2_with fail
  refine(Jh o.a o.c o.r _ ((H.v o List.mem_cons_self).1.below hB1) (H.v o List.mem_cons_self).2).mono ?_;rintro e w2 ⟨rfl,hb2⟩;rw[hAO2];have B2:=B1.then_ hb2;have hB2:=hB1.trans (hb2.mono hB1.size);have hsz2:w.heap.size+1<=w2.heap.size:=Nat.le_trans hsz1 hb2.size;clear B1 hB1 hb2 c0 c1 hsz1 hAO2;generalize hAe:Geo.dX o.r=A at hAO;have B2a:=B2.alloc (.cells #[.int .i64 (2*A)] 3);have B3:=Blk.new w2 3 #[.int .i64 (2*A)];have hB2a:=hB2.alloc hB2.size (.cells #[.int .i64 (2*A)] 3);have hsz3:w.heap.size+1<=(w2.alloc (.cells #[.int .i64 (2*A)] 3)).heap.size:=by simp;omega
  have hp3:w2.heap.size<(w2.alloc (.cells #[.int .i64 (2*A)] 3)).heap.size:=by simp
  have c0:=B2a.cell 0;have c1:=B2a.cell 1;simp at c0 c1;obtain⟨p3,hp3e⟩:∃p,p=w2.heap.size:=⟨_,rfl⟩;rw[<-hp3e]at B3 hp3 hsz2
  go_wp2_with fail
  rw[<-hp3e];clear hp3e;generalize w2.alloc (.cells #[.int .i64 (2*A)] 3)=w3 at B2a B3 hB2a hsz3 hp3 c0 c1|-;clear B2 hB2;refine(uY o ah hs.length ch _).mono ?_;rintro e w4 ⟨rfl,rfl⟩
  go_wp2_with fail
  have B3':=B3.alloc (.cells #[RV.enc o,.slice ah hs.length ch] 26);have B4:=Blk.new w3 26 #[RV.enc o,.slice ah hs.length ch];have hB4:=hB2a.alloc hB2a.size (.cells #[RV.enc o,.slice ah hs.length ch] 26);have hsz4:w3.heap.size<(w3.alloc (.cells #[RV.enc o,.slice ah hs.length ch] 26)).heap.size:=by simp
  obtain⟨p4,hp4e⟩:∃p,p=w3.heap.size:=⟨_,rfl⟩;rw[<-hp4e]at B4 hp3 hsz3 hsz4;rw[<-hp4e];clear hp4e B3 B2a c0 c1 hB2a;generalize w3.alloc (.cells #[RV.enc o,.slice ah hs.length ch] 26)=W0 at B3' B4 hB4 hsz4|-;refine(wpIn_wide (n:=9)).1 ?_
  refine' wpIn_rangeFunc_ownF (F:=Fence.wide) (n:=9) rfl (by omega) (gf:=179) (lb:= #[.pointer (some ⟨p4,0,none⟩)]) rfl trivial (enters_of Tryz.func179 (by kernel_rfl) rfl)
   (nL Fence.wide 8 trivial rfl (by omega) p4 w.heap.size o ah ch hs H.n W0 (by omega) B4 (H.h.below hB4)) Kp2.trans (Uv (by omega) (by omega)) (Below.refl _ _) (fun _=>rfl)
   (fun pre W=>(Blk W p4 26 #[RV.enc o,.slice ah hs.length ch]/\Blk W p3 3 #[.int .i64 (2*A-gD pre)])/\Below w.heap.size w W)
   (fun c pre W=>False/\False)
   (OwnFrom.and (OwnFrom.and lI lI) (ownFrom_below (Nat.le_refl _) (by omega)))
   (fun c=>OwnFrom.and sW sW)
   ⟨⟨B4,by simpa[gD]using B3'⟩,hB4⟩ _ ?assign ?body ?done ?stop
  case assign=>
   intro l x W K hK;dsimp only[RV.enc]
   gi_wp2
   exact hK
  case stop=>
   rintro D c pre W hD hpre ⟨h,_⟩ hK;exact h.elim
  case done=>
   rintro D xs W hD hxs ⟨⟨b4,b3⟩,hb⟩ hK;have hres:2*A-gD xs=gZ (iO o hs):=by have:=Qo hxs;rw[hAe]at this;omega
   rw[hres]at b3;have hD2:w.heap.size<=D:=by omega
   clear hxs hres b4 B4 B3' hB4;have c3:=b3.cell 0;simp at c3
   go_wp2
   exact zN (v:= .int .i64 (gZ (iO o hs))) rfl rfl hK ⟨rfl,hb.trans (fS hD2 hK)⟩
  case body=>
   rintro l pre ⟨⟨xa,xc,xr⟩,hxm⟩ W ⟨⟨b4,b3⟩,hb⟩ hlen;obtain⟨hxr,hxl⟩:=H.v _ hxm;have hvx:=hval _ hxm;have hA:=Ci hvx;dsimp only at hxr hxl hvx hA;have HE:Hid (gD (pre++[(⟨⟨xa,xc,xr⟩,hxm⟩:Mem o hs)])=gD pre+Geo.dX xr):=Lib.hid (Mi _ _);have hbd:=Ug hval pre;have hN:=H.n;have hX2:(if Geo.cO xr then Geo.dX xr else 0)=Geo.dX xr:=by rw[hvx];rfl
   have hwrap:IntKind.i64.wrap (2*A-gD pre-Geo.dX xr)=2*A-gD pre-Geo.dX xr:=IntWalk.i64_in _ ⟨by omega,by omega⟩
   generalize gD pre=S at HE hbd b3 hwrap;have hX:=Lib.hid hX2;clear hX2 hvx hval B4 B3' hB4;refine wpIn_block ?_;dsimp only[RV.enc];refine pX (by kernel_rfl) (by kernel_rfl) [15,16,17,18] [[],[],[1],[0,1,2],[0,1,2,3]] (by kernel_rfl) (by kernel_rfl) (by intro s hs;simp at hs|-;omega)
    (WR2 4 (fun wx=>Below W.heap.size W wx) (fun wx=>Blk wx p3 3 #[.int .i64 (2*A-S-Geo.dX xr)]/\Blk wx p4 26 #[RV.enc o,.slice ah hs.length ch]/\Below w.heap.size w wx/\KeepsOthers W wx/\Below w.heap.size W wx))
    (fun i v wx=>match i with
      |0=>v= .int .i64 (2*A-S)
      |1=>v= .slice xa xr.length xc
      |2=>v= .int .i64 (Geo.dX xr)
      |3=>v= .int .i64 (2*A-S-Geo.dX xr)
      |4=>True
      |_=>True)
    (WR2.start (Below.refl _ _).drew) ?_ ?_ ?_
   ·intro j v wx wy hf hxy;match j with
    |0=>exact hf
    |1=>exact hf
    |2=>exact hf
    |3=>exact hf
    |4=>exact hf
    |_+5=>exact trivial
   ·refine⟨?_,?_,?_,?_,?_,trivial⟩
    ·intro D V wx hD hanc hdesc hin hWR;have hA:=hWR.lo (hdesc 4 (by kernel_rfl))
     have e3:=hin 3 (by kernel_rfl)
     simp at e3;have q0:=(Blk.then_ b3 hA).cell 0;simp at q0;refine opK ?_;intro K hK;simp[cF,execOp,bI,e3,q0,go_sem];exact hK _ _ ⟨rfl,(hWR.keep (by decide)),.inl rfl⟩
    ·intro D V wx hD hanc hdesc hin hWR;have hA:=hWR.lo (hdesc 4 (by kernel_rfl))
     have e4:=hin 4 (by kernel_rfl)
     simp at e4;refine opK ?_;intro K hK;simp[cF,execOp,bI,e4,go_sem];exact hK _ _ ⟨rfl,(hWR.keep (by decide)),.inl rfl⟩
    ·intro D V wx hD hanc hdesc hin hWR;have hA:=hWR.lo (hdesc 4 (by kernel_rfl))
     have e16:V 16= .slice xa xr.length xc:=(hanc 1 (by kernel_rfl)).2
     refine opK ?_;intro K hK;simp[cF,execOp,bI,e16,go_sem];refine(Jh xa xc xr _ (hxr.below (hb.trans (hA.mono hb.size))) hxl).mono ?_;rintro e w1 ⟨rfl,hc⟩;rw[hX.out];exact⟨_,rfl,hK _ _ ⟨rfl,(.mkLo (hdesc 4 (by kernel_rfl)) (by decide) (Below.then_ hA hc)),.inr (.inl hc)⟩⟩
    ·intro D V wx hD hanc hdesc hin hWR;have hA:=hWR.lo (hdesc 4 (by kernel_rfl))
     have e15:V 15= .int .i64 (2*A-S):=(hanc 0 (by kernel_rfl)).2
     have e17:V 17= .int .i64 (Geo.dX xr):=(hanc 2 (by kernel_rfl)).2
     refine opK ?_;intro K hK;simp[cF,execOp,bI,e15,e17,hwrap,go_sem];exact hK _ _ ⟨rfl,(hWR.keep (by decide)),.inl rfl⟩
    ·intro D V wx hD hanc hdesc hin hWR;have hA:=hWR.lo hD;have e3:=hin 3 (by kernel_rfl)
     simp at e3;have e18:V 18= .int .i64 (2*A-S-Geo.dX xr):=(hanc 3 (by kernel_rfl)).2
     refine opK ?_;intro K hK;have q0:=(Blk.then_ b3 hA).cell 0;have f0:=(Blk.then_ b3 hA).frozen 0;simp at q0;simp[cF,execOp,bI,e3,e18,q0,f0,go_sem];refine hK _ _ ⟨trivial,.mkHi ⟨by simpa using(Blk.then_ b3 hA).pZ 0 (.int .i64 (2*A-S-Geo.dX xr)),(Blk.then_ b4 hA).far (by show p4≠p3;omega) _,(hb.trans (hA.mono hb.size)).setCell (p:=⟨p3,0,none⟩) (by show w.heap.size<=p3;omega) _,(pN hA).trans (KeepsOthers.setCell _ _ _),((Below.refl w.heap.size W).trans (hA.mono hb.size)).setCell (p:=⟨p3,0,none⟩) (by show w.heap.size<=p3;omega) _⟩,.inr (.inr ?_)⟩
     intro j hj hf;match j with
     |0=>exact hf
     |1=>exact hf
     |2=>exact hf
     |3=>exact hf
     |4=>exact absurd (hj.symm.trans hD) (by decide)
     |_+5=>exact trivial
   intro D V wx hall hf hWR;replace hWR:=hWR.hi (hall 4 (by decide))
   have f0:V 15= .int .i64 (2*A-S):=hf 0 (by decide)
   have f1:V 16= .slice xa xr.length xc:=hf 1 (by decide)
   have f2:V 17= .int .i64 (Geo.dX xr):=hf 2 (by decide)
   have f3:V 18= .int .i64 (2*A-S-Geo.dX xr):=hf 3 (by decide)
   clear hf hall;simp only[eD,List.foldl_cons,List.foldl_nil,f0,f1,f2,f3];simp only[Act.put,List.setIfInBounds_toArray,List.set_cons_succ,List.set_cons_zero];clear f0 f1 f2 f3;obtain⟨k1,k2,k3,k4,k5⟩:=hWR;refine⟨k4,⟨k5,Eq.trans k2 (Eq.symm b4)⟩,⟨k2,?_⟩,k3⟩;rw[HE.out,show 2*A-(S+Geo.dX xr)=2*A-S-Geo.dX xr by omega]
   exact k1
end Go.Proofs.YtdaeofhdgabhjaaGreat
namespace Go.Proofs.YtdaeofhdgabhjaaGreat
open Go.RowKit
section
variable {C:bR} {w:World}
theorem eJ.rdV(hC:∀b o v,C b o v->w.cell? ⟨b,o,none⟩=some v){r:List Geo.V}{b o:Nat}(h:eJ C (mG r) b o):RdV w (some ⟨b,o,none⟩) r:=by
 intro i hi;have h1:=Hf.at r i hi;have g0:(mG r)[i*2]? =some (.int .i64 r[i].x):=by
  have:=congrArg (fun l=>l[0]?) h1
  simpa[List.getElem?_take,List.getElem?_drop]using this
 have g1:(mG r)[i*2+1]? =some (.int .i64 r[i].y):=by
  have:=congrArg (fun l=>l[1]?) h1
  simpa[List.getElem?_take,List.getElem?_drop]using this
 obtain⟨v0,a1,_,a3⟩:=eJ.get _ _ _ h _ _ g0;obtain⟨v1,b1,_,b3⟩:=eJ.get _ _ _ h _ _ g1;unfold aZ at a3 b3;subst a3 b3;have en:Geo.nth r i=r[i] :=by unfold Geo.nth;rw[List.getD_eq_getElem?_getD,List.getElem?_eq_getElem hi];rfl
 refine⟨b,o,rfl,World.block_lt_of_cell? w ⟨b,_,none⟩ (hC _ _ _ a1),?_,?_⟩
 ·rw[en];exact hC _ _ _ a1
 ·rw[en];have:=hC _ _ _ b1;rwa[show o+(i*2+1)=o+i*2+1 by omega]at this
theorem Dr(hC:∀b o v,C b o v->w.cell? ⟨b,o,none⟩=some v){r:List Geo.V}{v:Value}(h:aZ C (iE r) v):∃a c,v= .slice a r.length c/\RdV w a r/\r.length<=c/\(a=none->c=0):=by
 unfold iE aZ at h;obtain⟨a,c,rfl,h1,h2,h3⟩:=h;refine⟨a,c,rfl,?_,h1,fun e=>(h2 e).1⟩
 cases a with
 |none=>
  have:r=[] :=by
   have:=congrArg List.length (h2 rfl).2;rw[Hf.length]at this;exact List.length_eq_zero_iff.1 (by simp at this;omega)
  subst this;intro i hi;simp at hi
 |some ad=>
  obtain⟨b,o,sp⟩:=ad;obtain⟨h4,h5⟩:=h3 _ rfl;dsimp only at h4 h5;rcases Nat.eq_zero_or_pos r.length with hr0|hr0
  ·intro i hi;omega
  ·have h4:=h4 hr0;subst h4;exact h5.rdV hC
theorem Ax(hC:∀b o v,C b o v->w.cell? ⟨b,o,none⟩=some v):∀(l:List Geo.aM) (b o:Nat),eJ C (l.map iE) b o->∃hs:List RV,hs.map RV.r=l/\(∀i,i<hs.length->b<w.heap.size/\w.cell? ⟨b,o+i,none⟩=some (RV.enc (hs.getD i default)))/\∀x∈hs,RdV w x.a x.r/\x.r.length<=x.c/\(x.a=none->x.c=0)
 |[],b,o,_=>⟨[],rfl,(fun i h=>by simp at h),fun x h=>by cases h⟩
 |r::l,b,o,h=>by
  rw[List.map_cons]at h;unfold eJ at h;obtain⟨⟨v,h1,_,h2⟩,h3⟩:=h;obtain⟨a,c,rfl,h4,h5⟩:=Dr hC h2;obtain⟨hs,g1,g2,g3⟩:=Ax hC l b (o+1) h3;refine⟨⟨a,c,r⟩::hs,by simp[g1],?_,?_⟩
  ·intro i hi;cases i with
   |zero=>exact⟨World.block_lt_of_cell? w ⟨b,_,none⟩ (hC _ _ _ h1),by simpa[RV.enc]using hC _ _ _ h1⟩
   |succ i=>
    have:=g2 i (by simpa using hi)
    rw[show o+1+i=o+(i+1) by omega]at this
    simpa using this
  ·intro x hx;rcases List.mem_cons.1 hx with rfl|hx
   ·exact⟨h4,h5⟩
   ·exact g3 x hx
theorem Ya(hC:∀b o v,C b o v->w.cell? ⟨b,o,none⟩=some v){l:List Geo.aM}{v:Value}(h:aZ C (lC l) v):
  ∃ah ch,∃hs:List RV,v= .slice ah hs.length ch/\hs.length<=ch/\hs.map RV.r=l/\RdH w.heap.size w ah hs/\∀x∈hs,RdV w x.a x.r/\x.r.length<=x.c/\(x.a=none->x.c=0):=by
 unfold lC aZ at h;obtain⟨a,c,rfl,h1,h2,h3⟩:=h;cases a with
 |none=>
  have:l=[] :=by simpa using(h2 rfl).2
  subst this;exact⟨none,c,[],rfl,Nat.zero_le _,rfl,(fun i hi=>by simp at hi),fun x hx=>by cases hx⟩
 |some ad=>
  obtain⟨b,o,sp⟩:=ad;obtain⟨h4,h5⟩:=h3 _ rfl;dsimp only at h4 h5;rcases Nat.eq_zero_or_pos l.length with hl0|hl0
  ·have:l=[] :=List.length_eq_zero_iff.1 hl0;subst this;exact⟨_,c,[],rfl,Nat.zero_le _,rfl,(fun i hi=>by simp at hi),fun x hx=>by cases hx⟩
  have h4:=h4 hl0;subst h4;obtain⟨hs,g1,g2,g3⟩:=Ax hC l b o h5;have hl:hs.length=l.length:=by rw[<-g1];simp
  exact⟨_,c,hs,by rw[hl],by omega,g1,fun i hi=>⟨b,o,rfl,(g2 i hi).1,(g2 i hi).2⟩,g3⟩
theorem uW(hC:∀b o v,C b o v->w.cell? ⟨b,o,none⟩=some v){s:Geo.Shape}{v:Value}(hf:Fit s)(h:aZ C (kC s) v):
  ∃o ah ch hs,v= .agg #[RV.enc o,.slice ah hs.length ch]/\RdSh w o ah hs/\hs.length<=ch/\(∀x∈o::hs,x.r.length<=x.c)/\iO o hs=s:=by
 unfold kC aZ at h;obtain⟨vs,rfl,h1,_⟩:=h;unfold bZ at h1;obtain⟨v1,r1,rfl,h2,h3⟩:=h1;unfold bZ at h3;obtain⟨v2,r2,rfl,h4,h5⟩:=h3;unfold bZ at h5;subst h5;obtain⟨a,c,rfl,g1,g2⟩:=Dr hC h2;obtain⟨ah,ch,hs,rfl,k1,k2,k3,k4⟩:=Ya hC h4;have hl:hs.length=s.holes.length:=by rw[<-k2];simp
 refine⟨⟨a,c,s.outer⟩,ah,ch,hs,rfl,⟨k3,?_,by rw[hl];have:=hf.2.1;omega⟩,k1,?_,by unfold iO;rw[k2]⟩
 ·intro x hx;rcases List.mem_cons.1 hx with rfl|hx
  ·exact⟨g1,hf.1,g2.1,g2.2⟩
  ·exact⟨(k4 x hx).1,hf.2.2 _ (by rw[<-k2];exact List.mem_map.2 ⟨x,hx,rfl⟩),(k4 x hx).2.1,(k4 x hx).2.2⟩
 ·intro x hx;rcases List.mem_cons.1 hx with rfl|hx
  ·exact g2.1
  ·exact(k4 x hx).2.1
theorem zK{cs:List PV}{us:List Value}{a:Option Addr}{n c N:Nat}(hr:Rd w a us)(hf:mH N a)(hn:a=none->c=0)(hc:n<=c)(hu:us.length=cs.length)(hsp:cs=[]->∀ad,a=some ad->ad.spot=none)
  (hv:∀(i:Nat) x u,cs[i]? =some x->us[i]? =some u->u.oneCell'=true/\aZ (fun b o x=>N<=b/\w.cell? ⟨b,o,none⟩=some x) x u):aZ (fun b o x=>N<=b/\w.cell? ⟨b,o,none⟩=some x) (.sl n cs) (.slice a n c):=by
 unfold aZ;refine⟨a,c,rfl,hc,fun ha=>⟨hn ha,?_⟩,fun ad ha=> ?_⟩
 ·cases cs with
  |nil=>rfl
  |cons x cs=>
   cases us with
   |nil=>simp at hu
   |cons u us=>obtain⟨b,off,h1,_⟩:=hr 0 u rfl;rw[ha]at h1;cases h1
 ·subst ha;cases cs with
  |nil=>
   exact⟨fun _=>hsp rfl _ rfl,by unfold eJ;trivial⟩
  |cons x cs=>
   cases us with
   |nil=>simp at hu
   |cons u us=>
    obtain⟨b,off,h1,_⟩:=hr 0 u rfl;cases h1;refine⟨fun _=>rfl,eJ.of _ _ _ fun i y hi=> ?_⟩
    have hlt:i<(u::us).length:=by rw[hu];exact(List.getElem?_eq_some_iff.1 hi).1
    have hui:(u::us)[i]? =some (u::us)[i] :=List.getElem?_eq_getElem hlt;obtain⟨b',off',h2,_,h3⟩:=hr i _ hui;cases h2;obtain⟨g1,g2⟩:=hv i y _ hi hui;exact⟨_,⟨hf _ rfl,h3⟩,g1,g2⟩
end
theorem Tw{C:bR}(r:List Geo.V):(kY r).length=(mG r).length/\∀(i:Nat) x u,(mG r)[i]? =some x->(kY r)[i]? =some u->u.oneCell'=true/\aZ C x u:=by
 refine⟨by rw[nO,Hf.length],?_⟩
 have key:∀(l:List Geo.V) (i:Nat) x u,(l.flatMap fun v=>[PV.int .i64 v.x,PV.int .i64 v.y])[i]? =some x->(l.flatMap fun v=>[Value.int .i64 v.x,Value.int .i64 v.y])[i]? =some u->u.oneCell'=true/\aZ C x u:=by
  intro l;induction l with
  |nil=>intro i x u h;simp at h
  |cons v l ih=>
   intro i x u h1 h2;simp only[List.flatMap_cons,List.cons_append,List.nil_append]at h1 h2;match i with
   |0=>simp at h1 h2;subst h1 h2;exact⟨rfl,by unfold aZ;rfl⟩
   |1=>simp at h1 h2;subst h1 h2;exact⟨rfl,by unfold aZ;rfl⟩
   |i+2=>exact ih i x u (by simpa using h1) (by simpa using h2)
 exact key r
theorem Tx{C:bR}(r:List Geo.S):(jR r).length=(aCS r).length/\∀(i:Nat) x u,(aCS r)[i]? =some x->(jR r)[i]? =some u->u.oneCell'=true/\aZ C x u:=by
 refine⟨by rw[yR,aKP.length],?_⟩
 have key:∀(l:List Geo.S) (i:Nat) x u,(l.flatMap fun s=>[PV.int .i64 s.a.x,PV.int .i64 s.a.y,PV.int .i64 s.b.x,PV.int .i64 s.b.y])[i]? =some x->(l.flatMap fun s=>[Value.int .i64 s.a.x,Value.int .i64 s.a.y,Value.int .i64 s.b.x,Value.int .i64 s.b.y])[i]? =some u->u.oneCell'=true/\aZ C x u:=by
  intro l;induction l with
  |nil=>intro i x u h;simp at h
  |cons v l ih=>
   intro i x u h1 h2;simp only[List.flatMap_cons,List.cons_append,List.nil_append]at h1 h2;match i with
   |0=>simp at h1 h2;subst h1 h2;exact⟨rfl,by unfold aZ;rfl⟩
   |1=>simp at h1 h2;subst h1 h2;exact⟨rfl,by unfold aZ;rfl⟩
   |2=>simp at h1 h2;subst h1 h2;exact⟨rfl,by unfold aZ;rfl⟩
   |3=>simp at h1 h2;subst h1 h2;exact⟨rfl,by unfold aZ;rfl⟩
   |i+4=>exact ih i x u (by simpa using h1) (by simpa using h2)
 exact key r
theorem aBI{w:World}{N:Nat}{v:Value}{xs:List Geo.S}(h:w.ownsRow N 46 4 v xs.length (jR xs)):aZ (fun b o x=>N<=b/\w.cell? ⟨b,o,none⟩=some x) (aAu xs) v:=by
 have hsp:∀a c,v= .slice a xs.length c->∀ad,a=some ad->ad.spot=none:=by
  intro a c hv ad ha;rcases h.2 with⟨h1,_⟩|⟨g,cap,cur,h1,_⟩
  ·rw[h1]at hv;injection hv with e1;rw[<-e1]at ha;cases ha
  ·rw[h1]at hv;injection hv with e1;rw[<-e1]at ha;cases ha;rfl
 obtain⟨a,c,rfl,h1,h2,h3,h4⟩:=Rd.Ky h;obtain⟨g1,g2⟩:=Tx (C:=fun b o x=>N<=b/\w.cell? ⟨b,o,none⟩=some x) xs
 exact zK h1 h2 h3 h4 g1 (fun _=>hsp a c rfl) g2
theorem aBM{w:World}{N:Nat}{a:Option Addr}{c:Nat}{xs:List Geo.V}(h:RdV w a xs)(hf:mH N a)(hc:xs.length<=c)(h0:0<xs.length):aZ (fun b o x=>N<=b/\w.cell? ⟨b,o,none⟩=some x) (iE xs) (.slice a xs.length c):=by
 obtain⟨b0,o0,rfl,_⟩:=h 0 h0;obtain⟨g1,g2⟩:=Tw (C:=fun b o x=>N<=b/\w.cell? ⟨b,o,none⟩=some x) xs
 refine zK (us:=kY xs) ?_ hf (fun h=>by cases h) hc g1 (fun _ ad ha=>by cases ha;rfl) g2
 intro i u hi;have hlt:i<xs.length*2:=by rw[<-nO];exact(List.getElem?_eq_some_iff.1 hi).1
 obtain⟨k,hk⟩:∃k,i=k*2\/i=k*2+1:=⟨i/2,by omega⟩
 obtain⟨b,o,he,h1,h2,h3⟩:=h k (by omega)
 cases he;obtain⟨f0,f1⟩:=zZ xs k (by omega)
 rcases hk with rfl|rfl
 ·rw[f0]at hi;cases hi;exact⟨b0,o0,rfl,h1,h2⟩
 ·rw[f1]at hi;cases hi;exact⟨b0,o0,rfl,h1,h3⟩
section
variable {fr:Bool}
theorem Gf(s:Geo.Shape)(hf:Fit s):Sat Tryz.prog true 55 [kC s] (.bool (Geo.aR s)):=by
 refine⟨by kernel_rfl,fun C w vs hC h=> ?_⟩
 unfold bZ at h;obtain⟨v,r,rfl,h1,h2⟩:=h;unfold bZ at h2;subst h2;obtain⟨o,ah,ch,hs,rfl,H,hch,_,rfl⟩:=uW hC hf h1;refine(oT o ah ch hs w H hch).mono ?_;rintro e w' ⟨rfl,hb⟩;exact⟨_,rfl,by unfold aZ;rfl,hb⟩
theorem Gh(s:Geo.Shape)(hf:Fit s):Sat Tryz.prog true 131 [kC s] (aAu (Geo.aY s)):=by
 refine⟨by kernel_rfl,fun C w vs hC h=> ?_⟩
 unfold bZ at h;obtain⟨v,r,rfl,h1,h2⟩:=h;unfold bZ at h2;subst h2;obtain⟨o,ah,ch,hs,rfl,H,hch,_,rfl⟩:=uW hC hf h1;have hn:hs.length<=900:=by have:=hf.2.1;simpa[iO]using this
 refine(Ge o ah ch hs w H hn).mono ?_;rintro e w' ⟨v,rfl,hrow,hb⟩;exact⟨_,rfl,aZ.mono (fun b o x h=> .inr h) _ _ (aBI hrow),hb⟩
theorem Gw(s:Geo.Shape)(hf:Fit s):Sat Tryz.prog true 90 [kC s] (.int .i64 (if Geo.aR s then gZ s else 0)):=by
 refine⟨by kernel_rfl,fun C w vs hC h=> ?_⟩
 unfold bZ at h;obtain⟨v,r,rfl,h1,h2⟩:=h;unfold bZ at h2;subst h2;obtain⟨o,ah,ch,hs,rfl,H,hch,_,rfl⟩:=uW hC hf h1;refine(Gv o ah ch hs w H hch).mono ?_;rintro e w' ⟨rfl,hb⟩;exact⟨_,rfl,by unfold aZ;rfl,hb⟩
theorem Sq{w:World}{N:Nat}{v:Value}{rs:List RV}(h:w.ownsRow N 23 1 v rs.length (rs.map RV.enc))(hx:∀x∈rs,RdV w x.a x.r/\mH N x.a/\x.r.length<=x.c/\0<x.r.length):
  aZ (fun b o x=>N<=b/\w.cell? ⟨b,o,none⟩=some x) (lC (rs.map RV.r)) v:=by
 have hsp:∀a c,v= .slice a rs.length c->∀ad,a=some ad->ad.spot=none:=by
  intro a c hv ad ha;rcases h.2 with⟨h1,_⟩|⟨g,cap,cur,h1,_⟩
  ·rw[h1]at hv;injection hv with e1;rw[<-e1]at ha;cases ha
  ·rw[h1]at hv;injection hv with e1;rw[<-e1]at ha;cases ha;rfl
 obtain⟨a,c,rfl,h1,h2,h3,h4⟩:=Rd.Ky h;unfold lC;rw[List.length_map];refine zK h1 h2 h3 h4 (by simp) (fun _=>hsp a c rfl) ?_
 intro i x u hi hu;rw[List.getElem?_map,List.getElem?_map]at hi;rw[List.getElem?_map]at hu;cases hr:rs[i]? with
 |none=>rw[hr]at hi;cases hi
 |some y=>
  rw[hr]at hi hu;simp only[Option.map_some,Option.some.injEq]at hi hu;subst hi hu;obtain⟨k1,k2,k3,k4⟩:=hx y (List.mem_of_getElem? hr);exact⟨rfl,aBM k1 k2 k3 k4⟩
theorem Gg(s:Geo.Shape)(hf:Fit s)(hp:0<s.outer.length/\∀r∈s.holes,0<r.length):Sat Tryz.prog true 56 [kC s] (lC (Geo.aA s)):=by
 refine⟨by kernel_rfl,fun C w vs hC h=> ?_⟩
 unfold bZ at h;obtain⟨v,r,rfl,h1,h2⟩:=h;unfold bZ at h2;subst h2;obtain⟨o,ah,ch,hs,rfl,H,hch,_,rfl⟩:=uW hC hf h1;refine(Gd o ah ch hs w H).mono ?_;rintro e w' ⟨v,rs,rfl,hrs,hrow,hok,hb⟩;refine⟨_,rfl,aZ.mono (fun b o x h=> .inr h) _ _ ?_,hb⟩
 rw[<-hrs];refine Sq hrow fun x hx=>⟨(hok x hx).rd,(hok x hx).fresh,(hok x hx).cap,?_⟩
 have hm:x.r∈Geo.aA (iO o hs):=by rw[<-hrs];exact List.mem_map.2 ⟨x,hx,rfl⟩
 unfold Geo.aA at hm;rcases List.mem_cons.1 hm with h|h
 ·rw[h];exact hp.1
 ·exact hp.2 _ h
end
def aAa{α:Type}(fr:Bool)(A:Arl α)(pre:α->List Prop)(res:α->SV):Con:=⟨α,A.dec,pre,.val fr res⟩
theorem Cg{f:FuncId}{fr:Bool}{α:Type}{A:Arl α}{pre:α->List Prop}{res:α->SV}(B:α->List PV)(q:α->PV)(hB:∀x,avs (A.enc x)=(B x).map .p)(hq:∀x,(res x).av= .p (q x))(h:∀x,Jp (pre x)->Sat Tryz.prog fr f (B x) (q x)):(aAa fr A pre res).Ok Tryz.prog f:=by
 intro s x hd hp;exact⟨B x,q x,(A.ok s x hd).trans (hB x),hq x,h x (gE.2 hp)⟩
theorem Ap(l:List Geo.aM):LT.R.enc l=l.map iE:=by
 unfold LT.enc;induction l with
 |nil=>rfl
 |cons r l ih=>rw[List.flatMap_cons,ih];rfl
theorem Kd(s:Geo.Shape):avs ((a1 aSh).enc s)=[kC s].map .p:=by
 show [SV.av (.agg [.lst .V s.outer,.lst .R s.holes])] =_;show [fD [.p (.sl s.outer.length (mG s.outer)),.p (.sl s.holes.length (LT.R.enc s.holes))]] =_;rw[Ap];rfl
def c55:Con:=aAa true (a1 aSh) (fun s=>[Fit s]) (fun s=> .bool (Geo.aR s))
theorem k55:c55.Ok Tryz.prog 55:=Cg (fun s=>[kC s]) (fun s=> .bool (Geo.aR s)) Kd (fun _=>rfl) fun s h=>Gf s h
def aKp:Con:=aAa true (a1 aSh) (fun s=>[Fit s]) (fun s=> .lst .S (Geo.aY s))
theorem aMJ:aKp.Ok Tryz.prog 131:=Cg (fun s=>[kC s]) (fun s=>aAu (Geo.aY s)) Kd (fun _=>rfl) fun s h=>Gh s h
def c90:Con:=aAa true (a1 aSh) (fun s=>[Fit s]) (fun s=> .int .i64 (if Geo.aR s=true then gZ s else 0))
theorem k90:c90.Ok Tryz.prog 90:=Cg (fun s=>[kC s]) (fun s=> .int .i64 (if Geo.aR s=true then gZ s else 0)) Kd (fun _=>rfl) fun s h=>Gw s h
def c56:Con:=aAa true (a1 aSh) (fun s=>[Fit s,0<s.outer.length,∀r∈s.holes,0<r.length]) (fun s=> .lst .R (Geo.aA s))
theorem k56:c56.Ok Tryz.prog 56:=Cg (fun s=>[kC s]) (fun s=>lC (Geo.aA s)) Kd (fun s=>by show AV.p (.sl _ (LT.R.enc _))=_;rw[Ap];rfl) fun s h=>Gg s h.1 h.2
noncomputable def tS:Tab:=cC [(55,c55),(131,aKp),(90,c90),(56,c56)] aFV
theorem tSo:tS.Ok Tryz.prog:=aK aAh ⟨k55,aMJ,k90,k56,trivial⟩
end Go.Proofs.YtdaeofhdgabhjaaGreat
/-
  DERIVED: THE SHELF's CONTRACTS AT THIS DUMP, IN PLAIN WORDS (tools/lay-plain.mjs out of 'YtdaeofhdgabhjaaGreatLayS.lean', which tools/lay-shelf.mjs wrote): THE SAME DECLARATIONS UNDER THE SAME NAMES: 'import', 'namespace', 'open', 'def', 'theorem' AND NOTHING ELSE: no command of the shelf's: FOR A HAND-IN. Each laying: the table of numbers ('.._ren') and one theorem, a field a fact of the dump's own or the kernel's comparison; each contract: ONE APPLICATION.
-/
namespace Go.Proofs
open Go.Shelf
def Tryz.sort68_ren:Go.Shelf.Ren:=⟨fun|6=>68|15=>143|14=>142|28=>195|29=>196|20=>187|21=>188|22=>189|23=>190|24=>191|25=>192|26=>193|27=>194|46=>210|47=>211|48=>212|49=>213|50=>214|57=>226|n=>n,fun|22=>24|24=>23|25=>40|3=>3|39=>134|0=>0|53=>170|55=>172|4=>4|46=>163|45=>162|50=>167|5=>5|9=>9|66=>180|70=>184|76=>193|77=>60|n=>n,fun|n=>n⟩
theorem Tryz.sort68:Go.Proofs.SlLaysF.n6 Tryz.prog Tryz.sort68_ren:={
 mixed:=by kernel_rfl
 f6:=⟨Tryz.f68.name,by decide,Tryz.func68.trans (congrArg some (by kernel_rfl))⟩
 f14:=⟨Tryz.f142.name,by decide,Tryz.func142.trans (congrArg some (by kernel_rfl))⟩
 f15:=Tryz.func143.trans (congrArg some (by kernel_rfl))
 f20:=⟨Tryz.f187.name,by decide,Tryz.func187.trans (congrArg some (by kernel_rfl))⟩
 f21:=⟨Tryz.f188.name,by decide,Tryz.func188.trans (congrArg some (by kernel_rfl))⟩
 f22:=⟨Tryz.f189.name,by decide,Tryz.func189.trans (congrArg some (by kernel_rfl))⟩
 f23:=⟨Tryz.f190.name,by decide,Tryz.func190.trans (congrArg some (by kernel_rfl))⟩
 f24:=⟨Tryz.f191.name,by decide,Tryz.func191.trans (congrArg some (by kernel_rfl))⟩
 f25:=⟨Tryz.f192.name,by decide,Tryz.func192.trans (congrArg some (by kernel_rfl))⟩
 f26:=⟨Tryz.f193.name,by decide,Tryz.func193.trans (congrArg some (by kernel_rfl))⟩
 f27:=⟨Tryz.f194.name,by decide,Tryz.func194.trans (congrArg some (by kernel_rfl))⟩
 f28:=Tryz.func195.trans (congrArg some (by kernel_rfl))
 f29:=Tryz.func196.trans (congrArg some (by kernel_rfl))
 f46:=⟨Tryz.f210.name,by decide,Tryz.func210.trans (congrArg some (by kernel_rfl))⟩
 f47:=Tryz.func211.trans (congrArg some (by kernel_rfl))
 f48:=Tryz.func212.trans (congrArg some (by kernel_rfl))
 f49:=⟨Tryz.f213.name,by decide,Tryz.func213.trans (congrArg some (by kernel_rfl))⟩
 f50:=⟨Tryz.f214.name,by decide,Tryz.func214.trans (congrArg some (by kernel_rfl))⟩
 f57:=⟨Tryz.f226.name,by decide,Tryz.func226.trans (congrArg some (by kernel_rfl))⟩
 t0:=Tryz.underlying0
 a0:=Tryz.isAgg0
 z0:=Tryz.sizeOf0
 v0:=Tryz.zeroValue0
 t3:=Tryz.underlying3
 a3:=Tryz.isAgg3
 z3:=Tryz.sizeOf3
 v3:=Tryz.zeroValue3
 t4:=Tryz.underlying4
 a4:=Tryz.isAgg4
 z4:=Tryz.sizeOf4
 v4:=Tryz.zeroValue4
 t5:=Tryz.underlying5
 a5:=Tryz.isAgg5
 z5:=Tryz.sizeOf5
 v5:=Tryz.zeroValue5
 t9:=Tryz.underlying9
 a9:=Tryz.isAgg9
 z9:=Tryz.sizeOf9
 v9:=Tryz.zeroValue9
 t22:=Tryz.underlying24
 a22:=Tryz.isAgg24
 z22:=Tryz.sizeOf24
 v22:=Tryz.zeroValue24
 a24:=Tryz.isAgg23
 z24:=Tryz.sizeOf23
 t25:=Tryz.underlying40
 a25:=Tryz.isAgg40
 z25:=Tryz.sizeOf40
 v25:=Tryz.zeroValue40
 t39:=Tryz.underlying134
 a39:=Tryz.isAgg134
 z39:=Tryz.sizeOf134
 v39:=Tryz.zeroValue134
 t45:=Tryz.underlying162
 a45:=Tryz.isAgg162
 z45:=Tryz.sizeOf162
 v45:=Tryz.zeroValue162
 t46:=Tryz.underlying163
 a46:=Tryz.isAgg163
 z46:=Tryz.sizeOf163
 v46:=Tryz.zeroValue163
 t50:=Tryz.underlying167
 a50:=Tryz.isAgg167
 z50:=Tryz.sizeOf167
 v50:=Tryz.zeroValue167
 t53:=Tryz.underlying170
 a53:=Tryz.isAgg170
 z53:=Tryz.sizeOf170
 v53:=Tryz.zeroValue170
 t55:=Tryz.underlying172
 a55:=Tryz.isAgg172
 z55:=Tryz.sizeOf172
 v55:=Tryz.zeroValue172
 t66:=Tryz.underlying180
 a66:=Tryz.isAgg180
 z66:=Tryz.sizeOf180
 v66:=Tryz.zeroValue180
 t70:=Tryz.underlying184
 a70:=Tryz.isAgg184
 z70:=Tryz.sizeOf184
 v70:=Tryz.zeroValue184
 t76:=Tryz.underlying193
 a76:=Tryz.isAgg193
 z76:=Tryz.sizeOf193
 v76:=Tryz.zeroValue193
 t77:=Tryz.underlying60
 a77:=Tryz.isAgg60
 z77:=Tryz.sizeOf60
 v77:=Tryz.zeroValue60}
end Go.Proofs
namespace Go.Proofs.YtdaeofhdgabhjaaGreat
open Go.RowKit
set_option maxRecDepth 100000
open Geo (nth)
structure Lay(w w':World):Prop where
 below:Below w.heap.size w w'
 drawn:w.drawn<=w'.drawn
theorem Lay.refl(w:World):Lay w w:=⟨Below.refl _ _,Nat.le_refl _⟩
theorem Lay.trans{a b c:World}(h:Lay a b)(k:Lay b c):Lay a c:=⟨Below.then_ h.below k.below,Nat.le_trans h.drawn k.drawn⟩
theorem Lay.alloc{a b:World}(h:Lay a b)(x:Obj):Lay a (b.alloc x):=⟨h.below.alloc h.below.size _,h.drawn⟩
theorem Lay.drew{a b:World}(h:Lay a b):Lay a b.drew:=⟨h.below.drew,Nat.le_trans h.drawn (Nat.le_succ _)⟩
theorem Lay.grow{w w':World}(h:Lay w w'):∃q os,w'=Sort.grow (w.drewN q) os:=by
 obtain⟨p,hp⟩:=yP h.below;refine⟨w'.drawn-w.drawn,p.os,?_⟩;have hd:=h.drawn;have hn:w'.drawn=p.n:=by rw[hp];rfl
 rw[hp];unfold grD Sort.grow World.drewN;simp only[World.mk.injEq,true_and,and_true];rw[hn]at hd;omega
set_option maxHeartbeats 2000000 in
theorem yS(ax ay bx b_y:Int)(w:World):Calls Tryz.prog 78 #[.agg #[.int .i64 ax,.int .i64 ay],.agg #[.int .i64 bx,.int .i64 b_y]] w
  fun e w'=>e= .returned (.int .i64 (nC ax ay bx b_y))/\Lay w w':=by
 have B1:=(Blk.new w 44 #[.int .i64 ax,.int .i64 ay]).alloc (.cells #[.int .i64 bx,.int .i64 b_y] 44);have B2:=Blk.new (w.alloc (.cells #[.int .i64 ax,.int .i64 ay] 44)) 44 #[.int .i64 bx,.int .i64 b_y];have hL:Lay w ((w.alloc (.cells #[.int .i64 ax,.int .i64 ay] 44)).alloc (.cells #[.int .i64 bx,.int .i64 b_y] 44)):=((Lay.refl w).alloc _).alloc _;rw[World.size_alloc]at B2
 go_enter Tryz.func78,Tryz.ntmps78
 go_upto_region 1 with fail
 generalize (w.alloc (.cells #[.int .i64 ax,.int .i64 ay] 44)).alloc (.cells #[.int .i64 bx,.int .i64 b_y] 44)=W at B1 B2 hL|-;refine At (by kernel_rfl) [4,5,6,7,8,9,10,11,12,13,14,15,16] [[],[0],[],[2],[0,1,2,3],[],[5],[],[7],[0,1,2,3,4,5,6,7,8],[0,1,2,3,4,5,6,7,8,9],[0,1,2,3,4,5,6,7,8,9,10],[0,1,2,3,4,5,6,7,8,9,10,11]] (by kernel_rfl) (by kernel_rfl) (by intro s hs;simp at hs|-;omega)
  (fun D wx=>Lay W wx)
  (fun i v wx=>match i with
    |0=>v= .pointer (some ⟨w.heap.size,1,none⟩)
    |1=>v= .int .i64 ay
    |2=>v= .pointer (some ⟨w.heap.size+1,1,none⟩)
    |3=>v= .int .i64 b_y
    |4=>v= .int .i64 (fG ay b_y)
    |5=>v= .pointer (some ⟨w.heap.size,0,none⟩)
    |6=>v= .int .i64 ax
    |7=>v= .pointer (some ⟨w.heap.size+1,0,none⟩)
    |8=>v= .int .i64 bx
    |9=>v= .int .i64 (fG ax bx)
    |10=>∃g,v= .slice (some ⟨g,0,none⟩) 2 2/\Blk wx g 3 #[.int .i64 (fG ay b_y),.int .i64 (fG ax bx)]
    |11=>v= .int .i64 (nC ax ay bx b_y)
    |12=>v= .int .i64 (nC ax ay bx b_y)
    |_=>True)
  (Lay.refl _).drew ?_ ?_ ?_
 ·intro j v wx wy hf hxy;match j with
  |0=>exact hf
  |1=>exact hf
  |2=>exact hf
  |3=>exact hf
  |4=>exact hf
  |5=>exact hf
  |6=>exact hf
  |7=>exact hf
  |8=>exact hf
  |9=>exact hf
  |10=>obtain⟨g,h1,h2⟩:=hf;exact⟨g,h1,h2.then_ hxy⟩
  |11=>exact hf
  |12=>exact hf
  |_+13=>exact trivial
 ·refine⟨?_,?_,?_,?_,?_,?_,?_,?_,?_,?_,?_,?_,?_,trivial⟩
  ·intro D V wx hD hanc hdesc hin hWR;have hA:=hWR;have e2:=hin 2 (by kernel_rfl)
   simp at e2;refine opK ?_;intro K hK;simp[cF,execOp,bI,e2,go_sem];exact hK _ _ ⟨rfl,hWR,.inl rfl⟩
  ·intro D V wx hD hanc hdesc hin hWR;have hA:=hWR;have e5:V 5= .pointer (some ⟨w.heap.size,1,none⟩):=(hanc 0 (by kernel_rfl)).2
   have q0:=(Blk.then_ B1 hA.below).cell 1;simp at q0;refine opK ?_;intro K hK;simp[cF,execOp,bI,e5,q0,go_sem];exact hK _ _ ⟨rfl,hWR,.inl rfl⟩
  ·intro D V wx hD hanc hdesc hin hWR;have hA:=hWR;have e3:=hin 3 (by kernel_rfl)
   simp at e3;refine opK ?_;intro K hK;simp[cF,execOp,bI,e3,go_sem];exact hK _ _ ⟨rfl,hWR,.inl rfl⟩
  ·intro D V wx hD hanc hdesc hin hWR;have hA:=hWR;have e7:V 7= .pointer (some ⟨w.heap.size+1,1,none⟩):=(hanc 2 (by kernel_rfl)).2
   have q0:=(Blk.then_ B2 hA.below).cell 1;simp at q0;refine opK ?_;intro K hK;simp[cF,execOp,bI,e7,q0,go_sem];exact hK _ _ ⟨rfl,hWR,.inl rfl⟩
  ·intro D V wx hD hanc hdesc hin hWR;have hA:=hWR;have e6:V 6= .int .i64 ay:=(hanc 1 (by kernel_rfl)).2
   have e8:V 8= .int .i64 b_y:=(hanc 3 (by kernel_rfl)).2
   refine opK ?_;intro K hK;simp[cF,execOp,bI,e6,e8,go_sem];refine(Wt _ _ _).mono ?_;rintro e w1 ⟨rfl,rfl⟩;exact⟨_,rfl,hK _ _ ⟨rfl,hWR,.inl rfl⟩⟩
  ·intro D V wx hD hanc hdesc hin hWR;have hA:=hWR;have e2:=hin 2 (by kernel_rfl)
   simp at e2;refine opK ?_;intro K hK;simp[cF,execOp,bI,e2,go_sem];exact hK _ _ ⟨rfl,hWR,.inl rfl⟩
  ·intro D V wx hD hanc hdesc hin hWR;have hA:=hWR;have e10:V 10= .pointer (some ⟨w.heap.size,0,none⟩):=(hanc 5 (by kernel_rfl)).2
   have q0:=(Blk.then_ B1 hA.below).cell 0;simp at q0;refine opK ?_;intro K hK;simp[cF,execOp,bI,e10,q0,go_sem];exact hK _ _ ⟨rfl,hWR,.inl rfl⟩
  ·intro D V wx hD hanc hdesc hin hWR;have hA:=hWR;have e3:=hin 3 (by kernel_rfl)
   simp at e3;refine opK ?_;intro K hK;simp[cF,execOp,bI,e3,go_sem];exact hK _ _ ⟨rfl,hWR,.inl rfl⟩
  ·intro D V wx hD hanc hdesc hin hWR;have hA:=hWR;have e12:V 12= .pointer (some ⟨w.heap.size+1,0,none⟩):=(hanc 7 (by kernel_rfl)).2
   have q0:=(Blk.then_ B2 hA.below).cell 0;simp at q0;refine opK ?_;intro K hK;simp[cF,execOp,bI,e12,q0,go_sem];exact hK _ _ ⟨rfl,hWR,.inl rfl⟩
  ·intro D V wx hD hanc hdesc hin hWR;have hA:=hWR;have e11:V 11= .int .i64 ax:=(hanc 6 (by kernel_rfl)).2
   have e13:V 13= .int .i64 bx:=(hanc 8 (by kernel_rfl)).2
   refine opK ?_;intro K hK;simp[cF,execOp,bI,e11,e13,go_sem];refine(Wt _ _ _).mono ?_;rintro e w1 ⟨rfl,rfl⟩;exact⟨_,rfl,hK _ _ ⟨rfl,hWR,.inl rfl⟩⟩
  ·intro D V wx hD hanc hdesc hin hWR;have hA:=hWR;have e9:V 9= .int .i64 (fG ay b_y):=(hanc 4 (by kernel_rfl)).2
   have e14:V 14= .int .i64 (fG ax bx):=(hanc 9 (by kernel_rfl)).2
   refine opK ?_;intro K hK;simp[cF,execOp,bI,e9,e14,go_sem];exact hK _ _ ⟨⟨_,rfl,Blk.new _ _ _⟩,(hA.alloc _),.inr (.inl ((Below.refl _ _).alloc (Nat.le_refl _) _))⟩
  ·intro D V wx hD hanc hdesc hin hWR;have hA:=hWR;have e15:=(hanc 10 (by kernel_rfl)).2
   refine opK ?_;intro K hK;obtain⟨g,e15,hg⟩:=e15;have e15:V 15=_:=e15;have q0:=hg.cell 0;have q1:=hg.cell 1;simp at q0 q1;simp[cF,execOp,bI,e15,go_sem];refine(aGL _ _ _ _ q0 q1).mono ?_;rintro e w1 ⟨rfl,rfl⟩;exact⟨_,rfl,hK _ _ ⟨rfl,hWR,.inl rfl⟩⟩
  ·intro D V wx hD hanc hdesc hin hWR;have hA:=hWR;have e16:V 16= .int .i64 (nC ax ay bx b_y):=(hanc 11 (by kernel_rfl)).2
   refine opK ?_;intro K hK;simp[cF,execOp,bI,e16,go_sem];exact hK _ _ ⟨rfl,hWR,.inl rfl⟩
 intro D V wx hall hf hWR;have f0:V 5= .pointer (some ⟨w.heap.size,1,none⟩):=hf 0 (by decide)
 have f1:V 6= .int .i64 ay:=hf 1 (by decide)
 have f2:V 7= .pointer (some ⟨w.heap.size+1,1,none⟩):=hf 2 (by decide)
 have f3:V 8= .int .i64 b_y:=hf 3 (by decide)
 have f4:V 9= .int .i64 (fG ay b_y):=hf 4 (by decide)
 have f5:V 10= .pointer (some ⟨w.heap.size,0,none⟩):=hf 5 (by decide)
 have f6:V 11= .int .i64 ax:=hf 6 (by decide)
 have f7:V 12= .pointer (some ⟨w.heap.size+1,0,none⟩):=hf 7 (by decide)
 have f8:V 13= .int .i64 bx:=hf 8 (by decide)
 have f9:V 14= .int .i64 (fG ax bx):=hf 9 (by decide)
 have f10:=hf 10 (by decide)
 have f11:V 16= .int .i64 (nC ax ay bx b_y):=hf 11 (by decide)
 have f12:V 4= .int .i64 (nC ax ay bx b_y):=hf 12 (by decide)
 clear hf hall;simp only[eD,List.foldl_cons,List.foldl_nil,f0,f1,f2,f3,f4,f5,f6,f7,f8,f9,f11,f12];simp only[Act.put,List.setIfInBounds_toArray,List.set_cons_succ,List.set_cons_zero];clear f0 f1 f2 f3 f4 f5 f6 f7 f8 f9 f11 f12
 go_wp2
 go_ret
 exact⟨rfl,hL.trans hWR⟩
def Qw(x y:Geo.aM):Int:=nC (nth x 0).x (nth x 0).y (nth y 0).x (nth y 0).y
set_option maxHeartbeats 2000000 in
theorem Ud(xa ya:Option Addr)(xc yc:Nat)(xs ys:Geo.aM)(w:World)(hx:RdV w xa xs)(hy:RdV w ya ys)(h0:0<xs.length)(h1:0<ys.length)(_hlx:xs.length<=1000)(_hly:ys.length<=1000):
  Calls Tryz.prog 127 #[.slice xa xs.length xc,.slice ya ys.length yc] w fun e w'=>e= .returned (.int .i64 (Qw xs ys))/\Lay w w':=by
 obtain⟨b,off,rfl,hb,p0,p1⟩:=hx 0 h0;obtain⟨b',off',rfl,hb',q0,q1⟩:=hy 0 h1;have HC:Hid (Qw xs ys=nC (nth xs 0).x (nth xs 0).y (nth ys 0).x (nth ys 0).y):=Lib.hid rfl;generalize (nth xs 0).x=ax at p0 HC;generalize (nth xs 0).y=ay at p1 HC;generalize (nth ys 0).x=bx at q0 HC;generalize (nth ys 0).y=b_y at q1 HC;simp only[Nat.zero_mul,Nat.add_zero]at p0 p1 q0 q1
 go_enter Tryz.func127,Tryz.ntmps127
 go_upto_region 1 with fail
 have r0:=Lib.hid p0;have r1:=Lib.hid p1;have r2:=Lib.hid q0;have r3:=Lib.hid q1;clear p0 p1 q0 q1;refine At (by kernel_rfl) [4,5,6,7,8,9,10,11] [[],[0],[0,1],[],[3],[3,4],[0,1,2,3,4,5],[0,1,2,3,4,5,6]] (by kernel_rfl) (by kernel_rfl) (by intro s hs;simp at hs|-;omega)
  (fun D wx=>Lay w wx)
  (fun i v wx=>match i with
    |0=>v= .slice (some ⟨b,off,none⟩) xs.length xc
    |1=>v= .pointer (some ⟨b,off,none⟩)
    |2=>v= .agg #[.int .i64 ax,.int .i64 ay]
    |3=>v= .slice (some ⟨b',off',none⟩) ys.length yc
    |4=>v= .pointer (some ⟨b',off',none⟩)
    |5=>v= .agg #[.int .i64 bx,.int .i64 b_y]
    |6=>v= .int .i64 (nC ax ay bx b_y)
    |7=>v= .int .i64 (nC ax ay bx b_y)
    |_=>True)
  (Lay.refl _).drew ?_ ?_ ?_
 ·intro j v wx wy hf hxy;match j with
  |0=>exact hf
  |1=>exact hf
  |2=>exact hf
  |3=>exact hf
  |4=>exact hf
  |5=>exact hf
  |6=>exact hf
  |7=>exact hf
  |_+8=>exact trivial
 ·refine⟨?_,?_,?_,?_,?_,?_,?_,?_,trivial⟩
  ·intro D V wx hD hanc hdesc hin hWR;have hA:=hWR;have e0:=hin 0 (by kernel_rfl)
   simp at e0;refine opK ?_;intro K hK;simp[cF,execOp,bI,e0,go_sem];exact hK _ _ ⟨rfl,hWR,.inl rfl⟩
  ·intro D V wx hD hanc hdesc hin hWR;have hA:=hWR;have e5:V 5= .slice (some ⟨b,off,none⟩) xs.length xc:=(hanc 0 (by kernel_rfl)).2
   refine opK ?_;intro K hK;simp[cF,execOp,bI,e5,h0,go_sem];exact hK _ _ ⟨rfl,hWR,.inl rfl⟩
  ·intro D V wx hD hanc hdesc hin hWR;have hA:=hWR;have e6:V 6= .pointer (some ⟨b,off,none⟩):=(hanc 1 (by kernel_rfl)).2
   have s0:=(hA.below.cell (p:=⟨b,off,none⟩) hb).trans r0.out;have s1:=(hA.below.cell (p:=⟨b,off+1,none⟩) hb).trans r1.out;refine opK ?_;intro K hK;simp[cF,execOp,bI,e6,s0,s1,go_sem];exact hK _ _ ⟨rfl,hWR,.inl rfl⟩
  ·intro D V wx hD hanc hdesc hin hWR;have hA:=hWR;have e1:=hin 1 (by kernel_rfl)
   simp at e1;refine opK ?_;intro K hK;simp[cF,execOp,bI,e1,go_sem];exact hK _ _ ⟨rfl,hWR,.inl rfl⟩
  ·intro D V wx hD hanc hdesc hin hWR;have hA:=hWR;have e8:V 8= .slice (some ⟨b',off',none⟩) ys.length yc:=(hanc 3 (by kernel_rfl)).2
   refine opK ?_;intro K hK;simp[cF,execOp,bI,e8,h1,go_sem];exact hK _ _ ⟨rfl,hWR,.inl rfl⟩
  ·intro D V wx hD hanc hdesc hin hWR;have hA:=hWR;have e9:V 9= .pointer (some ⟨b',off',none⟩):=(hanc 4 (by kernel_rfl)).2
   have s0:=(hA.below.cell (p:=⟨b',off',none⟩) hb').trans r2.out;have s1:=(hA.below.cell (p:=⟨b',off'+1,none⟩) hb').trans r3.out;refine opK ?_;intro K hK;simp[cF,execOp,bI,e9,s0,s1,go_sem];exact hK _ _ ⟨rfl,hWR,.inl rfl⟩
  ·intro D V wx hD hanc hdesc hin hWR;have hA:=hWR;have e7:V 7= .agg #[.int .i64 ax,.int .i64 ay] :=(hanc 2 (by kernel_rfl)).2
   have e10:V 10= .agg #[.int .i64 bx,.int .i64 b_y] :=(hanc 5 (by kernel_rfl)).2
   refine opK ?_;intro K hK;simp[cF,execOp,bI,e7,e10,go_sem];refine(yS ax ay bx b_y wx).mono ?_;rintro e w1 ⟨rfl,hc⟩;exact⟨_,rfl,hK _ _ ⟨rfl,hA.trans hc,.inr (.inl hc.below)⟩⟩
  ·intro D V wx hD hanc hdesc hin hWR;have hA:=hWR;have e11:V 11= .int .i64 (nC ax ay bx b_y):=(hanc 6 (by kernel_rfl)).2
   refine opK ?_;intro K hK;simp[cF,execOp,bI,e11,go_sem];exact hK _ _ ⟨rfl,hWR,.inl rfl⟩
 intro D V wx hall hf hWR;have f0:V 5= .slice (some ⟨b,off,none⟩) xs.length xc:=hf 0 (by decide)
 have f1:V 6= .pointer (some ⟨b,off,none⟩):=hf 1 (by decide)
 have f2:V 7= .agg #[.int .i64 ax,.int .i64 ay] :=hf 2 (by decide)
 have f3:V 8= .slice (some ⟨b',off',none⟩) ys.length yc:=hf 3 (by decide)
 have f4:V 9= .pointer (some ⟨b',off',none⟩):=hf 4 (by decide)
 have f5:V 10= .agg #[.int .i64 bx,.int .i64 b_y] :=hf 5 (by decide)
 have f6:V 11= .int .i64 (nC ax ay bx b_y):=hf 6 (by decide)
 have f7:V 4= .int .i64 (nC ax ay bx b_y):=hf 7 (by decide)
 clear hf hall;simp only[eD,List.foldl_cons,List.foldl_nil,f0,f1,f2,f3,f4,f5,f6,f7];simp only[Act.put,List.setIfInBounds_toArray,List.set_cons_succ,List.set_cons_zero];clear f0 f1 f2 f3 f4 f5 f6 f7
 go_wp2
 go_ret
 exact⟨nI HC.out.symm,hWR⟩
end Go.Proofs.YtdaeofhdgabhjaaGreat
namespace Go.Proofs.YtdaeofhdgabhjaaGreat
open Go.RowKit Go.Sort Go.Shelf Go.Lib
section
variable {α:Type} [Inhabited α]
theorem rT{enc:α->Value}{w:World}{g n:Nat}{d:Array α}{os:Array Obj}{cur:Array Value}{t:TypeId}(hb:w.heap[g]? =some (.cells cur t (0,0))):(sortWorld enc w g 0 n d os).heap[g]? =some (.cells (putCells enc 0 d cur) t (0,0)):=by
 have hlt:=(Array.getElem?_eq_some_iff.1 hb).1;unfold sortWorld Sort.grow putRow mapBlock;simp only[heap_ahead];rw[Array.getElem?_append_left (by simpa using hlt),Array.getElem?_modify,if_pos rfl,hb]
 rfl
theorem nA{enc:α->Value}{w:World}{g n:Nat}{d:Array α}{os:Array Obj}:w.grownBy (sortWorld enc w g 0 n d os) (some g):=by
 refine⟨rfl,rfl,rfl,?_,?_⟩
 ·unfold sortWorld Sort.grow putRow mapBlock;simp
 ·intro k hk hne;unfold sortWorld Sort.grow putRow mapBlock;simp only[heap_ahead];rw[Array.getElem?_append_left (by simpa using hk),Array.getElem?_modify,if_neg (fun e=>hne (by rw[e]))]
theorem Ha{enc:α->Value}{d:Array α}{cur:Array Value}(h:d.size<=cur.size):(putCells enc 0 d cur).toList.take d.size=d.toList.map enc:=by
 apply List.ext_getElem?;intro i;rw[List.getElem?_take];by_cases hi:i<d.size
 ·rw[if_pos hi];unfold putCells;simp[hi,show i<cur.size by omega]
 ·rw[if_neg hi,List.getElem?_eq_none (by simp;omega)]
end
theorem vZ(g:Nat)(hg:∀args w,(callFunc g args).run Tryz.prog w= .ok (.enter g args) w)(cf:Geo.aM->Geo.aM->Int)(base:Nat)(v:Value)(rs:List RV)(w:World)(hl:rs.length<=1000000)
  (hrow:w.ownsRow base 23 1 v rs.length (rs.map RV.enc)) (hok:∀x∈rs,RingOk base w v x) (hO:SWO (ltOf fun x y:{x:RV//x∈rs}=>cf x.1.r y.1.r))
  (hcmp:∀x∈rs,∀y∈rs,∀wx,RdV wx x.a x.r->RdV wx y.a y.r->Calls Tryz.prog g #[x.enc,y.enc] wx fun e w'=>e= .returned (.int .i64 (cf x.r y.r))/\Lay wx w'):
  Calls Tryz.prog 68 #[v,.func (.func g) #[] #[]] w fun e w'=>e= .returned (.tuple #[])/\∃rs':List RV,rs'.Perm rs/\rs'.Pairwise (fun a b=>¬cf b.r a.r<0)/\w'.ownsRow base 23 1 v rs'.length (rs'.map RV.enc)/\(∀x∈rs',RingOk base w' v x)/\w.grownBy w' v.ownBlock:=by
 by_cases hr0:rs=[]
 ·subst hr0;have hv:∃p cap,v= .slice p 0 cap:=by
   rcases hrow.2 with⟨h1,_⟩|⟨gb,cap,cur,h1,_⟩
   ·exact⟨_,_,h1⟩
   ·exact⟨_,_,h1⟩
  obtain⟨p,cap,rfl⟩:=hv;have h:=AnyF.slices_SortFunc_none (P:=Tryz.prog) (ρ:=Tryz.sort68_ren) {Tryz.sort68 with} p cap (.func (.func g) #[] #[]) w
  change Calls Tryz.prog 68 _ _ _ at h;refine h.mono ?_;rintro e w' ⟨rfl,rfl⟩;exact⟨rfl,[],List.Perm.refl _,List.Pairwise.nil,hrow,hok,⟨rfl,rfl,rfl,Nat.le_refl _,fun _ _ _=>rfl⟩⟩
 ·obtain⟨x0,hx0⟩:=List.exists_mem_of_ne_nil _ hr0;have:Inhabited {x:RV//x∈rs}:=⟨⟨x0,hx0⟩⟩;rcases hrow.2 with⟨_,h1⟩|⟨gb,cap,cur,rfl,hbb,hh,hn,hcap,hsz,htk⟩
  ·exact absurd (List.length_eq_zero_iff.1 h1) hr0
  ·obtain⟨d,hd⟩:∃d:Array {x:RV//x∈rs},d=rs.attach.toArray:=⟨_,rfl⟩;have hds:d.size=rs.length:=by rw[hd];simp
   have hdm:d.toList.map (·.1)=rs:=by rw[hd];simp
   have hcs:rs.length<=cur.size:=by rw[hsz];omega
   have hH:Holds (fun x:{x:RV//x∈rs}=>RV.enc x.1) w gb 0 d:=by
    intro j hj;have e1:cur[j]? =some (RV.enc d[j]!.1):=by
     have e2:(cur.toList.take (rs.length*1))[j]? =(rs.map RV.enc)[j]? :=by rw[htk]
     rw[List.getElem?_take,if_pos (by omega)]at e2
     have e3:(rs.map RV.enc)[j]? =some (RV.enc d[j]!.1):=by
      have e4:((d.toList.map (·.1)).map RV.enc)[j]? =some (RV.enc d[j]!.1):=by
       rw[List.map_map,List.getElem?_map];simp[hj]
      rw[hdm]at e4;exact e4
     rw[e3]at e2;simpa using e2
    refine⟨?_,?_⟩
    ·rw[Nat.zero_add];exact(cell_of_row w gb j cur 23 (0,0) hh).trans e1
    ·simp[World.frozen?,hh]
   have hblk:gb<w.heap.size:=(Array.getElem?_eq_some_iff.1 hh).1;have h:=Any.slices_SortFunc (P:=Tryz.prog) (ρ:=Tryz.sort68_ren) Tryz.sort68 (fun x:{x:RV//x∈rs}=>RV.enc x.1) (fun _=>rfl) (fun x y=>cf x.1.r y.1.r) hO g #[] gb 0 cap d w hg (by
    intro m os dk hdk x y;have hG:=nA (enc:=fun x:{x:RV//x∈rs}=>RV.enc x.1) (w:=w) (g:=gb) (n:=m) (d:=dk) (os:=os)
    have h1:=hcmp x.1 x.2 y.1 y.2 _ ((hok x.1 x.2).rd.grown (hok x.1 x.2).sep hG) ((hok y.1 y.2).rd.grown (hok y.1 y.2).sep hG);rw[show(#[RV.enc x.1,RV.enc y.1] ++(#[] :Array Value))= #[RV.enc x.1,RV.enc y.1] by simp]
    exact h1.mono fun e w' ⟨he,hL⟩=>⟨he,hL.grow⟩) hH hblk (by omega)
   change Calls Tryz.prog 68 _ _ _ at h;rw[hds]at h;refine h.mono ?_;rintro e w' ⟨rfl,d',n,os,hp,hs,rfl⟩;obtain⟨p1,_,p3⟩:=hp;have hG:=nA (enc:=fun x:{x:RV//x∈rs}=>RV.enc x.1) (w:=w) (g:=gb) (n:=n) (d:=d') (os:=os)
   have hperm:d'.toList.Perm d.toList:=by
    have e1:(d'.extract 0 rs.length).toList=d'.toList:=by rw[<-hds,<-p1];simp
    have e2:(d.extract 0 rs.length).toList=d.toList:=by rw[<-hds];simp
    rwa[e1,e2]at p3
   have hpr:(d'.toList.map (·.1)).Perm rs:=by
    have:=hperm.map (·.1)
    rwa[hdm]at this
   have hlen:(d'.toList.map (·.1)).length=rs.length:=hpr.length_eq
   refine⟨rfl,d'.toList.map (·.1),hpr,?_,?_,?_,hG⟩
   ·rw[List.pairwise_map,List.pairwise_iff_getElem];intro i j hi hj hij;have hj':j<d'.size:=by simpa using hj
    have:=hs i j (Nat.zero_le _) hij (by rw[<-hds,<-p1];exact hj')
    unfold ltOf at this;rw[getElem!_pos d' i (by omega),getElem!_pos d' j hj']at this
    simpa using this
   ·refine⟨by simp,.inr ⟨gb,cap,_,by rw[hlen],hbb,rT hh,by omega,hcap,by unfold putCells;simpa using hsz,?_⟩⟩
    rw[hlen,Nat.mul_one,<-hds,<-p1,Ha (by omega),List.map_map]
    rfl
   ·intro x hx;have hx2:=hpr.mem_iff.1 hx;have ok:=hok x hx2;exact⟨ok.rd.grown ok.sep hG,ok.fresh,ok.cap,ok.len,ok.sep⟩
end Go.Proofs.YtdaeofhdgabhjaaGreat
namespace Go.Proofs.YtdaeofhdgabhjaaGreat
open Go.RowKit
theorem Wa(p q:Geo.V):nC p.x p.y q.x q.y=Geo.dW p q:=by
 unfold nC orI Geo.dW fG Geo.fG;grind
theorem Me{xs ys:Geo.aM}{k:Nat}(hx:k<xs.length)(hy:k<ys.length):Geo.cD (xs.drop k) (ys.drop k)=if Geo.dW (Geo.nth xs k) (Geo.nth ys k)=0 then Geo.cD (xs.drop (k+1)) (ys.drop (k+1))else Geo.dW (Geo.nth xs k) (Geo.nth ys k):=by
 have e1:Geo.nth xs k=xs[k] :=by unfold Geo.nth;simp[List.getD_eq_getElem?_getD,hx]
 have e2:Geo.nth ys k=ys[k] :=by unfold Geo.nth;simp[List.getD_eq_getElem?_getD,hy]
 rw[List.drop_eq_getElem_cons hx,List.drop_eq_getElem_cons hy,e1,e2];by_cases h:Geo.dW xs[k] ys[k] =0
 ·rw[if_pos h];show(if Geo.dW xs[k] ys[k]≠0 then _ else _)=_
  rw[if_neg (by simpa using h)]
 ·rw[if_neg h];show(if Geo.dW xs[k] ys[k]≠0 then _ else _)=_
  rw[if_pos h]
theorem Uc{xs ys:Geo.aM}{k:Nat}(hx:k<xs.length)(hy:ys.length<=k):Geo.cD (xs.drop k) (ys.drop k)=1:=by
 rw[List.drop_eq_getElem_cons hx,List.drop_eq_nil_of_le hy];rfl
theorem Ql{xs ys:Geo.aM}{k:Nat}(hx:xs.length<=k)(hk:k<=xs.length):Geo.cD (xs.drop k) (ys.drop k)=if xs.length<ys.length then-1 else 0:=by
 rw[List.drop_eq_nil_of_le hx];by_cases h:xs.length<ys.length
 ·rw[if_pos h,List.drop_eq_getElem_cons (show k<ys.length by omega)];rfl
 ·rw[if_neg h,List.drop_eq_nil_of_le (show ys.length<=k by omega)];rfl
set_option maxRecDepth 100000 in
set_option maxHeartbeats 2000000 in
theorem By(xa ya:Option Addr)(xc yc:Nat)(xs ys:Geo.aM)(w:World)(hx:RdV w xa xs)(hy:RdV w ya ys)(hlx:xs.length<=1000)(_hly:ys.length<=1000):
  Calls Tryz.prog 77 #[.slice xa xs.length xc,.slice ya ys.length yc,.func (.func 78) #[] #[]] w fun e w'=>e= .returned (.int .i64 (Geo.cD xs ys))/\Lay w w':=by
 go_enter Tryz.func77,Tryz.ntmps77
 go_wp2
 go_loopw [7,8,9,10,13] (fun _ _ _ _ i wr=>∃k:Nat,k<=xs.length/\i= .int .i64 k/\Hid (Geo.cD xs ys=Geo.cD (xs.drop k) (ys.drop k))/\Lay w wr) (fun _ _ _ _ i _=>xs.length-(intOf i).toNat)
 case atStart=>exact⟨0,by omega,rfl,Lib.hid (by simp),Lay.refl _⟩
 case round=>
  obtain⟨k,hk,rfl,HF,hb⟩:=hrel;by_cases hlt:k<xs.length
  ·obtain⟨b,off,rfl,hbl,p0,p1⟩:=(hx.below hb.below) k hlt;by_cases hly2:k<ys.length
   ·obtain⟨b',off',rfl,hbl',q0,q1⟩:=(hy.below hb.below) k hly2;have HS:=Lib.hid (HF.out.trans (Me hlt hly2));obtain⟨⟨ax,ay⟩,hz⟩:∃z,z=Geo.nth xs k:=⟨_,rfl⟩;obtain⟨⟨bx,b_y⟩,hz'⟩:∃z,z=Geo.nth ys k:=⟨_,rfl⟩;rw[<-hz]at p0 p1;rw[<-hz']at q0 q1;rw[<-hz,<-hz']at HS;dsimp only at p0 p1 q0 q1;clear hz hz';have q0':(wr.alloc (.cells #[.int .i64 ax,.int .i64 ay] 44)).cell? ⟨b',off'+k*2,none⟩=some (.int .i64 bx):=(((Below.refl _ wr).alloc (Nat.le_refl _) _).cell (p:=⟨b',_,none⟩) hbl').trans q0;have q1':(wr.alloc (.cells #[.int .i64 ax,.int .i64 ay] 44)).cell? ⟨b',off'+k*2+1,none⟩=some (.int .i64 b_y):=(((Below.refl _ wr).alloc (Nat.le_refl _) _).cell (p:=⟨b',_,none⟩) hbl').trans q1;have hne:¬ys.length<=k:=by omega
    go_wp2_with fail
    refine(yS ax ay bx b_y _).mono ?_;rintro e w1 ⟨rfl,hb1⟩;have HC:Hid (nC ax ay bx b_y=Geo.dW ⟨ax,ay⟩ ⟨bx,b_y⟩):=Lib.hid (Wa ⟨ax,ay⟩ ⟨bx,b_y⟩);rw[HC.out];have hb2:=((hb.alloc (.cells #[.int .i64 ax,.int .i64 ay] 44)).alloc (.cells #[.int .i64 bx,.int .i64 b_y] 44)).trans hb1;clear HC hb1 p0 p1 q0 q1 q0' q1';generalize Geo.dW ⟨ax,ay⟩ ⟨bx,b_y⟩=C at HS|-;by_cases hc:C=0
    ·subst hc;have HS2:Hid (Geo.cD xs ys=Geo.cD (xs.drop (k+1)) (ys.drop (k+1))):=Lib.hid (HS.out.trans (if_pos rfl))
     go_wp2
     go_roundw
     case rel=>exact⟨k+1,by omega,by go_num,HS2,hb2⟩
     case measure=>simp[intOf];omega
    ·have HS2:Hid (Geo.cD xs ys=C):=Lib.hid (HS.out.trans (if_neg hc));have e1:(C !=0)=true:=by simp[hc]
     have e2:(C==0)=false:=by simp[hc]
     go_wp2
     go_ret
     exact⟨nI HS2.out.symm,hb2⟩
   ·have HS:=Lib.hid (HF.out.trans (Uc hlt (show ys.length<=k by omega)))
    go_wp2
    go_ret
    exact⟨nI HS.out.symm,hb.alloc _⟩
  ·have HS:=Lib.hid (HF.out.trans (Ql (show xs.length<=k by omega) hk))
   by_cases hq:xs.length<ys.length
   ·have HS2:=Lib.hid (HS.out.trans (if_pos hq))
    go_wp2
    go_ret
    exact⟨nI HS2.out.symm,hb⟩
   ·have HS2:=Lib.hid (HS.out.trans (if_neg hq))
    go_wp2
    go_ret
    exact⟨nI HS2.out.symm,hb⟩
set_option maxHeartbeats 400000 in
theorem Bx(xa ya:Option Addr)(xc yc:Nat)(xs ys:Geo.aM)(w:World)(hx:RdV w xa xs)(hy:RdV w ya ys)(hlx:xs.length<=1000)(hly:ys.length<=1000):
  Calls Tryz.prog 26 #[.slice xa xs.length xc,.slice ya ys.length yc] w fun e w'=>e= .returned (.int .i64 (Geo.cD xs ys))/\Lay w w':=by
 go_enter Tryz.func26,Tryz.ntmps26
 go_wp2_with (go_at_call 77;(with_reducible refine(By _ _ _ _ _ _ _ hx hy hlx hly).mono ?_);rintro e w1 ⟨rfl,hb1⟩)
 go_ret
 exact⟨rfl,hb1⟩
end Go.Proofs.YtdaeofhdgabhjaaGreat
namespace Go.Proofs.YtdaeofhdgabhjaaGreat
open Go.RowKit
theorem Qk{rs:List RV}:Sort.SWO (ltOf fun x y:{x:RV//x∈rs}=>Geo.cD x.1.r y.1.r):=by
 have h:∀x y:{x:RV//x∈rs},ltOf (fun x y:{x:RV//x∈rs}=>Geo.cD x.1.r y.1.r) x y=true↔Geo.cD x.1.r y.1.r<0:=by
  intro x y;unfold ltOf;rw[decide_eq_true_eq]
 refine⟨?_,?_,?_⟩
 ·intro x;rw[Bool.eq_false_iff,ne_eq,h];have:=Geo.Mf x.1.r;omega
 ·intro x y z h1 h2;rw[h]at*;exact Geo.pY _ _ _ h1 h2
 ·intro x y z h1 h2;rw[Bool.eq_false_iff,ne_eq,h]at*;have e1:=Geo.gH x.1.r y.1.r;have e2:=Geo.gH y.1.r z.1.r;have e3:=Geo.gH x.1.r z.1.r;have:= @Geo.yO z.1.r y.1.r x.1.r;unfold Geo.iJ at this;omega
theorem Ub{a b:Geo.aM}(h:¬Geo.cD b a<0):Geo.iJ a b:=by
 have:=Geo.gH a b;unfold Geo.iJ;omega
theorem Yd{C:bR}{w:World}{b:Nat}(hC:∀b' o v,C b' o v->w.cell? ⟨b',o,none⟩=some v/\b'≠b){r:List Geo.V}{v:Value}(h:aZ C (iE r) v):
  ∃a c,v= .slice a r.length c/\RdV w a r/\r.length<=c/\(0<r.length->∀ad,a=some ad->ad.block≠b):=by
 obtain⟨a,c,hv,h1,h2,_⟩:=Dr (fun b' o v h=>(hC b' o v h).1) h
 refine⟨a,c,hv,h1,h2,fun h0 ad ha=> ?_⟩
 unfold iE aZ at h;obtain⟨a',c',hv',_,_,h3⟩:=h;rw[hv]at hv';simp only[Value.slice.injEq,true_and]at hv';obtain⟨rfl,rfl⟩:=hv';obtain⟨_,h5⟩:=h3 _ ha;have hl:0<(mG r).length:=by rw[Hf.length];omega
 obtain⟨u,h6,_⟩:=h5.get _ _ _ 0 _ (List.getElem?_eq_getElem hl);exact(hC _ _ _ h6).2
structure RingIn(C:bR)(w:World)(b:Nat)(x:RV):Prop where
 rep:aZ C (iE x.r) x.enc
 rd:RdV w x.a x.r
 cap:x.r.length<=x.c
 sep:0<x.r.length->∀ad,x.a=some ad->ad.block≠b
theorem Ia{C:bR}{w:World}{b:Nat}(hC:∀b' o v,C b' o v->w.cell? ⟨b',o,none⟩=some v/\b'≠b):∀(l:List Geo.aM) (us:List Value),
  (∀(i:Nat) x,(l.map iE)[i]? =some x->∃v,us[i]? =some v/\aZ C x v)->∃rs:List RV,rs.map RV.r=l/\rs.map RV.enc=us.take l.length/\∀x∈rs,RingIn C w b x
 |[],us,_=>⟨[],rfl,by simp,by simp⟩
 |r::l,us,h=>by
  obtain⟨v,h1,h2⟩:=h 0 (iE r) rfl;cases us with
  |nil=>simp at h1
  |cons u us=>
   simp at h1;subst h1;obtain⟨rs,h3,h4,h5⟩:=Ia hC l us fun i x hi=>by simpa using h (i+1) x (by simpa using hi)
   obtain⟨a,c,rfl,g1,g2,g3⟩:=Yd hC h2;refine⟨⟨a,c,r⟩::rs,by simp[h3],by simp[h4,RV.enc],?_⟩
   intro x hx;rcases List.mem_cons.1 hx with rfl|hx
   ·exact⟨h2,g1,g2,g3⟩
   ·exact h5 x hx
theorem Tn{w w':World}(h:w.grownBy w' none):Below w.heap.size w w':=⟨h.os,h.tape,h.output,h.size,fun k hk=>h.block k hk (by simp)⟩
theorem aKW(args:Array Value)(w:World):(callFunc 26 args).run Tryz.prog w= .ok (.enter 26 args) w:=eB (by kernel_rfl) args w
theorem aGQ{rs:List RV}(h:∀x∈rs,x.r.length<=1000):∀x∈rs,∀y∈rs,∀wx,RdV wx x.a x.r->RdV wx y.a y.r->Calls Tryz.prog 26 #[x.enc,y.enc] wx fun e w'=>e= .returned (.int .i64 (Geo.cD x.r y.r))/\Lay wx w':=
 fun x hx y hy wx h1 h2=>Bx x.a y.a x.c y.c x.r y.r wx h1 h2 (h x hx) (h y hy)
theorem Hz(g:Nat)(hg:∀args w,(callFunc g args).run Tryz.prog w= .ok (.enter g args) w)(cf:Geo.aM->Geo.aM->Int)(l m:List Geo.aM)(hn:l.length<=1000000)(hl:∀r∈l,r.length<=1000)(hlen:m.length=l.length)
  (hO:∀rs:List RV,rs.map RV.r=l->Sort.SWO (ltOf fun x y:{x:RV//x∈rs}=>cf x.1.r y.1.r))
  (hc:∀rs:List RV,rs.map RV.r=l->∀x∈rs,∀y∈rs,∀wx,RdV wx x.a x.r->RdV wx y.a y.r->Calls Tryz.prog g #[x.enc,y.enc] wx fun e w'=>e= .returned (.int .i64 (cf x.r y.r))/\Lay wx w')
  (hu:∀k:List Geo.aM,k.Perm l->k.Pairwise (fun a b=>¬cf b a<0)->k=m):Br Tryz.prog 68 (some l.length) [.fn (.func g) [] []] 23 1 (l.map iE) (m.map iE):=by
 have hfn:∀(C:bR) (vs:List Value),bZ C [.fn (.func g) [] []] vs->vs=[.func (.func g) #[] #[]] :=by
  intro C vs h;unfold bZ at h;obtain⟨v,r,rfl,h1,h2⟩:=h;unfold bZ at h2;subst h2;unfold aZ at h1;obtain⟨a,b,rfl,h3,h4⟩:=h1;unfold bZ at h3 h4;subst h3;subst h4;rfl
 refine⟨by kernel_rfl,by simp[hlen],?_,?_⟩
 ·intro C w b c arr vs hC hL hnc hA;rw[hfn C vs hA];have hnc:=hnc _ rfl;obtain⟨h1,h2,h3⟩:=hL.row (by decide)
  obtain⟨rs,g1,g2,g3⟩:=Ia hC l arr.toList fun i x hi=>by
   obtain⟨v,k1,_,k2⟩:=hL.cells i x hi;exact⟨v,by simpa using k1,k2⟩
  have hrl:rs.length=l.length:=by rw[<-g1,List.length_map]
  have hr1:∀x∈rs,x.r.length<=1000:=fun x hx=>hl _ (by rw[<-g1];exact List.mem_map_of_mem hx)
  have hrow:w.ownsRow 0 23 1 (.slice (some ⟨b,0,none⟩) l.length c) rs.length (rs.map RV.enc):=
   ⟨by simp,.inr ⟨b,c,arr,by rw[hrl],Nat.zero_le _,hL.blk,by omega,h3,h1,by rw[Nat.mul_one,hrl,g2]⟩⟩
  refine(vZ g hg cf 0 _ rs w (by omega) hrow ?_ (hO rs g1) (hc rs g1)).mono ?_
  ·intro x hx;refine⟨(g3 x hx).rd,fun ad _=>Nat.zero_le _,(g3 x hx).cap,hr1 x hx,fun h0 ad ha e=>(g3 x hx).sep h0 ad ha ?_⟩
   simp only[Value.ownBlock,Option.some.injEq]at e;exact e.symm
  ·rintro e w' ⟨rfl,rs',hp,hs,hrow',hok',hg⟩;have hso:rs'.map RV.r=m:=by
    refine hu _ (by rw[<-g1];exact hp.map _) ?_
    rw[List.pairwise_map];exact hs
   obtain⟨hz,hcase⟩:=hrow';rcases hcase with⟨e,_⟩|⟨gb,cap,cur,e,_,hblk,hnc',hcm,hsz,htk⟩
   ·cases e
   ·simp only[Value.slice.injEq,Option.some.injEq,Addr.mk.injEq,and_true]at e;obtain⟨rfl,e2,rfl⟩:=e;refine⟨cur,rfl,⟨hblk,fun h=>absurd h (by decide),fun _=>⟨hsz,by rw[List.length_map,hlen];omega,hcm⟩,?_⟩,hg⟩
    intro i x hi;rw[<-hso,List.map_map]at hi;rw[List.getElem?_map]at hi;cases hx:rs'[i]? with
    |none=>rw[hx]at hi;cases hi
    |some y=>
     rw[hx]at hi;simp only[Option.map_some,Option.some.injEq,Function.comp]at hi;subst hi;have hi':i<rs'.length:=(List.getElem?_eq_some_iff.1 hx).1;have hy:y∈rs:=hp.mem_iff.1 (List.mem_of_getElem? hx);have h7:(rs'.map RV.enc)[i]? =some y.enc:=by rw[List.getElem?_map,hx];rfl
     rw[<-htk,List.getElem?_take_of_lt (by omega)]at h7
     exact⟨y.enc,by simpa using h7,rfl,(g3 y hy).rep⟩
 ·intro h0 C w vs hC hA;rw[hfn C vs hA];have hl0:l=[] :=List.length_eq_zero_iff.1 (by simpa using h0)
  subst hl0;refine(vZ g hg cf 0 (.slice none 0 0) [] w (by simp) ⟨by simp,.inl ⟨rfl,rfl⟩⟩ (by simp) (hO [] rfl) (hc [] rfl)).mono ?_
  rintro e w' ⟨rfl,rs',_,_,_,_,hg⟩;exact⟨rfl,Tn hg⟩
theorem Wu(a b:Geo.aM):Qw a b<0↔Geo.cH (Geo.nth a 0) (Geo.nth b 0)=true:=by
 unfold Qw;rw[Wa];exact xT _ _
theorem aGE(args:Array Value)(w:World):(callFunc 127 args).run Tryz.prog w= .ok (.enter 127 args) w:=eB (by kernel_rfl) args w
theorem aCr{rs:List RV}:Sort.SWO (ltOf fun x y:{x:RV//x∈rs}=>Qw x.1.r y.1.r):=by
 have h:∀x y:{x:RV//x∈rs},ltOf (fun x y:{x:RV//x∈rs}=>Qw x.1.r y.1.r) x y=true↔Geo.cH (Geo.nth x.1.r 0) (Geo.nth y.1.r 0)=true:=by
  intro x y;unfold ltOf;rw[decide_eq_true_eq,Wu]
 refine⟨?_,?_,?_⟩
 ·intro x;rw[Bool.eq_false_iff,ne_eq,h,zQ];simp
 ·intro x y z h1 h2;rw[h]at*;revert h1 h2;unfold Geo.cH;grind
 ·intro x y z h1 h2;rw[Bool.eq_false_iff,ne_eq,h]at*;revert h1 h2;unfold Geo.cH;grind
theorem So(l:List Geo.aM)(hn:l.length<=1000000)(hl:∀r∈l,r.length<=1000):Br Tryz.prog 68 (some l.length) [.fn (.func 26) [] []] 23 1 (l.map iE) ((Geo.Cq l).map iE):=
 Hz 26 aKW Geo.cD l _ hn hl (Geo.wN l).length_eq (fun _ _=>Qk) (fun rs hr=>aGQ fun x hx=>hl _ (by rw[<-hr];exact List.mem_map_of_mem hx))
  fun k hp hs=>Geo.Lv hp (hs.imp fun h=>Ub h)
theorem Pu(l:List Geo.aM)(hn:l.length<=1000000)(hl:∀r∈l,0<r.length/\r.length<=1000)(ha:∀a∈l,∀b∈l,Geo.leH a b->Geo.leH b a->a=b):Br Tryz.prog 68 (some l.length) [.fn (.func 127) [] []] 23 1 (l.map iE) ((Geo.xG l).map iE):=by
 have hm:∀rs:List RV,rs.map RV.r=l->∀x∈rs,x.r∈l:=fun rs hr x hx=>by rw[<-hr];exact List.mem_map_of_mem hx
 refine Hz 127 aGE Qw l _ hn (fun r hr=>(hl r hr).2) (Geo.kF l).length_eq (fun _ _=>aCr) (fun rs hr x hx y hy wx h1 h2=> ?_) fun k hp hs=> ?_
 ·have g1:=hl _ (hm rs hr x hx);have g2:=hl _ (hm rs hr y hy);exact Ud x.a y.a x.c y.c x.r y.r wx h1 h2 g1.1 g2.1 g1.2 g2.2
 ·have hs:k.Pairwise Geo.leH:=hs.imp fun{a b} h=>by
   rw[Wu]at h;exact(Geo.gF _ _).1 (by simpa using h)
  exact List.Perm.eq_of_pairwise (fun a b h1 h2 h3 h4=>ha a (hp.mem_iff.1 h1) b ((Geo.kF l).mem_iff.1 h2) h3 h4) hs (Geo.Lx l) (hp.trans (Geo.kF l).symm)
def d68:List SV->Option (List Geo.aM×Bool)
 |[.lst .R l,.fnp 26 [] []] =>some (l,true)
 |[.lst .R l,.fnp 127 [] []] =>some (l,false)
 |_=>none
def r68:List Geo.aM×Bool->List Geo.aM
 |(l,true)=>Geo.Cq l
 |(l,false)=>Geo.xG l
def p68:List Geo.aM×Bool->List Prop
 |(l,true)=>[l.length<=1000000,∀r∈l,r.length<=1000]
 |(l,false)=>[l.length<=1000000,∀r∈l,0<r.length/\r.length<=1000,∀a∈l,∀b∈l,Geo.leH a b->Geo.leH b a->a=b]
theorem aCp{l:List Geo.aM}{rest:List SV}{x:List Geo.aM×Bool}(h:d68 (.lst .R l::rest)=some x):(rest=[.fnp 26 [] []]/\x=(l,true))\/(rest=[.fnp 127 [] []]/\x=(l,false)):=by
 unfold d68 at h;split at h
 ·rename_i e;cases e;cases h;exact .inl ⟨rfl,rfl⟩
 ·rename_i e;cases e;cases h;exact .inr ⟨rfl,rfl⟩
 ·cases h
def c68:Con:=⟨List Geo.aM×Bool,d68,p68,.mutR .R 23 r68⟩
theorem k68:c68.Ok Tryz.prog 68:=by
 intro l rest x hd hp;rcases aCp hd with⟨rfl,rfl⟩|⟨rfl,rfl⟩
 ·refine⟨[.fn (.func 26) [] []],rfl,?_⟩;rw[Ap];show Br _ _ _ _ _ _ _ (LT.R.enc (Geo.Cq l));rw[Ap];exact So l (hp _ List.mem_cons_self) (hp _ (List.mem_cons_of_mem _ List.mem_cons_self))
 ·refine⟨[.fn (.func 127) [] []],rfl,?_⟩;rw[Ap];show Br _ _ _ _ _ _ _ (LT.R.enc (Geo.xG l));rw[Ap];exact Pu l (hp _ List.mem_cons_self) (hp _ (List.mem_cons_of_mem _ List.mem_cons_self)) (hp _ (List.mem_cons_of_mem _ (List.mem_cons_of_mem _ List.mem_cons_self)))
noncomputable def t68:Tab:=cC [(68,c68)] tS
theorem aHo:t68.Ok Tryz.prog:=aK tSo ⟨k68,trivial⟩
end Go.Proofs.YtdaeofhdgabhjaaGreat
namespace Go.Proofs.YtdaeofhdgabhjaaGreat
open Go.RowKit
set_option maxRecDepth 100000
noncomputable section
open Geo (aY nth aC)
theorem zU{p:Geo.Pt}{w:Int}:∀{l:List Geo.aM} {k:Nat},k<l.length->(∀j,j<k->¬Geo.cI (aC l j) p=2/\¬Geo.cI (aC l j) p=1)->(Geo.cI (aC l k) p=2->0=Geo.lD p l w)/\(¬Geo.cI (aC l k) p=2->Geo.cI (aC l k) p=1->1=Geo.lD p l w)
 |[],k,h,_=>by simp at h
 |r::l,0,h,_=>by
  unfold Geo.lD;refine⟨fun e=> ?_,fun e1 e2=> ?_⟩
  ·rw[if_pos (show Geo.cI r p=2 from e)]
  ·rw[if_neg (show¬Geo.cI r p=2 from e1),if_pos (show Geo.cI r p=1 from e2)]
 |r::l,k+1,h,h1=>by
  unfold Geo.lD;obtain⟨e1,e2⟩:=h1 0 (by omega)
  rw[if_neg (show¬Geo.cI r p=2 from e1),if_neg (show¬Geo.cI r p=1 from e2)]
  exact zU (l:=l) (k:=k) (by simpa using h) fun j hj=>h1 (j+1) (by omega)
theorem Fq{p:Geo.Pt}{w:Int}:∀{l:List Geo.aM},(∀j,j<l.length->¬Geo.cI (aC l j) p=2/\¬Geo.cI (aC l j) p=1)->w=Geo.lD p l w
 |[],_=>rfl
 |r::l,h1=>by
  unfold Geo.lD;obtain⟨e1,e2⟩:=h1 0 (by simp)
  rw[if_neg (show¬Geo.cI r p=2 from e1),if_neg (show¬Geo.cI r p=1 from e2)]
  exact Fq (l:=l) fun j hj=>h1 (j+1) (by simpa using hj)
def c66:Con:=con (ac aSh (a1 aT)) (fun(s,_)=>[Fit s]) (fun(s,p)=> .int .i64 (Geo.dZ s p))
theorem k66:c66.Ok Tryz.prog 66:=aX (bK aHo) (raw:=bO) (fun(s,p)=>[cnt 7 21 s.holes.length (aU fun j=>¬Geo.cI (aC s.holes j) p=2/\¬Geo.cI (aC s.holes j) p=1)]
  ) (fun(_,_)=>⟨_,rfl⟩) fun(s,p) hp=>bL (q:=Fit s/\((!Geo.aR s)=true->0=Geo.dZ s p)/\
 ((!Geo.aR s)=false->s.outer.length<=1000/\(¬Geo.cI s.outer p=2->Geo.cI s.outer p=Geo.dZ s p)/\
  (¬(¬Geo.cI s.outer p=2)->(0=(0:Int)/\(0:Nat)<=s.holes.length/\aU (fun j=>¬Geo.cI (aC s.holes j) p=2/\¬Geo.cI (aC s.holes j) p=1) 0)/\
   (∀x:Nat,x<=s.holes.length/\aU (fun j=>¬Geo.cI (aC s.holes j) p=2/\¬Geo.cI (aC s.holes j) p=1) x->((x:Int)<s.holes.length->ix (x:Int) s.holes.length/\(aC s.holes x).length<=1000/\(Geo.cI (aC s.holes x) p=2->0=Geo.dZ s p)/\
     (¬Geo.cI (aC s.holes x) p=2->(Geo.cI (aC s.holes x) p=1->1=Geo.dZ s p)/\
      (¬Geo.cI (aC s.holes x) p=1->aJ ((x:Int)+1)/\(x:Int)+1=((x+1:Nat):Int)/\x+1<=s.holes.length/\aU (fun j=>¬Geo.cI (aC s.holes j) p=2/\¬Geo.cI (aC s.holes j) p=1) (x+1)/\s.holes.length-(x+1)<s.holes.length-x)))/\
    (¬(x:Int)<s.holes.length->Geo.cI s.outer p=Geo.dZ s p))))) (by kernel_rfl) (by
  change Fit s at hp;have w0:(!Geo.aR s)=true->0=Geo.dZ s p:=fun h=>by unfold Geo.dZ;rw[if_pos h]
  have w1:(!Geo.aR s)=false->¬Geo.cI s.outer p=2->Geo.cI s.outer p=Geo.dZ s p:=fun h h2=>by unfold Geo.dZ;rw[h];exact(if_pos h2).symm
  have w2:(!Geo.aR s)=false->¬¬Geo.cI s.outer p=2->Geo.dZ s p=Geo.lD p s.holes 2:=fun h h2=>by unfold Geo.dZ;rw[h];exact if_neg h2
  have hl:∀x:Nat,(x:Int)<s.holes.length->(aC s.holes x).length<=1000:=fun x h=>hp.2.2 _ (Geo.eM (by omega))
  have hn:=hp.2.1;have ho:=hp.1;have a2:∀x:Nat,(x:Int)<s.holes.length->aU (fun j=>¬Geo.cI (aC s.holes j) p=2/\¬Geo.cI (aC s.holes j) p=1) x->Geo.cI (aC s.holes x) p=2->0=Geo.lD p s.holes 2:=fun x h1 h2 h3=>(zU (by omega) h2).1 h3
  have a1:∀x:Nat,(x:Int)<s.holes.length->aU (fun j=>¬Geo.cI (aC s.holes j) p=2/\¬Geo.cI (aC s.holes j) p=1) x->¬Geo.cI (aC s.holes x) p=2->Geo.cI (aC s.holes x) p=1->1=Geo.lD p s.holes 2:=fun x h1 h2 h3 h4=>(zU (by omega) h2).2 h3 h4
  have a0:∀x:Nat,¬(x:Int)<s.holes.length->x<=s.holes.length->aU (fun j=>¬Geo.cI (aC s.holes j) p=2/\¬Geo.cI (aC s.holes j) p=1) x->2=Geo.lD p s.holes 2:=fun x h1 h2 h3=>by
   obtain rfl:x=s.holes.length:=by omega
   exact Fq h3
  have hf:=hp;clear hp
  repeat' first|with_reducible apply And.intro|with_reducible intro
  all_goals repeat with_reducible cases‹_/\aU _ _›
  all_goals first|assumption|rfl|omega|(unfold ix;omega)|(unfold aJ;omega)|exact bC _|exact w0 ‹_› |exact w1 ‹_› ‹_› |exact hl _ ‹_› |(rw[w2 ‹_› ‹_›];exact a2 _ ‹_› ‹_› ‹_›)|(rw[w2 ‹_› ‹_›];exact a1 _ ‹_› ‹_› ‹_› ‹_›)|(rw[w2 ‹_› ‹_›,Decidable.of_not_not ‹¬¬Geo.cI s.outer p=2›];exact a0 _ ‹_› ‹_› ‹_›)|exact aE ‹_› ⟨‹_›,‹_›⟩)
def t66:Tab:=cC [(66,c66)] t68
theorem aHp:t66.Ok Tryz.prog:=aK aHo ⟨k66,trivial⟩
def aH(s:Geo.Shape):Geo.Shape:=if Geo.aR s=true then Geo.cY s else⟨[],[]⟩
theorem Tg{s:Geo.Shape}(h:Geo.VS s):∀a∈s.holes.map Geo.dH,∀b∈s.holes.map Geo.dH,Geo.leH a b->Geo.leH b a->a=b:=by
 have hn:=h.nodup;unfold Geo.eP Geo.aA at hn;rw[List.flatten_cons,List.nodup_append]at hn;have hn2:((s.holes.map Geo.dH).flatten).Nodup:=(Geo.pP s.holes).nodup_iff.2 hn.2.1;have hne:∀r∈s.holes.map Geo.dH,nth r 0∈r:=by
  intro r hr;obtain⟨q,hq,rfl⟩:=List.mem_map.1 hr;have h3:=(h.ring (show q∈Geo.aA s by simp[Geo.aA,hq])).three
  exact Geo.fJ.2 ⟨0,by rw[Geo.fM];omega,rfl⟩
 intro a ha b hb h1 h2;have e:nth a 0=nth b 0:=Geo.xZ h1 h2;exact Geo.uJ _ hn2 a ha b hb (nth a 0) (hne a ha) (by rw[e];exact hne b hb)
theorem uF{s:Geo.Shape}(h:Geo.VS s):s.holes.map Geo.dJ=s.holes.map Geo.dH:=List.map_congr_left fun r hr=>by
 unfold Geo.dJ;rw[(Geo.eZ r).2 (h.ring (by simp[Geo.aA,hr]))];rfl
def c57:Con:=con (a1 aSh) (fun s=>[Fit s]) (fun s=>aSh.enc (aH s))
theorem k57:c57.Ok Tryz.prog 57:=aX (bK aHp) (raw:=bO) (fun s=>[(5,.mk Nat (fun F _=>sQ F 17) [15] (fun k=>[k<=s.holes.length]) (fun k=>[(17,.int .i64 (k:Int))]) (fun k=>[(9,.box 26 [.lst .V (Geo.dJ s.outer),.own 15 .R k]),(15,.row 23 .R ((s.holes.take k).map Geo.dJ))]) (fun k=>s.holes.length-k) (fun _=>[]))]
  ) (fun _=>⟨_,rfl⟩) fun s hp=>bL (q:=Fit s/\((!Geo.aR s)=true->(aH s).outer=([] :List Geo.V)/\(aH s).holes=([] :List (List Geo.V)))/\
 ((!Geo.aR s)=false->s.outer.length<=1000/\(0=(0:Int)/\Geo.dJ s.outer=Geo.dJ s.outer/\(0:Nat)=0/\List.map Geo.dJ (List.take 0 s.holes)=([] :List (List Geo.V))/\(0:Nat)<=s.holes.length)/\
  (∀x:Nat,x<=s.holes.length->((x:Int)<s.holes.length->ix (x:Int) s.holes.length/\(aC s.holes x).length<=1000/\x=(List.map Geo.dJ (List.take x s.holes)).length/\(List.map Geo.dJ (List.take x s.holes)).length+[Geo.dJ (aC s.holes x)].length<=1000000/\aJ ((x:Int)+1)/\(x:Int)+1=((x+1:Nat):Int)/\Geo.dJ s.outer=Geo.dJ s.outer/\(List.map Geo.dJ (List.take x s.holes)++[Geo.dJ (aC s.holes x)]).length=x+1/\List.map Geo.dJ (List.take x s.holes)++[Geo.dJ (aC s.holes x)] =List.map Geo.dJ (List.take (x+1) s.holes)/\x+1<=s.holes.length/\s.holes.length-(x+1)<s.holes.length-x)/\
   (¬(x:Int)<s.holes.length->x=(List.map Geo.dJ (List.take x s.holes)).length/\(List.map Geo.dJ (List.take x s.holes)).length<=1000000/\(∀r:Geo.aM,r∈List.map Geo.dJ (List.take x s.holes)->(0:Nat)<r.length/\r.length<=1000)/\(∀a:Geo.aM,a∈List.map Geo.dJ (List.take x s.holes)->(∀b:Geo.aM,b∈List.map Geo.dJ (List.take x s.holes)->Geo.leH a b->Geo.leH b a->a=b))/\x=(r68 (List.map Geo.dJ (List.take x s.holes),false)).length/\Geo.dJ s.outer=(aH s).outer/\r68 (List.map Geo.dJ (List.take x s.holes),false)=(aH s).holes)))) (by kernel_rfl) (by
  change Fit s at hp;have c0:(!Geo.aR s)=true->aH s=⟨[],[]⟩:=fun h=>by unfold aH;rw[nb' h];rfl
  have c1:(!Geo.aR s)=false->aH s=Geo.cY s:=fun h=>by unfold aH;rw[nb h];rfl
  have V:(!Geo.aR s)=false->Geo.VS s:=fun h=>(Geo.iZ s).1 (nb h)
  have hl:∀x:Nat,(x:Int)<s.holes.length->(aC s.holes x).length<=1000:=fun x h=>hp.2.2 _ (Geo.eM (by omega))
  have hn:=hp.2.1;have ho:=hp.1;have e1:∀x:Nat,x<=s.holes.length->(List.map Geo.dJ (List.take x s.holes)).length=x:=fun x h=>by rw[List.length_map,List.length_take];omega
  have e2:∀x:Nat,(x:Int)<s.holes.length->List.map Geo.dJ (List.take x s.holes)++[Geo.dJ (aC s.holes x)] =List.map Geo.dJ (List.take (x+1) s.holes):=fun x h=>by
   rw[List.take_succ_eq_append_getElem (by omega),List.map_append,gQ (by omega)];rfl
  have e3:∀x:Nat,¬(x:Int)<s.holes.length->List.take x s.holes=s.holes:=fun x h=>List.take_of_length_le (by omega)
  have g1:(!Geo.aR s)=false->∀x:Nat,¬(x:Int)<s.holes.length->∀r∈List.map Geo.dJ (List.take x s.holes),0<r.length/\r.length<=1000:=fun h x hx r hr=>by
   rw[e3 x hx,uF (V h)]at hr;obtain⟨q,hq,rfl⟩:=List.mem_map.1 hr;rw[Geo.fM];have h3:=((V h).ring (show q∈Geo.aA s by simp[Geo.aA,hq])).three
   have:=hp.2.2 q hq;omega
  have g2:(!Geo.aR s)=false->∀x:Nat,¬(x:Int)<s.holes.length->∀a∈List.map Geo.dJ (List.take x s.holes),∀b∈List.map Geo.dJ (List.take x s.holes),Geo.leH a b->Geo.leH b a->a=b:=fun h x hx=>by
   rw[e3 x hx,uF (V h)];exact Tg (V h)
  have g3:∀l,(r68 (l,false)).length=l.length:=fun l=>(Geo.kF l).length_eq
  have g4:(!Geo.aR s)=false->Geo.dJ s.outer=(aH s).outer:=fun h=>by
   rw[c1 h];unfold Geo.dJ;rw[(Geo.eZ _).2 ((V h).ring (by simp[Geo.aA]))];rfl
  have g5:(!Geo.aR s)=false->∀x:Nat,¬(x:Int)<s.holes.length->r68 (List.map Geo.dJ (List.take x s.holes),false)=(aH s).holes:=fun h x hx=>by
   rw[e3 x hx,uF (V h),c1 h];rfl
  have hf:=hp;clear hp
  repeat' first|with_reducible apply And.intro|with_reducible intro
  all_goals first|assumption|rfl|omega|(unfold ix;omega)|(unfold aJ;omega)|(rw[c0 ‹_›];done)|exact hl _ ‹_› |exact e2 _ ‹_› |exact(e1 _ ‹_›).symm|(rw[e1 _ ‹_›];simp;omega)|(rw[e1 _ ‹_›];omega)|(rw[List.length_append,e1 _ ‹_›];simp;done)|exact(g1 ‹_› _ ‹_› _ ‹_›).1|exact(g1 ‹_› _ ‹_› _ ‹_›).2|exact g2 ‹_› _ ‹_› _ ‹_› _ ‹_› ‹_› ‹_› |(rw[g3,e1 _ ‹_›];done)|exact g4 ‹_› |exact g5 ‹_› _ ‹_›)
def t57:Tab:=cC [(57,c57)] t66
theorem aHw:t57.Ok Tryz.prog:=aK aHp ⟨k57,trivial⟩
def aJK:Con:=con (a1 aS) (fun s=>[bd 1000000000 s.a,bd 1000000000 s.b]) (fun s=>aT.enc (Geo.fB s))
theorem aL4:aJK.Ok Tryz.prog 183:=aX (bK aHw) (raw:=bO) (fun s=>[jb 3 26 (decide ((s.a.x+s.b.x).tmod 2=0)&&decide ((s.a.y+s.b.y).tmod 2=0))]
  ) (fun _=>⟨_,rfl⟩) fun s hp=>bL (q:=aJ (s.a.x+s.b.x)/\aJ (s.a.y+s.b.y)/\((2:Int)≠0/\(Int.tmod (s.a.x+s.b.x) 2=0->(2:Int)≠0/\decide (Int.tmod (s.a.y+s.b.y) 2=0)=(decide (Int.tmod (s.a.x+s.b.x) 2=0)&&decide (Int.tmod (s.a.y+s.b.y) 2=0)))/\
  (¬Int.tmod (s.a.x+s.b.x) 2=0->false=(decide (Int.tmod (s.a.x+s.b.x) 2=0)&&decide (Int.tmod (s.a.y+s.b.y) 2=0))))/\
 (∀y:Unit,((decide (Int.tmod (s.a.x+s.b.x) 2=0)&&decide (Int.tmod (s.a.y+s.b.y) 2=0))=true->(2:Int)≠0/\aJ (Int.tdiv (s.a.x+s.b.x) 2)/\(2:Int)≠0/\aJ (Int.tdiv (s.a.y+s.b.y) 2)/\Int.tdiv (s.a.x+s.b.x) 2=(Geo.fB s).x/\Int.tdiv (s.a.y+s.b.y) 2=(Geo.fB s).y/\1=(Geo.fB s).den)/\
  ((decide (Int.tmod (s.a.x+s.b.x) 2=0)&&decide (Int.tmod (s.a.y+s.b.y) 2=0))=false->s.a.x+s.b.x=(Geo.fB s).x/\s.a.y+s.b.y=(Geo.fB s).y/\2=(Geo.fB s).den))) (by kernel_rfl) (by
  change bd 1000000000 s.a/\bd 1000000000 s.b at hp;unfold bd at hp;have k1:aJ (s.a.x+s.b.x):=cP (by omega)
  have k2:aJ (s.a.y+s.b.y):=cP (by omega)
  have q1:=lK (x:=s.a.x+s.b.x) (g:=2) (B:=4000000000) (by omega)
  have q2:=lK (x:=s.a.y+s.b.y) (g:=2) (B:=4000000000) (by omega)
  have k3:aJ (Int.tdiv (s.a.x+s.b.x) 2):=cP (by omega)
  have k4:aJ (Int.tdiv (s.a.y+s.b.y) 2):=cP (by omega)
  have m1:(decide (Int.tmod (s.a.x+s.b.x) 2=0)&&decide (Int.tmod (s.a.y+s.b.y) 2=0))=true->Geo.fB s=⟨(s.a.x+s.b.x).tdiv 2,(s.a.y+s.b.y).tdiv 2,1⟩:=fun h=>by
   simp only[Bool.and_eq_true,decide_eq_true_eq]at h;exact if_pos h
  have m2:(decide (Int.tmod (s.a.x+s.b.x) 2=0)&&decide (Int.tmod (s.a.y+s.b.y) 2=0))=false->Geo.fB s=⟨s.a.x+s.b.x,s.a.y+s.b.y,2⟩:=fun h=>if_neg fun h2=>by
   rw[decide_eq_true h2.1,decide_eq_true h2.2]at h;cases h
  clear hp q1 q2;refine⟨k1,k2,⟨by decide,fun h=>⟨by decide,by rw[decide_eq_true h];rfl⟩,fun h=>by rw[decide_eq_false h];rfl⟩,fun _=>⟨fun h=>⟨by decide,k3,by decide,k4,?_⟩,fun h=> ?_⟩⟩
  ·rw[m1 h];exact⟨rfl,rfl,rfl⟩
  ·rw[m2 h];exact⟨rfl,rfl,rfl⟩)
def aH6:Tab:=cC [(183,aJK)] t57
theorem aEm:aH6.Ok Tryz.prog:=aK aHw ⟨aL4,trivial⟩
def aKm:Con:=con (ac aS (a1 aS)) (fun(_,_)=>[]) (fun(s,t)=> .bool (Geo.cM s t)
 )
theorem aMG:aKm.Ok Tryz.prog 134:=aX (bK aEm) (raw:=bO) (fun(_,_)=>[]) (fun(_,_)=>⟨_,rfl⟩) fun(s,t) _=>bL (q:=(Geo.dQ s t=0->true=Geo.cM s t)/\
 (¬Geo.dQ s t=0->(Geo.dQ s t=1->(s.a=t.a->true=Geo.cM s t)/\
   (¬s.a=t.a->(s.a=t.b->true=Geo.cM s t)/\
    (¬s.a=t.b->(s.b=t.a->true=Geo.cM s t)/\
     (¬s.b=t.a->decide (s.b=t.b)=Geo.cM s t))))/\
  (¬Geo.dQ s t=1->false=Geo.cM s t))) (by kernel_rfl) (by
  have hd:∀a b:Geo.V,(a==b)=decide (a=b):=fun a b=>by rw[Bool.eq_iff_iff];simp
  unfold Geo.cM Geo.Cy;simp only[hd]
  repeat' first|with_reducible apply And.intro|with_reducible intro
  all_goals repeat with_reducible cases‹_/\_›
  all_goals simp[*])
def aIM:Tab:=cC [(134,aKm)] aH6
theorem aE2:aIM.Ok Tryz.prog:=aK aEm ⟨aMG,trivial⟩
def aPS:Ar Geo.S where
 enc s:= .pro [.int .i64 s.a.x,.int .i64 s.a.y,.int .i64 s.b.x,.int .i64 s.b.y] 0
 dec s:=match s with
  | .pro [.int .i64 x,.int .i64 y,.int .i64 z,.int .i64 w] 0=>some ⟨⟨x,y⟩,⟨z,w⟩⟩
  |_=>none
 ok s a h:=by(split at h<;>cases h;rfl)
 pl _:=⟨_,rfl⟩
def aFO:Ar (Geo.S×Unit):=aCl 133 (ac aPS a0)
def aKn:Con:=con (ac aS (a1 aPS)) (fun(_,_)=>[]) (fun(d,c)=> .bool (!Geo.cM c d)
 )
theorem aMH:aKn.Ok Tryz.prog 133:=aX (bK aE2) (raw:=bO) (fun(_,_)=>[]) (fun(_,_)=>⟨_,rfl⟩) fun(d,c) _=>bL (q:=(!Geo.cM c d)=(!Geo.cM c d)) (by kernel_rfl) (by
 rfl)
def aIN:Tab:=cC [(133,aKn)] aIM
theorem aE3:aIN.Ok Tryz.prog:=aK aE2 ⟨aMH,trivial⟩
def aJL:Con:=con (ac (aL .S) (a1 aFO)) (fun(l,_)=>[l.length<=1000000]) (fun(l,c)=> .int .i64 (fI (fun d=> !Geo.cM c.1 d) l))
theorem aL5:aJL.Ok Tryz.prog 182:=aX (bK aE3) (raw:=bO) (fun(l,c)=>[cnt 2 8 l.length (aU fun j=>(!Geo.cM c.1 (bB l j))=false)]
  ) (fun(_,_)=>⟨_,rfl⟩) fun(l,c) hp=>bL (q:=(0=(0:Int)/\(0:Nat)<=l.length/\aU (fun j=>(!Geo.cM c.1 (bB l j))=false) 0)/\
 (∀x:Nat,x<=l.length/\aU (fun j=>(!Geo.cM c.1 (bB l j))=false) x->((x:Int)<l.length->ix (x:Int) l.length/\((!Geo.cM c.1 (bB l x))=true->(x:Int)=fI (fun d=>(!Geo.cM c.1 d)) l)/\
   ((!Geo.cM c.1 (bB l x))=false->aJ ((x:Int)+1)/\(x:Int)+1=((x+1:Nat):Int)/\x+1<=l.length/\aU (fun j=>(!Geo.cM c.1 (bB l j))=false) (x+1)/\l.length-(x+1)<l.length-x))/\
  (¬(x:Int)<l.length-> -1=fI (fun d=>(!Geo.cM c.1 d)) l))) (by kernel_rfl) (by
  change l.length<=1000000 at hp
  repeat' first|with_reducible apply And.intro|with_reducible intro
  all_goals repeat with_reducible cases‹_/\_›
  all_goals first|assumption|rfl|exact trivial|exact nb ‹_› |exact nb' ‹_› |omega|exact cQ (by omega)|(unfold ix;omega)|(unfold aJ;omega)|exact bC _|exact aE ‹_› ‹_› |(refine aE ‹_› ?_;simp_all;done)|exact xJ (t:= .S) (by omega) ‹_› ‹_› |(obtain rfl:_=l.length:=Nat.le_antisymm ‹_› (by omega);exact wJ (t:= .S) ‹_›)|grind)
def aH7:Tab:=cC [(182,aJL)] aIN
theorem aEn:aH7.Ok Tryz.prog:=aK aE3 ⟨aL5,trivial⟩
def aKo:Con:=con (ac (aL .S) (a1 aFO)) (fun(l,_)=>[l.length<=1000000]) (fun(l,c)=> .bool (l.any fun d=> !Geo.cM c.1 d)
 )
theorem aMI:aKo.Ok Tryz.prog 132:=aX (bK aEn) (raw:=bO) (fun(_,_)=>[]) (fun(_,_)=>⟨_,rfl⟩) fun(l,c) hp=>bL (q:=l.length<=1000000/\decide (0<=fI (fun d=>(!Geo.cM c.1 d)) l)=List.any l (fun d=>(!Geo.cM c.1 d))) (by kernel_rfl) (by
 change l.length<=1000000 at hp;exact⟨hp,zA _ _⟩)
def aIO:Tab:=cC [(132,aKo)] aH7
theorem aE4:aIO.Ok Tryz.prog:=aK aEn ⟨aMI,trivial⟩
def aKl:Con:=con (ac aSh (ac (aL .S) (a1 aS))) (fun(s,l,c)=>[Fit s,l.length<=1000000,bd 1000000000 c.a,bd 1000000000 c.b]) (fun(s,l,c)=> .bool ((l.all fun e=>Geo.cM e c)&&Geo.dZ s (Geo.fB c)==2))
theorem aMF:aKl.Ok Tryz.prog 135:=aX (bK aE4) (raw:=bO) (fun(_,l,c)=>[cnt 2 11 l.length (aU fun j=>Geo.cM (bB l j) c=true)]
  ) (fun(_,_,_)=>⟨_,rfl⟩) fun(s,l,c) hp=>bL (q:=(0=(0:Int)/\(0:Nat)<=l.length/\aU (fun j=>Geo.cM (bB l j) c=true) 0)/\
 (∀x:Nat,x<=l.length/\aU (fun j=>Geo.cM (bB l j) c=true) x->((x:Int)<l.length->ix (x:Int) l.length/\((!Geo.cM (bB l x) c)=true->false=(List.all l (fun e=>Geo.cM e c)&&Geo.dZ s (Geo.fB c)==2))/\
   ((!Geo.cM (bB l x) c)=false->aJ ((x:Int)+1)/\(x:Int)+1=((x+1:Nat):Int)/\x+1<=l.length/\aU (fun j=>Geo.cM (bB l j) c=true) (x+1)/\l.length-(x+1)<l.length-x))/\
  (¬(x:Int)<l.length->bd 1000000000 c.a/\bd 1000000000 c.b/\Fit s/\decide (Geo.dZ s (Geo.fB c)=2)=(List.all l (fun e=>Geo.cM e c)&&Geo.dZ s (Geo.fB c)==2)))) (by kernel_rfl) (by
  change Fit s/\l.length<=1000000/\bd 1000000000 c.a/\bd 1000000000 c.b at hp;have n1:∀x:Nat,(x:Int)<l.length->(!Geo.cM (bB l x) c)=true->false=(List.all l (fun e=>Geo.cM e c)&&Geo.dZ s (Geo.fB c)==2):=fun x h1 h2=>by
   rw[Kh (t:= .S) (l:=l) (q:=fun e=>Geo.cM e c) (j:=x) (by omega) (nb' h2)];rfl
  have n2:∀x:Nat,¬(x:Int)<l.length->x<=l.length->aU (fun j=>Geo.cM (bB l j) c=true) x->decide (Geo.dZ s (Geo.fB c)=2)=(List.all l (fun e=>Geo.cM e c)&&Geo.dZ s (Geo.fB c)==2):=fun x h1 h2 h3=>by
   obtain rfl:x=l.length:=by omega
   rw[Ck (t:= .S) (l:=l) (q:=fun e=>Geo.cM e c) h3,Bool.true_and,Bool.eq_iff_iff];simp
  obtain⟨hf,hll,hb1,hb2⟩:=hp
  repeat' first|with_reducible apply And.intro|with_reducible intro
  all_goals repeat with_reducible cases‹_/\aU _ _›
  all_goals first|assumption|rfl|omega|(unfold ix;omega)|(unfold aJ;omega)|exact bC _|exact n1 _ ‹_› ‹_› |exact n2 _ ‹_› ‹_› ‹_› |exact aE ‹_› (nb ‹_›))
def aIL:Tab:=cC [(135,aKl)] aIO
theorem aE1:aIL.Ok Tryz.prog:=aK aE4 ⟨aMF,trivial⟩
def pK(s:Geo.Shape)(v:List Geo.V)(i k:Nat):List (Nat×Nat):=Geo.rowP s v (Geo.cU s v i) i (k-(i+1))
def tkB(s:Geo.Shape)(v:List Geo.V)(i k:Nat):Bool:= !((pK s v i k).any fun d=> !(Geo.cM ⟨nth v i,nth v k⟩ (Geo.eY v d)))&&Geo.oK s ⟨nth v i,nth v k⟩
section
variable {s:Geo.Shape} {v:List Geo.V} {i k:Nat}
theorem aDi:pK s v i (i+1)=Geo.cU s v i:=by unfold pK;rw[Nat.sub_self];rfl
theorem Vy(h:i<k):pK s v i (k+1)=if tkB s v i k=true then pK s v i k++[(i,k)]else pK s v i k:=by
 unfold tkB pK;rw[show k+1-(i+1)=(k-(i+1))+1 by omega]
 show Geo.Cp s v _ i (i+1+(k-(i+1)))=_;rw[show i+1+(k-(i+1))=k by omega];rfl
theorem aGK(h:¬(k:Int)<v.length)(h2:k<=v.length):pK s v i k=Geo.cU s v (i+1):=by
 obtain rfl:k=v.length:=by omega
 rfl
theorem Dq(acc:List (Nat×Nat)):∀m,(Geo.rowP s v acc i m).length<=acc.length+m
 |0=>Nat.le_refl _
 |m+1=>by
  have:=Dq acc m;unfold Geo.rowP Geo.Cp;split
  ·rw[List.length_append];simp only[List.length_cons,List.length_nil];omega
  ·omega
theorem pI:∀i,(Geo.cU s v i).length<=i*v.length
 |0=>by simp[Geo.cU]
 |i+1=>by
  have h1:=pI i;have h2:=Dq (s:=s) (v:=v) (i:=i) (Geo.cU s v i) (v.length-(i+1));unfold Geo.cU;rw[Nat.add_mul];omega
theorem aGJ(hv:v.length<=900)(hi:i<=v.length)(hk:k<=v.length):(pK s v i k).length<=820000:=by
 have h1:=pI (s:=s) (v:=v) i;have h2:=Dq (s:=s) (v:=v) (i:=i) (Geo.cU s v i) (k-(i+1));have h3:i*v.length<=900*900:=Nat.mul_le_mul (by omega) hv
 unfold pK;omega
end
def c60:Con:=con (ac aSh (a1 (aL .V))) (fun(s,v)=>[Fit s,v.length<=900,(∀x∈v,bd 1000000000 x),(aY s).length<=1000000]) (fun(s,v)=> .lst .P (Geo.dI s v))
set_option maxHeartbeats 1000000 in
theorem k60:c60.Ok Tryz.prog 60:=aX (bK aE1) (raw:=bO) (fun(s,v)=>[(5,.mk Nat (fun F _=>sQ F 16) [10,11] (fun i=>[i<=v.length]) (fun i=>[(16,.int .i64 (i:Int)),(6,.own 10 .P (Geo.cU s v i).length),(7,.own 11 .S (Geo.cU s v i).length)]) (fun i=>[(10,.row 67 .P (Geo.cU s v i)),(11,.row 46 .S ((Geo.cU s v i).map (Geo.eY v)))]) (fun i=>v.length-i) fun i=>
  [(8,.mk Nat (fun F _=>sQ F 9) [10,11] (fun k=>[i<k,k<=v.length]) (fun k=>[(9,.int .i64 (k:Int)),(6,.own 10 .P (pK s v i k).length),(7,.own 11 .S (pK s v i k).length)]) (fun k=>[(10,.row 67 .P (pK s v i k)),(11,.row 46 .S ((pK s v i k).map (Geo.eY v)))]) (fun k=>v.length-k) fun k=>[jb 13 46 (tkB s v i k)])])]
  ) (fun(_,_)=>⟨_,rfl⟩) fun(s,v) hp=>bL (q:=Fit s/\(0=(0:Int)/\(Geo.cU s v 0).length=0/\(Geo.cU s v 0).length=0/\Geo.cU s v 0=([] :List (Prod Nat Nat))/\List.map (Geo.eY v) (Geo.cU s v 0)=([] :List Geo.S)/\(0:Nat)<=v.length)/\
 (∀x:Nat,x<=v.length->((x:Int)<v.length->aJ ((x:Int)+1)/\((x:Int)+1=((x+1:Nat):Int)/\(Geo.cU s v x).length=(pK s v x (x+1)).length/\(Geo.cU s v x).length=(pK s v x (x+1)).length/\Geo.cU s v x=pK s v x (x+1)/\List.map (Geo.eY v) (Geo.cU s v x)=List.map (Geo.eY v) (pK s v x (x+1))/\x<x+1/\x+1<=v.length)/\
   (∀x_1:Nat,x<x_1/\x_1<=v.length->((x_1:Int)<v.length->ix (x:Int) v.length/\ix (x_1:Int) v.length/\(pK s v x x_1).length=(List.map (Geo.eY v) (pK s v x x_1)).length/\(List.map (Geo.eY v) (pK s v x x_1)).length<=1000000/\(((!List.any (List.map (Geo.eY v) (pK s v x x_1)) (fun d=>(!Geo.cM (⟨(nth v x),(nth v x_1)⟩:Geo.S) d)))=true->Fit s/\(aY s).length<=1000000/\bd 1000000000 (⟨(nth v x),(nth v x_1)⟩:Geo.S).a/\bd 1000000000 (⟨(nth v x),(nth v x_1)⟩:Geo.S).b/\(List.all (aY s) (fun e=>Geo.cM e (⟨(nth v x),(nth v x_1)⟩:Geo.S))&&Geo.dZ s (Geo.fB (⟨(nth v x),(nth v x_1)⟩:Geo.S))==2)=tkB s v x x_1)/\
      ((!List.any (List.map (Geo.eY v) (pK s v x x_1)) (fun d=>(!Geo.cM (⟨(nth v x),(nth v x_1)⟩:Geo.S) d)))=false->false=tkB s v x x_1))/\
     (∀y:Unit,(tkB s v x x_1=true->(pK s v x x_1).length=(List.map (Geo.eY v) (pK s v x x_1)).length/\(List.map (Geo.eY v) (pK s v x x_1)).length+[(⟨(nth v x),(nth v x_1)⟩:Geo.S)].length<=1000000/\(pK s v x x_1).length=(pK s v x x_1).length/\(pK s v x x_1).length+[(x,x_1)].length<=1000000/\aJ ((x_1:Int)+1)/\(x_1:Int)+1=((x_1+1:Nat):Int)/\(pK s v x x_1++[(x,x_1)]).length=(pK s v x (x_1+1)).length/\(List.map (Geo.eY v) (pK s v x x_1)++[(⟨(nth v x),(nth v x_1)⟩:Geo.S)]).length=(pK s v x (x_1+1)).length/\pK s v x x_1++[(x,x_1)] =pK s v x (x_1+1)/\List.map (Geo.eY v) (pK s v x x_1)++[(⟨(nth v x),(nth v x_1)⟩:Geo.S)] =List.map (Geo.eY v) (pK s v x (x_1+1))/\x<x_1+1/\x_1+1<=v.length/\v.length-(x_1+1)<v.length-x_1)/\
      (tkB s v x x_1=false->aJ ((x_1:Int)+1)/\(x_1:Int)+1=((x_1+1:Nat):Int)/\(pK s v x x_1).length=(pK s v x (x_1+1)).length/\(pK s v x x_1).length=(pK s v x (x_1+1)).length/\pK s v x x_1=pK s v x (x_1+1)/\List.map (Geo.eY v) (pK s v x x_1)=List.map (Geo.eY v) (pK s v x (x_1+1))/\x<x_1+1/\x_1+1<=v.length/\v.length-(x_1+1)<v.length-x_1)))/\
    (¬(x_1:Int)<v.length->aJ ((x:Int)+1)/\(x:Int)+1=((x+1:Nat):Int)/\(pK s v x x_1).length=(Geo.cU s v (x+1)).length/\(pK s v x x_1).length=(Geo.cU s v (x+1)).length/\pK s v x x_1=Geo.cU s v (x+1)/\List.map (Geo.eY v) (pK s v x x_1)=List.map (Geo.eY v) (Geo.cU s v (x+1))/\x+1<=v.length/\v.length-(x+1)<v.length-x)))/\
  (¬(x:Int)<v.length->(Geo.cU s v x).length=(Geo.cU s v x).length/\Geo.cU s v x=Geo.dI s v))) (by kernel_rfl) (by
  change Fit s/\v.length<=900/\((∀x∈v,bd 1000000000 x))/\(aY s).length<=1000000 at hp;obtain⟨hf,hv,hb,he⟩:=hp;have hb:∀x:Nat,(x:Int)<v.length->bd 1000000000 (nth v x):=fun x h=>hb _ (Geo.dV (by omega))
  have hL:∀i k:Nat,(i:Int)<v.length->k<=v.length->(pK s v i k).length<=820000:=fun i k h1 h2=>aGJ hv (by omega) h2
  have z:=fun i=> @aDi s v i
  have sY:∀i k:Nat,i<k->tkB s v i k=true->pK s v i k++[(i,k)] =pK s v i (k+1):=fun i k h h2=>by rw[Vy h,if_pos h2]
  have sN:∀i k:Nat,i<k->tkB s v i k=false->pK s v i k=pK s v i (k+1):=fun i k h h2=>by rw[Vy h,if_neg (by rw[h2];simp)]
  have sM:∀i k:Nat,i<k->tkB s v i k=true->(pK s v i k).map (Geo.eY v)++[⟨nth v i,nth v k⟩] =(pK s v i (k+1)).map (Geo.eY v):=fun i k h h2=>by rw[<-sY i k h h2,List.map_append];rfl
  have pE:=fun(i k:Nat) (h:¬(k:Int)<v.length) (h2:k<=v.length)=> @aGK s v i k h h2
  have uE:∀i:Nat,¬(i:Int)<v.length->i<=v.length->Geo.cU s v i=Geo.dI s v:=fun i h1 h2=>by rw[show i=v.length by omega];rfl
  have tA:∀i k:Nat,(List.map (Geo.eY v) (pK s v i k)).any (fun d=> !Geo.cM ⟨nth v i,nth v k⟩ d)=(pK s v i k).any (fun d=> !Geo.cM ⟨nth v i,nth v k⟩ (Geo.eY v d)):=fun i k=>by rw[List.any_map];rfl
  have tY:∀i k:Nat,(!(List.map (Geo.eY v) (pK s v i k)).any (fun d=> !Geo.cM ⟨nth v i,nth v k⟩ d))=true->((aY s).all (fun e=>Geo.cM e ⟨nth v i,nth v k⟩)&&Geo.dZ s (Geo.fB ⟨nth v i,nth v k⟩)==2)=tkB s v i k:=fun i k h=>by
   unfold tkB;rw[<-tA,h];rfl
  have tN:∀i k:Nat,(!(List.map (Geo.eY v) (pK s v i k)).any (fun d=> !Geo.cM ⟨nth v i,nth v k⟩ d))=false->false=tkB s v i k:=fun i k h=>by
   unfold tkB;rw[<-tA,h];rfl
  repeat' first|with_reducible apply And.intro|with_reducible intro
  all_goals repeat with_reducible cases‹_<_/\_›
  all_goals first|assumption|rfl|omega|(unfold ix;omega)|(unfold aJ;omega)|exact hb _ ‹_› |exact tY _ _ ‹_› |exact tN _ _ ‹_› |(rw[z];done)|(rw[List.length_map];done)|(rw[List.length_map];exact Nat.le_trans (hL _ _ ‹_› ‹_›) (by decide))|(rw[List.length_map];exact Nat.le_trans (Nat.add_le_add_right (hL _ _ ‹_› ‹_›) 1) (by decide))|exact Nat.le_trans (Nat.add_le_add_right (hL _ _ ‹_› ‹_›) 1) (by decide)|exact sY _ _ ‹_› ‹_› |exact sM _ _ ‹_› ‹_› |exact sN _ _ ‹_› ‹_› |exact congrArg List.length (sN _ _ ‹_› ‹_›)|exact congrArg (List.map (Geo.eY v)) (sN _ _ ‹_› ‹_›)|exact congrArg List.length (sY _ _ ‹_› ‹_›)|(rw[sM _ _ ‹_› ‹_›,List.length_map];done)|exact pE _ _ ‹_› ‹_› |exact congrArg List.length (pE _ _ ‹_› ‹_›)|exact congrArg (List.map (Geo.eY v)) (pE _ _ ‹_› ‹_›)|exact uE _ ‹_› ‹_›)
def t60:Tab:=cC [(60,c60)] aIL
theorem aHt:t60.Ok Tryz.prog:=aK aE1 ⟨k60,trivial⟩
end
end Go.Proofs.YtdaeofhdgabhjaaGreat
namespace Go.Proofs.YtdaeofhdgabhjaaGreat
open Go.RowKit
set_option maxRecDepth 100000
noncomputable section
open Geo (aY nth aC)
theorem Dp{s:Geo.Shape}{v:List Geo.V}{acc:List (Nat×Nat)}{i:Nat}:∀{m:Nat} {p:Nat×Nat},p∈Geo.rowP s v acc i m->p∈acc\/(p.1=i/\i<p.2/\p.2<i+1+m)
 |0,p,h=> .inl h
 |m+1,p,h=>by
  unfold Geo.rowP Geo.Cp at h;split at h
  ·rcases List.mem_append.1 h with h|h
   ·rcases Dp h with h|⟨h1,h2,h3⟩
    ·exact .inl h
    ·exact .inr ⟨h1,h2,by omega⟩
   ·simp at h;subst h;exact .inr ⟨rfl,by show i<i+1+m;omega,by show i+1+m<_;omega⟩
  ·rcases Dp h with h|⟨h1,h2,h3⟩
   ·exact .inl h
   ·exact .inr ⟨h1,h2,by omega⟩
theorem Ay{s:Geo.Shape}{v:List Geo.V}:∀{i:Nat} {p:Nat×Nat},i<=v.length->p∈Geo.cU s v i->p.1<p.2/\p.2<v.length
 |0,p,_,h=>by simp[Geo.cU]at h
 |i+1,p,hi,h=>by
  unfold Geo.cU at h;rcases Dp h with h|⟨h1,h2,h3⟩
  ·exact Ay (by omega) h
  ·omega
theorem Ez{s:Geo.Shape}{v:List Geo.V}{p:Nat×Nat}(h:p∈Geo.dI s v):p.1<p.2/\p.2<v.length:=Ay (Nat.le_refl _) h
theorem Qj(r:Geo.aM):(Geo.aD r).length<=r.length:=by
 unfold Geo.aD;split<;>simp
theorem qQ:∀l:List Geo.aM,(l.flatMap Geo.aD).length<=(l.map List.length).sum
 |[] =>by simp
 |r::l=>by
  have:=qQ l;have:=Qj r;rw[List.flatMap_cons,List.length_append,List.map_cons,List.sum_cons];omega
theorem tQ{s:Geo.Shape}(h:Geo.VS s):(aY s).length<=80:=by
 have h1:=qQ (Geo.aA s);have h2:=h.corners;unfold Geo.eN at h2;unfold aY;omega
theorem Ue{s:Geo.Shape}(h:Geo.VS s){r:Geo.aM}(hr:r∈(Geo.cY s).holes):3<=r.length/\r.length<=40:=by
 unfold Geo.cY at hr;have hr:=(Geo.kF _).subset hr;obtain⟨q,hq,rfl⟩:=List.mem_map.1 hr;have hv:=h.ring (r:=q) (by unfold Geo.aA;exact List.mem_cons_of_mem _ hq)
 rw[Geo.fM];exact⟨hv.three,hv.most⟩
theorem vJ{s:Geo.Shape}(V:Geo.VS s):0<(Geo.cY s).outer.length/\∀r∈(Geo.cY s).holes,0<r.length:=
 ⟨by have h:=V.outer.three;show 0<(Geo.dH s.outer).length;rw[Geo.fM];omega,fun r hr=>by have:=Ue V hr;omega⟩
def c17:Con:=con (a1 aSh) (fun s=>[Fit s]) (fun s=> .tup [.lst .V (vOf s),.int .i64 (eOf s)])
theorem k17:c17.Ok Tryz.prog 17:=aX (bK aHt) (raw:=bO) (fun s=>[(5,.mk Nat (fun F _=>sQ F 14) [12] (fun k=>[k<=(Geo.aA (aH s)).length]) (fun k=>[(14,.int .i64 (k:Int)),(4,.own 12 .V ((Geo.aA (aH s)).take k).flatten.length)]) (fun k=>[(12,.row 44 .V ((Geo.aA (aH s)).take k).flatten)]) (fun k=>(Geo.aA (aH s)).length-k) (fun _=>[]))]
  ) (fun _=>⟨_,rfl⟩) fun s hp=>bL (q:=Fit s/\((!Geo.aR s)=true->vOf s=([] :List Geo.V)/\11=eOf s)/\
 ((!Geo.aR s)=false->Fit s/\Fit (aH s)/\(0:Nat)<(aH s).outer.length/\(∀r:Geo.aM,r∈(aH s).holes->(0:Nat)<r.length)/\(0=(0:Int)/\(List.flatten (List.take 0 (Geo.aA (aH s)))).length=0/\List.flatten (List.take 0 (Geo.aA (aH s)))=([] :List Geo.V)/\(0:Nat)<=(Geo.aA (aH s)).length)/\
  (∀x:Nat,x<=(Geo.aA (aH s)).length->((x:Int)<(Geo.aA (aH s)).length->ix (x:Int) (Geo.aA (aH s)).length/\(List.flatten (List.take x (Geo.aA (aH s)))).length=(List.flatten (List.take x (Geo.aA (aH s)))).length/\(List.flatten (List.take x (Geo.aA (aH s)))).length+(aC (Geo.aA (aH s)) x).length<=1000000/\aJ ((x:Int)+1)/\(x:Int)+1=((x+1:Nat):Int)/\(List.flatten (List.take x (Geo.aA (aH s)))++aC (Geo.aA (aH s)) x).length=(List.flatten (List.take (x+1) (Geo.aA (aH s)))).length/\List.flatten (List.take x (Geo.aA (aH s)))++aC (Geo.aA (aH s)) x=List.flatten (List.take (x+1) (Geo.aA (aH s)))/\x+1<=(Geo.aA (aH s)).length/\(Geo.aA (aH s)).length-(x+1)<(Geo.aA (aH s)).length-x)/\
   (¬(x:Int)<(Geo.aA (aH s)).length->(List.flatten (List.take x (Geo.aA (aH s)))).length=(List.flatten (List.take x (Geo.aA (aH s)))).length/\List.flatten (List.take x (Geo.aA (aH s)))=vOf s/\0=eOf s)))) (by kernel_rfl) (by
  change Fit s at hp;have hq:=Geo.iG s;have v0:(!Geo.aR s)=true->vOf s=[] :=fun h=>by unfold vOf;rw[<-hq,nb' h];rfl
  have v1:(!Geo.aR s)=true->11=eOf s:=fun h=>by unfold eOf;rw[<-hq,nb' h];rfl
  have v2:(!Geo.aR s)=false->0=eOf s:=fun h=>by unfold eOf;rw[<-hq,nb h];rfl
  have c1:(!Geo.aR s)=false->aH s=Geo.cY s:=fun h=>by unfold aH;rw[nb h];rfl
  have V:(!Geo.aR s)=false->Geo.VS s:=fun h=>(Geo.iZ s).1 (nb h)
  have f1:(!Geo.aR s)=false->Fit (aH s):=fun h=>by rw[c1 h];exact Ad hp
  have f2:(!Geo.aR s)=false->0<(aH s).outer.length:=fun h=>by rw[c1 h];exact(vJ (V h)).1
  have f3:(!Geo.aR s)=false->∀r∈(aH s).holes,0<r.length:=fun h=>by rw[c1 h];exact(vJ (V h)).2
  have f4:(!Geo.aR s)=false->(Geo.aA (aH s)).flatten.length<=80:=fun h=>by rw[c1 h];exact Na (V h)
  have f5:(!Geo.aR s)=false->(Geo.aA (aH s)).flatten=vOf s:=fun h=>by rw[c1 h];unfold vOf;rw[<-hq,nb h];rfl
  have f6:(!Geo.aR s)=false->(Geo.aA (aH s)).length<=1000:=fun h=>by have:=(f1 h).2.1;unfold Geo.aA;rw[List.length_cons];omega
  generalize Geo.aA (aH s)=L at f4 f5 f6|-;have e1:∀x:Nat,(x:Int)<L.length->(L.take x).flatten++aC L x=(L.take (x+1)).flatten:=fun x h=>by
   rw[List.take_succ_eq_append_getElem (by omega),List.flatten_append,List.flatten_singleton,gQ (by omega)]
  have e2:∀x:Nat,(L.take x).flatten.length<=L.flatten.length:=fun x=>by
   conv=>rhs;rw[<-List.take_append_drop x L,List.flatten_append,List.length_append]
   omega
  have e4:(!Geo.aR s)=false->∀x:Nat,(x:Int)<L.length->(L.take x).flatten.length+(aC L x).length<=1000000:=fun h x hx=>by
   have h1:=e2 (x+1);rw[<-e1 x hx,List.length_append]at h1;have:=f4 h;omega
  have e5:(!Geo.aR s)=false->∀x:Nat,¬(x:Int)<L.length->(L.take x).flatten=vOf s:=fun h x hx=>by rw[List.take_of_length_le (by omega),f5 h]
  have e6:(!Geo.aR s)=false->∀x:Nat,x<=L.length->aJ ((x:Int)+1):=fun h x hx=>cP (by have:=f6 h;omega)
  clear e2 c1 V
  repeat' first|with_reducible apply And.intro|with_reducible intro
  all_goals first|assumption|rfl|omega|exact v0 ‹_› |exact v1 ‹_› |exact v2 ‹_› |exact f1 ‹_› |exact f2 ‹_› |exact f3 ‹_› _ ‹_› |(unfold ix;omega)|exact e4 ‹_› _ ‹_› |exact e6 ‹_› _ ‹_› |exact e1 _ ‹_› |exact congrArg List.length (e1 _ ‹_›)|exact e5 ‹_› _ ‹_›)
def t17:Tab:=cC [(17,c17)] t60
theorem aIa:t17.Ok Tryz.prog:=aK aHt ⟨k17,trivial⟩
def c19:Con:=con (a1 aSh) (fun s=>[Fit s]) (fun s=> .tup [.lst .S (dOf s),.int .i64 (eOf s)])
theorem k19:c19.Ok Tryz.prog 19:=aX (bK aIa) (raw:=bO) (fun s=>[(6,.mk Nat (fun F _=>sQ F 21) [16] (fun k=>[k<=(Geo.dI s (vOf s)).length]) (fun k=>[(21,.int .i64 (k:Int)),(6,.own 16 .S k)]) (fun k=>[(16,.row 46 .S (((Geo.dI s (vOf s)).map (Geo.eY (vOf s))).take k))]) (fun k=>(Geo.dI s (vOf s)).length-k) (fun _=>[]))]
  ) (fun _=>⟨_,rfl⟩) fun s hp=>bL (q:=Fit s/\(¬eOf s=0->dOf s=([] :List Geo.S)/\eOf s=eOf s)/\
 (¬(¬eOf s=0)->Fit s/\(vOf s).length<=900/\(∀x:Geo.V,x∈vOf s->bd 1000000000 x)/\(aY s).length<=1000000/\(0=(0:Int)/\(0:Nat)=0/\List.take 0 (List.map (Geo.eY (vOf s)) (Geo.dI s (vOf s)))=([] :List Geo.S)/\(0:Nat)<=(Geo.dI s (vOf s)).length)/\
  (∀x:Nat,x<=(Geo.dI s (vOf s)).length->((x:Int)<(Geo.dI s (vOf s)).length->ix (x:Int) (Geo.dI s (vOf s)).length/\ix 0 2/\ix ((bF (Geo.dI s (vOf s)) x).1:Int) (vOf s).length/\ix 1 2/\ix ((bF (Geo.dI s (vOf s)) x).2:Int) (vOf s).length/\x=(List.take x (List.map (Geo.eY (vOf s)) (Geo.dI s (vOf s)))).length/\(List.take x (List.map (Geo.eY (vOf s)) (Geo.dI s (vOf s)))).length+[(⟨(nth (vOf s) (bF (Geo.dI s (vOf s)) x).1),(nth (vOf s) (bF (Geo.dI s (vOf s)) x).2)⟩:Geo.S)].length<=1000000/\aJ ((x:Int)+1)/\(x:Int)+1=((x+1:Nat):Int)/\(List.take x (List.map (Geo.eY (vOf s)) (Geo.dI s (vOf s)))++[(⟨(nth (vOf s) (bF (Geo.dI s (vOf s)) x).1),(nth (vOf s) (bF (Geo.dI s (vOf s)) x).2)⟩:Geo.S)]).length=x+1/\List.take x (List.map (Geo.eY (vOf s)) (Geo.dI s (vOf s)))++[(⟨(nth (vOf s) (bF (Geo.dI s (vOf s)) x).1),(nth (vOf s) (bF (Geo.dI s (vOf s)) x).2)⟩:Geo.S)] =List.take (x+1) (List.map (Geo.eY (vOf s)) (Geo.dI s (vOf s)))/\x+1<=(Geo.dI s (vOf s)).length/\(Geo.dI s (vOf s)).length-(x+1)<(Geo.dI s (vOf s)).length-x)/\
   (¬(x:Int)<(Geo.dI s (vOf s)).length->x=(List.take x (List.map (Geo.eY (vOf s)) (Geo.dI s (vOf s)))).length/\List.take x (List.map (Geo.eY (vOf s)) (Geo.dI s (vOf s)))=dOf s/\0=eOf s)))) (by kernel_rfl) (by
  change Fit s at hp;have hq:=Geo.iG s;have d0:¬eOf s=0->dOf s=[] :=fun h=>(aGY h).1
  have R:¬¬eOf s=0->Geo.bP s=true:=fun h=>Lg h
  have V:¬¬eOf s=0->Geo.VS s:=fun h=>vsR (R h)
  have hvl:=wF s;have hvb:∀x∈vOf s,bd 1000000000 x:=fun x hx=>by
   obtain⟨i,hi,rfl⟩:=Geo.fJ.1 hx;exact Jq hi (by decide)
  have he:¬¬eOf s=0->(aY s).length<=1000000:=fun h=>by have:=tQ (V h);omega
  have dE:¬¬eOf s=0->(Geo.dI s (vOf s)).map (Geo.eY (vOf s))=dOf s:=fun h=>by
   rw[Wq (R h)];rw[Kk (R h)];exact(Geo.Wp (V h) (fun x hx=>(Geo.kT s).subset hx) ((Geo.kT s).nodup_iff.2 (V h).nodup)).1
  have pL:(Geo.dI s (vOf s)).length<=6400:=by
   have:=pI (s:=s) (v:=vOf s) (vOf s).length;have h2:(vOf s).length*(vOf s).length<=80*80:=Nat.mul_le_mul hvl hvl;unfold Geo.dI;omega
  have pM:∀p∈Geo.dI s (vOf s),p.1<p.2/\p.2<(vOf s).length:=fun p hp=>Ez hp
  generalize Geo.dI s (vOf s)=P at dE pL pM|-;have pA:∀x:Nat,(x:Int)<P.length->(bF P x).1<(vOf s).length/\(bF P x).2<(vOf s).length:=fun x h=>by
   have h2:bF P x∈P:=by rw[uM (by omega)];exact List.getElem_mem _
   have:=pM _ h2;omega
  have p1:∀x:Nat,(x:Int)<P.length->ix ((bF P x).1:Int) (vOf s).length:=fun x h=>eE (pA x h).1
  have p2:∀x:Nat,(x:Int)<P.length->ix ((bF P x).2:Int) (vOf s).length:=fun x h=>eE (pA x h).2
  have e1:∀x:Nat,x<=P.length->(List.take x (P.map (Geo.eY (vOf s)))).length=x:=fun x h=>by rw[List.length_take,List.length_map];omega
  have e2:∀x:Nat,(x:Int)<P.length->List.take x (P.map (Geo.eY (vOf s)))++[⟨nth (vOf s) (bF P x).1,nth (vOf s) (bF P x).2⟩] =List.take (x+1) (P.map (Geo.eY (vOf s))):=fun x h=>by
   rw[List.take_succ_eq_append_getElem (by rw[List.length_map];omega),List.getElem_map,uM (by omega)];rfl
  have e3:¬¬eOf s=0->∀x:Nat,¬(x:Int)<P.length->List.take x (P.map (Geo.eY (vOf s)))=dOf s:=fun h x hx=>by rw[List.take_of_length_le (by rw[List.length_map];omega),dE h]
  clear pM dE pA hq
  repeat' first|with_reducible apply And.intro|with_reducible intro
  all_goals first|assumption|rfl|omega|exact d0 ‹_› |exact he ‹_› |exact hvb _ ‹_› |(unfold ix;omega)|(unfold aJ;omega)|exact p1 _ ‹_› |exact p2 _ ‹_› |exact(e1 _ ‹_›).symm|(rw[e1 _ ‹_›];simp;omega)|(rw[List.length_append,e1 _ ‹_›];simp;done)|exact e2 _ ‹_› |exact e3 ‹_› _ ‹_› |exact(Decidable.of_not_not ‹¬¬eOf s=0›).symm)
def t19:Tab:=cC [(19,c19)] t17
theorem aLA:t19.Ok Tryz.prog:=aK aIa ⟨k19,trivial⟩
def t67:Tab:=t19
theorem aLq:t67.Ok Tryz.prog:=aLA
def t64:Tab:=t67
theorem aLr:t64.Ok Tryz.prog:=aLq
def t62:Tab:=t64
theorem aHs:t62.Ok Tryz.prog:=aLr
end
end Go.Proofs.YtdaeofhdgabhjaaGreat
namespace Go.Proofs.YtdaeofhdgabhjaaGreat
open Go.RowKit
set_option maxRecDepth 100000
noncomputable section
open Geo (nth)
def aGj:Con:=con (ac (aL .V) (a1 aV)) (fun(l,_)=>[l.length<=1000000]) (fun(l,v)=> .int .i64 (fI (fun u=>decide (v=u)) l))
theorem aJh:aGj.Ok Tryz.prog 150:=aX (bK aHs) (raw:=bO) (fun(l,v)=>[cnt 2 8 l.length (aU fun j=>decide (v=nth l j)=false)]
  ) (fun(_,_)=>⟨_,rfl⟩) fun(l,v) hp=>bL (q:=(0=(0:Int)/\(0:Nat)<=l.length/\aU (fun j=>decide (v=nth l j)=false) 0)/\
 (∀x:Nat,x<=l.length/\aU (fun j=>decide (v=nth l j)=false) x->((x:Int)<l.length->ix (x:Int) l.length/\(v=(nth l x)->(x:Int)=fI (fun u=>decide (v=u)) l)/\
   (¬v=(nth l x)->aJ ((x:Int)+1)/\(x:Int)+1=((x+1:Nat):Int)/\x+1<=l.length/\aU (fun j=>decide (v=nth l j)=false) (x+1)/\l.length-(x+1)<l.length-x))/\
  (¬(x:Int)<l.length-> -1=fI (fun u=>decide (v=u)) l))) (by kernel_rfl) (by
  change l.length<=1000000 at hp
  repeat' first|with_reducible apply And.intro|with_reducible intro
  all_goals repeat with_reducible cases‹_/\_›
  all_goals first|assumption|rfl|exact trivial|exact nb ‹_› |exact nb' ‹_› |omega|exact cQ (by omega)|(unfold ix;omega)|(unfold aJ;omega)|exact bC _|exact aE ‹_› ‹_› |(refine aE ‹_› ?_;simp_all;done)|exact xJ (t:= .V) (by omega) (decide_eq_true ‹_›) ‹_› |(obtain rfl:_=l.length:=Nat.le_antisymm ‹_› (by omega);exact wJ (t:= .V) ‹_›)|grind)
def aIz:Tab:=cC [(150,aGj)] t62
theorem aEO:aIz.Ok Tryz.prog:=aK aHs ⟨aJh,trivial⟩
def kN(v:Geo.V):Int:=if 0<v.y\/(v.y=0/\0<v.x)then 0 else 1
def aG:Ar (List Geo.V) where
 enc v:= .pro [.pro [.lst .V v,.junk,.junk] 0] 0
 dec s:=match s with
  | .pro [.pro [r,.junk,.junk] 0] 0=>Gn .V r
  |_=>none
 ok s a h:=by
  split at h
  ·have e1:=pC h;simp only[SV.av,avs,e1]
  ·cases h
 pl _:=⟨_,rfl⟩
def aQ:Ar Nat where
 enc n:= .pro [.int .i64 (n:Int)] 0
 dec s:=match s with
  | .pro [.int .i64 (.ofNat n)] 0=>some n
  |_=>none
 ok s a h:=by
  split at h<;>cases h;rfl
 pl _:=⟨_,rfl⟩
def Cm(v:List Geo.V)(p x y:Nat):Int:=
 let a:=Geo.sub (nth v x) (nth v p)
 let b:=Geo.sub (nth v y) (nth v p)
 if kN a-kN b=0 then-Geo.cT ⟨0,0⟩ a b else kN a-kN b
def aJp:Con:=con (a1 aV) (fun _=>[]) (fun v=> .int .i64 (kN v)
 )
theorem aLK:aJp.Ok Tryz.prog 223:=aX (bK aEO) (raw:=bO) (fun _=>[]) (fun _=>⟨_,rfl⟩) fun v _=>bL (q:=(0<v.y->0=kN v)/\
 (¬0<v.y->(v.y=0->(0<v.x->0=kN v)/\
   (¬0<v.x->1=kN v))/\
  (¬v.y=0->1=kN v))) (by kernel_rfl) (by
  refine⟨fun h=>(if_pos (.inl h)).symm,fun h=>⟨fun h2=>⟨fun h3=>(if_pos (.inr ⟨h2,h3⟩)).symm,fun h3=>(if_neg ?_).symm⟩,fun h2=>(if_neg ?_).symm⟩⟩<;>omega)
def aHN:Tab:=cC [(223,aJp)] aIz
theorem aD4:aHN.Ok Tryz.prog:=aK aEO ⟨aLK,trivial⟩
theorem Oo(v:Geo.V):0<=kN v/\kN v<=1:=by unfold kN;split<;>omega
theorem aCV(a b c:Geo.V): -1<=Geo.cT a b c/\Geo.cT a b c<=1:=by unfold Geo.cT Geo.sgn;split<;>(try split)<;>omega
def aJq:Con:=con (ac aN (ac aN (ac aG (a1 aQ)))) (fun(x,y,v,p)=>[x<v.length,y<v.length,p<v.length,v.length<=1000000,(∀u∈v,bd 500000000 u)]) (fun(x,y,v,p)=> .int .i64 (Cm v p x y)
 )
theorem aJf:aJq.Ok Tryz.prog 222:=aX (bK aD4) (raw:=bO) (fun(_,_,_,_)=>[]) (fun(_,_,_,_)=>⟨_,rfl⟩) fun(x,y,v,p) hp=>bL (q:=ix (x:Int) v.length/\ix (p:Int) v.length/\bd 1000000000 (nth v x)/\bd 1000000000 (nth v p)/\ix (y:Int) v.length/\ix (p:Int) v.length/\bd 1000000000 (nth v y)/\bd 1000000000 (nth v p)/\aJ (kN (Geo.sub (nth v x) (nth v p))-kN (Geo.sub (nth v y) (nth v p)))/\(¬kN (Geo.sub (nth v x) (nth v p))-kN (Geo.sub (nth v y) (nth v p))=0->kN (Geo.sub (nth v x) (nth v p))-kN (Geo.sub (nth v y) (nth v p))=Cm v p x y)/\
 (¬(¬kN (Geo.sub (nth v x) (nth v p))-kN (Geo.sub (nth v y) (nth v p))=0)->bd 1000000000 (⟨0,0⟩:Geo.V)/\bd 1000000000 (Geo.sub (nth v x) (nth v p))/\bd 1000000000 (Geo.sub (nth v y) (nth v p))/\aJ (0-Geo.cT (⟨0,0⟩:Geo.V) (Geo.sub (nth v x) (nth v p)) (Geo.sub (nth v y) (nth v p)))/\0-Geo.cT (⟨0,0⟩:Geo.V) (Geo.sub (nth v x) (nth v p)) (Geo.sub (nth v y) (nth v p))=Cm v p x y)) (by kernel_rfl) (by
  change x<v.length/\y<v.length/\p<v.length/\v.length<=1000000/\((∀u∈v,bd 500000000 u))at hp;obtain⟨hx,hy,hq,hl,hb⟩:=hp;have hb:∀i:Nat,i<v.length->bd 500000000 (nth v i):=fun i h=>hb _ (Geo.dV h)
  have bx:=hb x hx;have by_:=hb y hy;have bp:=hb p hq;have e1:=Oo (Geo.sub (nth v x) (nth v p));have e2:=Oo (Geo.sub (nth v y) (nth v p));have e3:=aCV ⟨0,0⟩ (Geo.sub (nth v x) (nth v p)) (Geo.sub (nth v y) (nth v p));have sb:∀a b:Geo.V,bd 500000000 a->bd 500000000 b->bd 1000000000 (Geo.sub a b):=fun a b h1 h2=>by
   unfold bd Geo.sub at*;dsimp only;omega
  refine⟨eE hx,eE hq,bx.mono,bp.mono,eE hy,eE hq,by_.mono,bp.mono,cP (by omega),fun h=>(if_neg h).symm,fun h=>⟨by unfold bd;dsimp only;omega,sb _ _ bx bp,sb _ _ by_ bp,cP (by omega),?_⟩⟩
  rw[show Cm v p x y=_ from if_pos (Decidable.of_not_not h)]
  omega)
def aHO:Tab:=cC [(222,aJq)] aHN
theorem aKS:aHO.Ok Tryz.prog:=aK aD4 ⟨aJf,trivial⟩
end
end Go.Proofs.YtdaeofhdgabhjaaGreat
