/- What the statements about triangulations stand on: contracts of functions, plain laws. Part 5 of 6, no condition of its own. (K19 K22 M1 H6 H7 H8 I1 I2 I3 I4 I5 I6 I7 I8 I9 I10 H5 I11 I12 I13 I14 I15 I16 I17 I18 I19 I20 I21 I22) -/
import Derived.Test.YtdaeofhdgabhjaaGreatSD4
namespace Go.Proofs.YtdaeofhdgabhjaaGreat
open Go.RowKit
set_option maxRecDepth 100000
noncomputable section
open Geo (aD Shape dK aE nth aA cY cI bV aQ fT)
def arH(s:Shape)(k:Nat):Int:=Geo.area s.outer-((s.holes.take k).map Geo.area).sum
def sI(l:List Geo.V)(v:Geo.V)(k:Nat):Bool:=(l.take k).any fun u=>decide (u=v)
theorem Me{l:List Geo.V}{v:Geo.V}{k:Nat}(h:k<l.length):sI l v (k+1)=(sI l v k||decide (nth l k=v)):=by
 unfold sI;rw[List.take_succ_eq_append_getElem h,List.any_append,nth_eq h];simp
theorem Sq(l:List Geo.V)(v:Geo.V):sI l v l.length= !fgn l v:=by
 unfold sI fgn;rw[List.take_length,Bool.not_not]
 congr 1;funext u;exact decide_eq_decide.2 eq_comm
def ckR(s:Shape)(r:aD):Bool:=(decide (¬(r.length:Int)=3)||(!cI r|| !fT s r))
def tA:Tab:=cJ [(26,c26),(92,c92),(93,c93),(94,c94)] t15
theorem tAo:tA.Ok Tryz.prog:=aH aLm ⟨k26,k92,k93,k94,trivial⟩
def c95:Con:=con (a1 aSh) (fun s=>[Fit s]) (fun s=> .int .i64 (if aQ s=true then jD s else 0))
theorem k95:c95.Ok Tryz.prog 95:=aU (bL tAo) (raw:=bO) (fun s=>[lp 5 4 s.holes.length (fun _=>[]) [] (fun k=>[(3,.int .i64 (arH s k))]) (fun _=>[])]
  ) (fun _=>⟨_,rfl⟩) fun s hp=>bM (q:=Fit s/\((!aQ s)=true->0=(if aQ s=true then jD s else 0))/\
 ((!aQ s)=false->Geo.near s.outer=true/\s.outer.length<=100000/\(0=(0:Int)/\Geo.area s.outer=arH s 0/\(0:Nat)<=s.holes.length)/\
  (∀x:Nat,x<=s.holes.length->((x:Int)<s.holes.length->ix (x:Int) s.holes.length/\Geo.near (aA s.holes x)=true/\(aA s.holes x).length<=100000/\aG (arH s x-Geo.area (aA s.holes x))/\aG ((x:Int)+1)/\(x:Int)+1=((x+1:Nat):Int)/\arH s x-Geo.area (aA s.holes x)=arH s (x+1)/\x+1<=s.holes.length/\s.holes.length-(x+1)<s.holes.length-x)/\
   (¬(x:Int)<s.holes.length->arH s x=(if aQ s=true then jD s else 0))))) (by kernel_rfl) (by
  change Fit s at hp;have V:(!aQ s)=false->Geo.VS s:=fun h=>vsR (nb h)
  have e1:(!aQ s)=true->0=(if aQ s=true then jD s else 0):=fun h=>by rw[nb' h];rfl
  have eh:(!aQ s)=false->∀x:Nat,x<s.holes.length->Geo.VR (aA s.holes x):=fun h x hx=>(V h).hole x hx
  have n1:(!aQ s)=false->Geo.near s.outer=true/\s.outer.length<=100000:=fun h=>⟨(V h).outer.near,by have:=(V h).outer.most;omega⟩
  have n2:(!aQ s)=false->∀x:Nat,(x:Int)<s.holes.length->Geo.near (aA s.holes x)=true/\(aA s.holes x).length<=100000:=fun h x hx=>⟨(eh h x (by omega)).near,by have:=(eh h x (by omega)).most;omega⟩
  have z:Geo.area s.outer=arH s 0:=by unfold arH;simp
  have st:∀x:Nat,(x:Int)<s.holes.length->arH s x-Geo.area (aA s.holes x)=arH s (x+1):=fun x hx=>by
   unfold arH;rw[List.take_succ_eq_append_getElem (by omega),List.map_append,List.sum_append,gY (by omega)]
   simp only[List.map_cons,List.map_nil,List.sum_cons,List.sum_nil];omega
  have bd0:∀r:aD,Geo.VR r-> -8000000000<=Geo.area r/\Geo.area r<=8000000000:=fun r h=>xL ((Geo.cS r).2 h)
  have bS:(!aQ s)=false->∀x:Nat,x<=s.holes.length-> -(8000000000*((x:Int)+1))<=arH s x/\arH s x<=8000000000*((x:Int)+1):=fun h x=>by
   induction x with
   |zero=>intro _;rw[<-z];have:=bd0 _ (V h).outer;omega
   |succ x ih=>
    intro hx;have h1:=ih (by omega)
    have h2:=bd0 _ (eh h x (by omega))
    rw[<-st x (by omega)];omega
  have w:(!aQ s)=false->∀x:Nat,(x:Int)<s.holes.length->aG (arH s x-Geo.area (aA s.holes x)):=fun h x hx=>by
   have h1:=bS h x (by omega)
   have h2:=bd0 _ (eh h x (by omega))
   have:=(V h).few;exact dY (by omega)
  have wx:(!aQ s)=false->∀x:Nat,(x:Int)<s.holes.length->aG ((x:Int)+1):=fun h x hx=>dY (by have:=(V h).few;omega)
  have f:(!aQ s)=false->∀x:Nat,¬(x:Int)<s.holes.length->x<=s.holes.length->arH s x=(if aQ s=true then jD s else 0):=fun h x h1 h2=>by
   obtain rfl:x=s.holes.length:=by omega
   rw[nb h,if_pos rfl];unfold arH jD;rw[List.take_length]
  clear bS eh V
  repeat' first|with_reducible apply And.intro|with_reducible intro
  all_goals first|assumption|rfl|exact e1 ‹_› |exact(n1 ‹_›).1|exact(n1 ‹_›).2|exact(n2 ‹_› _ ‹_›).1|exact(n2 ‹_› _ ‹_›).2|exact st _ ‹_› |exact w ‹_› _ ‹_› |exact wx ‹_› _ ‹_› |exact f ‹_› _ ‹_› ‹_› |omega|(unfold ix;omega))
def t95:Tab:=cJ [(95,c95)] tA
theorem aKa:t95.Ok Tryz.prog:=aH tAo ⟨k95,trivial⟩
def c29:Con:=con (ac aSh (a1 (aL .R))) (fun(s,l)=>[Fit s,l.length<=1000,(∀r∈l,r.length<=1000)]) (fun(s,l)=> .bool (eM s l))
set_option maxHeartbeats 1000000 in
theorem k29:c29.Ok Tryz.prog 29:=aU (bL aKa) (raw:=bO) (fun(s,l)=>[lp 6 8 l.length (fun k=>[aW (ck s l) k]) [] (fun k=>[(7,.int .i64 (a2S l k))]) (fun _=>[]) fun k=>[jb 9 48 (ckR s (aA l k)),cnt 11 9 3 (aW fun j=>fgn (vOf s) (nth (aA l k) j)=false) fun j=>[lp 15 11 (vOf s).length (fun _=>[]) [] (fun n=>[(10,.bool (sI (vOf s) (nth (aA l k) j) n))]) (fun _=>[])],cnt 21 12 k (aW fun j=>dK (aA l k) (aA l j)=true)]]
  ) (fun(_,_)=>⟨_,rfl⟩) fun(s,l) hp=>bM (q:=Fit s/\(¬eOf s=0->false=eM s l)/\
 (¬(¬eOf s=0)->(0=(0:Int)/\0=a2S l 0/\(0:Nat)<=l.length/\aW (ck s l) 0)/\
  (∀x:Nat,x<=l.length/\aW (ck s l) x->((x:Int)<l.length->(ix (x:Int) l.length/\(¬((aA l x).length:Int)=3->true=ckR s (aA l x))/\
     (¬(¬((aA l x).length:Int)=3)->ix (x:Int) l.length/\(aA l x).length<=100000/\((!cI (aA l x))=true->true=ckR s (aA l x))/\
      ((!cI (aA l x))=false->ix (x:Int) l.length/\Fit s/\(3:Nat)<=(aA l x).length/\(aA l x).length<=1000/\(∀v:Geo.V,v∈aA l x->bd 10000 v)/\(aE s).length<=1000000/\(∀e:Geo.S,e∈aE s->bd 10000 e.a/\bd 10000 e.b)/\(!fT s (aA l x))=ckR s (aA l x))))/\
    (∀y:Unit,(ckR s (aA l x)=true->false=eM s l)/\
     (ckR s (aA l x)=false->(0=(0:Int)/\(0:Nat)<=3/\aW (fun j=>fgn (vOf s) (nth (aA l x) j)=false) 0)/\
      (∀x_1:Nat,x_1<=3/\aW (fun j=>fgn (vOf s) (nth (aA l x) j)=false) x_1->((x_1:Int)<3->(0=(0:Int)/\false=sI (vOf s) (nth (aA l x) x_1) 0/\(0:Nat)<=(vOf s).length)/\
        (∀x_2:Nat,x_2<=(vOf s).length->((x_2:Int)<(vOf s).length->(sI (vOf s) (nth (aA l x) x_1) x_2=true->aG ((x_2:Int)+1)/\(x_2:Int)+1=((x_2+1:Nat):Int)/\true=sI (vOf s) (nth (aA l x) x_1) (x_2+1)/\x_2+1<=(vOf s).length/\(vOf s).length-(x_2+1)<(vOf s).length-x_2)/\
          (sI (vOf s) (nth (aA l x) x_1) x_2=false->ix (x_2:Int) (vOf s).length/\ix (x:Int) l.length/\ix (x_1:Int) (aA l x).length/\aG ((x_2:Int)+1)/\(x_2:Int)+1=((x_2+1:Nat):Int)/\decide ((nth (vOf s) x_2)=(nth (aA l x) x_1))=sI (vOf s) (nth (aA l x) x_1) (x_2+1)/\x_2+1<=(vOf s).length/\(vOf s).length-(x_2+1)<(vOf s).length-x_2))/\
         (¬(x_2:Int)<(vOf s).length->((!sI (vOf s) (nth (aA l x) x_1) x_2)=true->false=eM s l)/\
          ((!sI (vOf s) (nth (aA l x) x_1) x_2)=false->aG ((x_1:Int)+1)/\(x_1:Int)+1=((x_1+1:Nat):Int)/\x_1+1<=3/\aW (fun j=>fgn (vOf s) (nth (aA l x) j)=false) (x_1+1)/\3-(x_1+1)<3-x_1))))/\
       (¬(x_1:Int)<3->(0=(0:Int)/\(0:Nat)<=x/\aW (fun j=>dK (aA l x) (aA l j)=true) 0)/\
        (∀x_2:Nat,x_2<=x/\aW (fun j=>dK (aA l x) (aA l j)=true) x_2->((x_2:Int)<x->ix (x:Int) l.length/\ix (x_2:Int) l.length/\(aA l x).length<=1000/\(aA l x_2).length<=1000/\(∀v:Geo.V,v∈aA l x->bd 1000000000 v)/\(∀v:Geo.V,v∈aA l x_2->bd 1000000000 v)/\((!dK (aA l x) (aA l x_2))=true->false=eM s l)/\
          ((!dK (aA l x) (aA l x_2))=false->aG ((x_2:Int)+1)/\(x_2:Int)+1=((x_2+1:Nat):Int)/\x_2+1<=x/\aW (fun j=>dK (aA l x) (aA l j)=true) (x_2+1)/\x-(x_2+1)<x-x_2))/\
         (¬(x_2:Int)<x->ix (x:Int) l.length/\(aA l x).length<=100000/\aG (a2S l x+(if cI (aA l x)=true then Geo.area (aA l x)else 0))/\aG ((x:Int)+1)/\(x:Int)+1=((x+1:Nat):Int)/\a2S l x+(if cI (aA l x)=true then Geo.area (aA l x)else 0)=a2S l (x+1)/\x+1<=l.length/\aW (ck s l) (x+1)/\l.length-(x+1)<l.length-x)))))))/\
   (¬(x:Int)<l.length->Fit s/\decide (a2S l x=(if aQ s=true then jD s else 0))=eM s l)))) (by kernel_rfl) (by
  change Fit s/\l.length<=1000/\((∀r∈l,r.length<=1000))at hp;obtain⟨hf,hl,hr⟩:=hp;have hr:∀x:Nat,(x:Int)<l.length->(aA l x).length<=1000:=fun x h=>hr _ (Geo.fD (by omega))
  have hr5:∀x:Nat,(x:Int)<l.length->(aA l x).length<=100000:=fun x h=>by have:=hr x h;omega
  have R:¬¬eOf s=0->aQ s=true:=fun h=>Ff h
  have hvP:¬¬eOf s=0->bV s=true:=fun h=>by rw[Geo.lW];exact R h
  have V:¬¬eOf s=0->Geo.VS s:=fun h=>vsR (R h)
  have hv:=Bt s;have he:¬¬eOf s=0->(aE s).length<=1000000:=fun h=>by have:=rO (V h);omega
  have hw:¬¬eOf s=0->∀e∈aE s,bd 10000 e.a/\bd 10000 e.b:=fun h e hm=>⟨pF (Gn (V h) e hm).1,pF (Gn (V h) e hm).2⟩
  have hw1:¬¬eOf s=0->∀e∈aE s,bd 10000 e.a:=fun h e hm=>(hw h e hm).1
  have hw2:¬¬eOf s=0->∀e∈aE s,bd 10000 e.b:=fun h e hm=>(hw h e hm).2
  have c0:¬eOf s=0->false=eM s l:=fun h=>by
   unfold eM;rw[Geo.lW];cases e:aQ s with
   |false=>rfl
   |true=>exact absurd (by unfold eOf;rw[e];rfl) h
  have a1:∀x:Nat,¬((aA l x).length:Int)=3->true=ckR s (aA l x):=fun x h=>by unfold ckR;rw[decide_eq_true h];rfl
  have a2':∀x:Nat,(!cI (aA l x))=true->true=ckR s (aA l x):=fun x h=>by unfold ckR;rw[h];simp
  have a4:∀x:Nat,¬¬((aA l x).length:Int)=3->(!cI (aA l x))=false->(!fT s (aA l x))=ckR s (aA l x):=fun x h1 h2=>by
   unfold ckR;rw[decide_eq_false h1,h2];rfl
  have kV:∀r:aD,ckR s r=false->Geo.bW r=true/\r.length=3/\fT s r=true:=fun r h=>by
   unfold ckR at h;rw[Geo.jY];cases e:cI r<;>cases e2:fT s r<;>rw[e,e2]at h<;>simp at h|- <;>omega
  have vB:∀r:aD,Geo.bW r=true->∀v∈r,bd 10000 v:=fun r h v hv=>pF (aCx ((Geo.cS r).1 h) hv)
  have vB4:∀x:Nat,(!cI (aA l x))=false->∀v∈aA l x,bd 10000 v:=fun x h=>vB _ (by rw[Geo.jY];exact nb h)
  have vB9:∀x:Nat,ckR s (aA l x)=false->∀v∈aA l x,bd 1000000000 v:=fun x h v hv=>(vB _ (kV _ h).1 v hv).mono
  have l3:∀x:Nat,ckR s (aA l x)=false->∀j:Nat,(j:Int)<3->ix (j:Int) (aA l x).length:=fun x h j hj=>by have:=(kV _ h).2.1;unfold ix;omega
  have l3':∀x:Nat,¬¬((aA l x).length:Int)=3->3<=(aA l x).length:=fun x h=>by omega
  have kA:¬¬eOf s=0->∀r:aD,ckA s r=(ckR s r||r.any (fgn (vOf s))):=fun h r=>by
   unfold ckA ckR;rw[Geo.jY];cases e3:decide (¬(r.length:Int)=3)with
   |true=>rfl
   |false=>
    cases e:cI r with
    |false=>rfl
    |true=>
     have h3:r.length=3:=by have:=of_decide_eq_false e3;omega
     rw[Geo.aAA (V h) (by rw[Geo.jY];exact e) h3]
     cases r.any (fgn (vOf s))<;>cases fT s r<;>rfl
  have kB:∀x:Nat,aW (ck s l) x->Geo.bW (aA l x)=true/\(aA l x).length=3->∀j,j<x->cY (aA l x) (aA l j)= !dK (aA l x) (aA l j):=fun x hu h j hj=>by
   have:=(hu j hj).1;unfold ckA at this;have g:Geo.bW (aA l j)=true/\(aA l j).length=3:=by
    cases e:Geo.bW (aA l j)<;>rw[e]at this<;>simp at this|-;omega
   exact Geo.Wo h.1 g.1 h.2 g.2
  have no:∀x:Nat,(x:Int)<l.length->(ckA s (aA l x)=true\/ckB l x=true)->false=eM s l:=fun x h h2=>by
   unfold eM;rw[show((List.range l.length).all fun i=> !ckA s (aA l i)&& !ckB l i)=false from List.all_eq_false.2 ⟨x,List.mem_range.2 (by omega),by
    rcases h2 with h2|h2
    ·rw[h2];simp
    ·rw[h2];simp⟩]
   simp
  have no1:¬¬eOf s=0->∀x:Nat,(x:Int)<l.length->ckR s (aA l x)=true->false=eM s l:=fun h x hx h1=>no x hx (.inl (by rw[kA h,h1];rfl))
  have no2:¬¬eOf s=0->∀x j k:Nat,(x:Int)<l.length->ckR s (aA l x)=false->(j:Int)<3->¬(k:Int)<(vOf s).length->k<=(vOf s).length->(!sI (vOf s) (nth (aA l x) j) k)=true->false=eM s l:=fun h x j k hx h1 hj hk1 hk2 h2=>no x hx (.inl (by
   obtain rfl:k=(vOf s).length:=by omega
   rw[Sq,Bool.not_not]at h2;rw[kA h,h1,Bool.false_or];have:=(kV _ h1).2.1;exact List.any_eq_true.2 ⟨_,Geo.fK (show j<(aA l x).length by omega),h2⟩))
  have ok2:∀x j k:Nat,¬(k:Int)<(vOf s).length->k<=(vOf s).length->(!sI (vOf s) (nth (aA l x) j) k)=false->aW (fun j=>fgn (vOf s) (nth (aA l x) j)=false) j->aW (fun j=>fgn (vOf s) (nth (aA l x) j)=false) (j+1):=fun x j k hk1 hk2 h2 hu=>by
   obtain rfl:k=(vOf s).length:=by omega
   rw[Sq,Bool.not_not]at h2;exact aC hu h2
  have no3:∀x j:Nat,(x:Int)<l.length->aW (ck s l) x->ckR s (aA l x)=false->(j:Int)<x->(!dK (aA l x) (aA l j))=true->false=eM s l:=fun x j hx hu h1 hj h2=>no x hx (.inr (by
   unfold ckB;have hk:=kV _ h1;rw[<-kB x hu ⟨hk.1,hk.2.1⟩ j (by omega)]at h2
   refine List.any_eq_true.2 ⟨aA l j,?_,h2⟩;have:(l.take x)[j]'(by rw[List.length_take];omega)=aA l j:=by rw[List.getElem_take,<-gY (by omega)]
   rw[<-this];exact List.getElem_mem _))
  have okS:¬¬eOf s=0->∀x j k:Nat,(x:Int)<l.length->aW (ck s l) x->ckR s (aA l x)=false->¬(j:Int)<3->j<=3->aW (fun j=>fgn (vOf s) (nth (aA l x) j)=false) j->¬(k:Int)<x->k<=x->aW (fun j=>dK (aA l x) (aA l j)=true) k->aW (ck s l) (x+1):=fun h x j k hx hu h1 hj1 hj2 hj hk1 hk2 hk=>by
   obtain rfl:j=3:=by omega
   obtain rfl:k=x:=by omega
   have hkv:=kV _ h1;refine aC hu ⟨?_,?_⟩
   ·rw[kA h,h1,Bool.false_or];refine List.any_eq_false.2 fun v hv=> ?_
    obtain⟨i,hi,rfl⟩:=Geo.fL.1 hv;rw[hj i (by omega)];simp
   ·unfold ckB;refine List.any_eq_false.2 fun o ho=> ?_
    obtain⟨i,hi,rfl⟩:=List.getElem_of_mem ho;rw[List.length_take]at hi;rw[List.getElem_take,<-gY (by omega),kB k hu ⟨hkv.1,hkv.2.1⟩ i (by omega),hk i (by omega)];simp
  have sS:∀x:Nat,(x:Int)<l.length->a2S l x+(if cI (aA l x)=true then Geo.area (aA l x)else 0)=a2S l (x+1):=fun x h=>by
   rw[<-Geo.jY];unfold a2S;rw[List.take_succ_eq_append_getElem (by omega),List.map_append,List.sum_append,gY (by omega)];simp[a2]
  have b1:∀r:aD,-8000000000<=(if cI r=true then Geo.area r else 0)/\(if cI r=true then Geo.area r else 0)<=8000000000:=fun r=>by
   split
   ·rename_i h;rw[<-Geo.jY]at h;exact xL h
   ·omega
  have bS:∀x:Nat,x<=l.length-> -(8000000000*(x:Int))<=a2S l x/\a2S l x<=8000000000*(x:Int):=fun x=>by
   induction x with
   |zero=>intro _;unfold a2S;simp
   |succ x ih=>
    intro h;have h1:=ih (by omega)
    have h2:=b1 (aA l x);rw[<-sS x (by omega)];omega
  have wS:∀x:Nat,(x:Int)<l.length->aG (a2S l x+(if cI (aA l x)=true then Geo.area (aA l x)else 0)):=fun x h=>by
   have h1:=bS x (by omega)
   have h2:=b1 (aA l x);exact dY (by omega)
  have yE:¬¬eOf s=0->∀x:Nat,¬(x:Int)<l.length->x<=l.length->aW (ck s l) x->decide (a2S l x=(if aQ s=true then jD s else 0))=eM s l:=fun h x h1 h2 h3=>by
   obtain rfl:x=l.length:=by omega
   unfold eM;rw[if_pos (R h),hvP h,show((List.range l.length).all fun i=> !ckA s (aA l i)&& !ckB l i)=true from List.all_eq_true.2 fun i hi=>by
    obtain⟨g1,g2⟩:=h3 i (List.mem_range.1 hi);rw[g1,g2];rfl]
   simp
  have z0:∀v,false=sI (vOf s) v 0:=fun v=>rfl
  have f1:∀(v:Geo.V) (k:Nat),(k:Int)<(vOf s).length->sI (vOf s) v k=true->true=sI (vOf s) v (k+1):=fun v k h h2=>by rw[Me (by omega),h2];rfl
  have f2:∀(v:Geo.V) (k:Nat),(k:Int)<(vOf s).length->sI (vOf s) v k=false->decide (nth (vOf s) k=v)=sI (vOf s) v (k+1):=fun v k h h2=>by rw[Me (by omega),h2];rfl
  have ckj:∀x:Nat,aW (ck s l) x->∀j:Nat,(j:Int)<x->∀v∈aA l j,bd 1000000000 v:=fun x hu j hj v hv=>by
   have:=(hu j (by omega)).1
   unfold ckA at this;have g:Geo.bW (aA l j)=true:=by cases e:Geo.bW (aA l j)<;>rw[e]at this<;>simp at this|-
   exact(vB _ g v hv).mono
  have hrj:∀x:Nat,(x:Int)<l.length->∀j:Nat,(j:Int)<x->(aA l j).length<=1000:=fun x h j hj=>hr j (by omega)
  clear V kV b1 bS hvP R kA kB no hw vB
  repeat' first|with_reducible apply And.intro|with_reducible intro
  all_goals repeat with_reducible cases‹_/\aW _ _›
  all_goals first|assumption|with_reducible rfl|(with_reducible exact c0 ‹_›)|(with_reducible exact he ‹_›)|(with_reducible exact hw1 ‹_› _ ‹_›)|(with_reducible exact hw2 ‹_› _ ‹_›)|(with_reducible exact hr _ ‹_›)|(with_reducible exact hr5 _ ‹_›)|(with_reducible exact hrj _ ‹_› _ ‹_›)|(with_reducible exact a1 _ ‹_›)|(with_reducible exact a2' _ ‹_›)|(with_reducible exact a4 _ ‹_› ‹_›)|(with_reducible exact vB4 _ ‹_› _ ‹_›)|(with_reducible exact vB9 _ ‹_› _ ‹_›)|(with_reducible exact ckj _ ‹_› _ ‹_› _ ‹_›)|(with_reducible exact l3 _ ‹_› _ ‹_›)|(with_reducible exact l3' _ ‹_›)|(with_reducible exact no1 ‹_› _ ‹_› ‹_›)|(with_reducible exact no2 ‹_› _ _ _ ‹_› ‹_› ‹_› ‹_› ‹_› ‹_›)|(with_reducible exact ok2 _ _ _ ‹_› ‹_› ‹_› ‹_›)|(with_reducible exact no3 _ _ ‹_› ‹_› ‹_› ‹_› ‹_›)|(with_reducible exact okS ‹_› _ _ _ ‹_› ‹_› ‹_› ‹_› ‹_› ‹_› ‹_› ‹_› ‹_›)|(with_reducible exact sS _ ‹_›)|(with_reducible exact wS _ ‹_›)|(with_reducible exact yE ‹_› _ ‹_› ‹_› ‹_›)|exact z0 _|exact f1 _ _ ‹_› ‹_› |exact f2 _ _ ‹_› ‹_› |exact bC _|exact aC ‹_› (nb ‹_›)|omega|(unfold ix;omega)|(unfold aG;omega)|rfl)
def t29:Tab:=cJ [(29,c29)] t95
theorem aNW:t29.Ok Tryz.prog:=aH aKa ⟨k29,trivial⟩
def c4:Con:=con (ac aSh (a1 (aL .R))) (fun(s,l)=>[sL s,aPf l]) (fun(_,_)=> .bool true)
def t4:Tab:=t29
end
end Go.Proofs.YtdaeofhdgabhjaaGreat
namespace Go.Proofs.YtdaeofhdgabhjaaGreat
open Go.RowKit
noncomputable def c30:Con:=con (a1 aSh) (fun s=>[sL s]) (fun s=> .bool (oM s&&Geo.aQ s))
set_option maxRecDepth 100000 in
theorem k30:c30.Ok Tryz.prog 30:=aU (bL aLm) (raw:=bO) (fun _=>[]
  ) (fun _=>⟨_,rfl⟩) fun s hp=>bM (q:=sL s/\(oM s=true->Fit s/\Geo.aQ s=(oM s&&Geo.aQ s))/\
 (oM s=false->false=(oM s&&Geo.aQ s))) (by kernel_rfl) (by
  change sL s at hp;exact⟨hp,fun h=>⟨Sr hp h,by rw[h];rfl⟩,fun h=>by rw[h];rfl⟩)
end Go.Proofs.YtdaeofhdgabhjaaGreat
namespace Go.Proofs.YtdaeofhdgabhjaaGreat
open Go.RowKit
end Go.Proofs.YtdaeofhdgabhjaaGreat
namespace Go.Proofs.YtdaeofhdgabhjaaGreat.Geo
def rot(r:aD)(k:Nat):aD:=r.drop k++r.take k
theorem sU(r:aD)(k:Nat):(rot r k).Perm r:=by
 unfold rot;refine List.perm_append_comm.trans ?_;rw[List.take_append_drop]
theorem fP(r:aD)(k:Nat):(rot r k).length=r.length:=(sU r k).length_eq
theorem xE{r:aD}{k i:Nat}(hk:k<=r.length)(hi:i<r.length):nth (rot r k) i=nth r ((i+k) % r.length):=by
 unfold rot nth;rw[List.getD_eq_getElem?_getD,List.getD_eq_getElem?_getD]
 congr 1
 by_cases h:i<r.length-k
 ·rw[List.getElem?_append_left (by simp;omega),List.getElem?_drop,eC (by omega)]
  congr 1;omega
 ·rw[List.getElem?_append_right (by simp;omega),List.length_drop,List.getElem?_take,if_pos (by omega),lH (by omega) (by omega)]
  congr 1;omega
theorem Ax(i k n:Nat)(_:0<n):((i+1) % n+k) % n=((i+k) % n+1) % n:=by
 rw[Nat.mod_add_mod,Nat.mod_add_mod];congr 1;omega
theorem Hh{r:aD}{k i:Nat}(hk:k<=r.length)(hi:i<r.length):cP (rot r k) i=cP r ((i+k) % r.length):=by
 unfold cP nxt;rw[fP,xE hk hi,xE hk (Nat.mod_lt _ (by omega)),Ax _ _ _ (by omega)]
theorem aBF(r:aD){k:Nat}(hk:k<=r.length):edges (rot r k)=(edges r).drop k++(edges r).take k:=by
 unfold edges;rw[fP];split
 ·simp
 ·apply List.ext_getElem
  ·simp;omega
  ·intro i h1 h2;simp only[List.length_map,List.length_range]at h1;rw[List.getElem_map,List.getElem_range,Hh hk h1];by_cases h:i<r.length-k
   ·rw[List.getElem_append_left (by simp;omega),List.getElem_drop,List.getElem_map,List.getElem_range,eC (by omega)]
    congr 1;omega
   ·rw[List.getElem_append_right (by simp;omega),List.getElem_take,List.getElem_map,List.getElem_range,lH (by omega) (by omega)]
    congr 1;simp;omega
theorem gX(r:aD){k:Nat}(hk:k<=r.length):(edges (rot r k)).Perm (edges r):=by
 rw[aBF r hk];refine List.perm_append_comm.trans ?_;rw[List.take_append_drop]
theorem qX{r:aD}(h:2<=r.length):area r=((edges r).map fun e=>cross e.a e.b).sum:=by
 unfold area edges;rw[if_neg (by omega),List.map_map]
 rfl
theorem tQ{l m:List Int}(h:l.Perm m):l.sum=m.sum:=by
 induction h with
 |nil=>rfl
 |cons x _ ih=>simp only[List.sum_cons,ih]
 |swap x y l=>simp only[List.sum_cons];omega
 |trans _ _ ih1 ih2=>rw[ih1,ih2]
theorem aEf{r:aD}(h:2<=r.length){k:Nat}(hk:k<=r.length):area (rot r k)=area r:=by
 rw[qX h,qX (by rw[fP];exact h)]
 exact tQ ((gX r hk).map _)
theorem aBl{r q:aD}(h:q.Perm r):near q=near r:=by
 unfold near;rw[Bool.eq_iff_iff,List.all_eq_true,List.all_eq_true];exact⟨fun g v hv=>g v (h.mem_iff.2 hv),fun g v hv=>g v (h.mem_iff.1 hv)⟩
theorem aFI(i k n:Nat)(_:0<n):((i+2) % n+k) % n=((i+k) % n+2) % n:=by
 rw[Nat.mod_add_mod,Nat.mod_add_mod];congr 1;omega
theorem VR.rot{r:aD}(h:VR r){k:Nat}(hk:k<=r.length):VR (rot r k):=by
 have h3:=h.three;have ht:∀i,i<(Geo.rot r k).length->Geo.turn (nth (Geo.rot r k) i) (nth (Geo.rot r k) ((i+1) % (Geo.rot r k).length)) (nth (Geo.rot r k) ((i+2) % (Geo.rot r k).length))≠0:=by
  intro i hi;rw[fP]at hi|-;rw[xE hk hi,xE hk (Nat.mod_lt _ (by omega)),xE hk (Nat.mod_lt _ (by omega)),Ax _ _ _ (by omega),aFI _ _ _ (by omega)]
  exact h.turn' _ (Nat.mod_lt _ (by omega))
 have ha:∀a b,a<r.length->b<r.length->a≠b->b≠(a+1) % r.length->a≠(b+1) % r.length->cR (cP r a) (cP r b)=0:=by
  intro a b h1 h2 h4 h5 h6;have key:∀a b,a<b->b<r.length->b≠(a+1) % r.length->a≠(b+1) % r.length->cR (cP r a) (cP r b)=0:=by
   intro a b h1 h2 h5 h6;refine h.apart a b h1 h2 ?_ ?_
   ·rintro rfl;exact h5 (eC h2).symm
   ·rintro⟨rfl,rfl⟩;exact h6 (by rw[show r.length-1+1=r.length by omega,Nat.mod_self])
  rcases Nat.lt_or_ge a b with h7|h7
  ·exact key a b h7 h2 h5 h6
  ·rw[iD];exact key b a (by omega) h1 h6 h5
 have e1:∀i,i<r.length->(i+1) % r.length=if i+1=r.length then 0 else i+1:=by
  intro i hi;split
  ·rename_i e;rw[e,Nat.mod_self]
  ·exact eC (by omega)
 have hap:∀i j,i<j->j<(Geo.rot r k).length->j≠i+1->¬(i=0/\j=(Geo.rot r k).length-1)->cR (cP (Geo.rot r k) i) (cP (Geo.rot r k) j)=0:=by
  intro i j hij hj h4 h5;rw[fP]at hj h5;rw[Hh hk (by omega),Hh hk hj]
  have inj:∀x y,x<r.length->y<r.length->(x+k) % r.length=(y+k) % r.length->x=y:=by
   intro x y hx hy e;have hm:∀z,z<r.length->(z+k) % r.length=if z+k<r.length then z+k else z+k-r.length:=by
    intro z hz;split
    ·exact eC ‹_›
    ·exact lH (by omega) (by omega)
   rw[hm x hx,hm y hy]at e;split at e<;>split at e<;>omega
  refine ha _ _ (Nat.mod_lt _ (by omega)) (Nat.mod_lt _ (by omega)) ?_ ?_ ?_
  ·intro e;have:=inj _ _ (by omega) hj e;omega
  ·rw[<-Ax _ _ _ (by omega)]
   intro e;have:=inj _ _ hj (Nat.mod_lt _ (by omega)) e
   rw[e1 i (by omega)]at this
   split at this<;>omega
  ·rw[<-Ax _ _ _ (by omega)]
   intro e;have:=inj _ _ (by omega) (Nat.mod_lt _ (by omega)) e
   rw[e1 j hj]at this;split at this<;>omega
 have htn:∀i,i<(Geo.rot r k).length->Geo.turn (prv (Geo.rot r k) i) (nth (Geo.rot r k) i) (nxt (Geo.rot r k) i)≠0:=by
  have:=Cb (Geo.rot r k) (by rw[fP];exact h3)
  rw[Bool.eq_iff_iff,List.all_eq_true,List.all_eq_true]at this;intro i hi;have:=this.2 (fun i hi=>by simpa using ht i (List.mem_range.1 hi)) i (List.mem_range.2 hi)
  simpa using this
 exact⟨by rw[fP];exact h3,by rw[fP];exact h.most,by rw[aBl (sU r k)];exact h.near,by rw[aEf (by omega) hk];exact h.area,htn,ht,hap⟩
theorem aAV(p:Pt)(a b:S)(l:List S)(ins:Bool):fH p (a::b::l) ins=fH p (b::a::l) ins:=by
 simp only[fH];cases onP a p<;>cases onP b p<;>simp
 congr 1
 cases ins<;>cases hU a p<;>cases hU b p<;>rfl
theorem aAW(p:Pt){l m:List S}(h:l.Perm m):∀ins,fH p l ins=fH p m ins:=by
 induction h with
 |nil=>intro ins;rfl
 |cons x _ ih=>intro ins;simp only[fH,ih]
 |swap x y l=>intro ins;exact aAV p y x l ins
 |trans _ _ ih1 ih2=>intro ins;rw[ih1,ih2]
theorem xM{r:aD}(h:VR r){k:Nat}(hk:k<=r.length)(p:Pt):bH (rot r k) p=bH r p:=by
 unfold bH;rw[(cS _).2 h,(cS _).2 (h.rot hk),aAW p (gX r hk)]
theorem zB{r:aD}(h:VR r){k:Nat}(hk:k<=r.length)(v:V):bR (rot r k) v=bR r v:=by
 unfold bR;rw[xM h hk]
theorem Oz{a b:aD}(hb:VR b){i j:Nat}(hj:j<=b.length)(w:Int):cX (rot a i) (rot b j) w=cX a b w:=by
 unfold cX;rw[Bool.eq_iff_iff,List.all_eq_true,List.all_eq_true];simp only[zB hb hj];exact⟨fun g v hv=>g v ((sU a i).mem_iff.2 hv),fun g v hv=>g v ((sU a i).mem_iff.1 hv)⟩
theorem Mq{a b:aD}{i j:Nat}(hi:i<=a.length)(hj:j<=b.length):dX (rot a i) (rot b j)=dX a b:=by
 unfold dX;rw[Bool.eq_iff_iff,List.all_eq_true,List.all_eq_true];simp only[List.all_eq_true];have h1:=gX a hi;have h2:=gX b hj;exact⟨fun g x hx y hy=>g x (h1.mem_iff.2 hx) y (h2.mem_iff.2 hy),fun g x hx y hy=>g x (h1.mem_iff.1 hx) y (h2.mem_iff.1 hy)⟩
def Ux(a b:aD):Prop:=dX a b=true/\cX a b 0=true/\cX b a 0=true
theorem Ux.symm{a b:aD}(h:Ux a b):Ux b a:=⟨by rw[lL];exact h.1,h.2.2,h.2.1⟩
structure VP(s:Shape):Prop where
 few:s.holes.length<=6
 outer:VR s.outer
 hole:∀h∈s.holes,VR h/\cX h s.outer 2=true/\dX h s.outer=true
 corners:dO s<=80
 sep:s.holes.Pairwise Ux
theorem VS.vp{s:Shape}(h:VS s):VP s:=by
 refine⟨h.few,h.outer,fun r hr=> ?_,h.corners,?_⟩
 ·obtain⟨i,hi,rfl⟩:=nI hr;exact⟨h.hole i hi,h.ins i hi,h.apo i hi⟩
 ·rw[List.pairwise_iff_getElem];intro i j hi hj hij;have en:∀i (hi:i<s.holes.length),s.holes[i] =aA s.holes i:=fun i hi=>by unfold aA;rw[List.getD_eq_getElem?_getD,List.getElem?_eq_getElem hi];rfl
  rw[en i hi,en j hj];exact Ux.symm ⟨h.aph j i hij hj,h.out1 j i hij hj,h.out2 j i hij hj⟩
theorem VP.vs{s:Shape}(h:VP s):VS s:=by
 have en:∀i (hi:i<s.holes.length),s.holes[i] =aA s.holes i:=fun i hi=>by unfold aA;rw[List.getD_eq_getElem?_getD,List.getElem?_eq_getElem hi];rfl
 have hs:=h.sep;rw[List.pairwise_iff_getElem]at hs;have hp:∀i k,k<i->i<s.holes.length->Ux (aA s.holes i) (aA s.holes k):=fun i k hk hi=>by
  have:=hs k i (by omega) hi hk
  rw[en k (by omega),en i hi]at this
  exact this.symm
 exact⟨h.few,h.outer,fun i hi=>(h.hole _ (fD hi)).1,h.corners,fun i hi=>(h.hole _ (fD hi)).2.1,fun i hi=>(h.hole _ (fD hi)).2.2,fun i k hk hi=>(hp i k hk hi).1,fun i k hk hi=>(hp i k hk hi).2.1,fun i k hk hi=>(hp i k hk hi).2.2⟩
structure Begun(s t:Shape)(κ:aD->Nat):Prop where
 le:∀r,κ r<=r.length
 outer:t.outer=rot s.outer (κ s.outer)
 holes:t.holes.Perm (s.holes.map fun r=>rot r (κ r))
section
variable {s t:Shape} {κ:aD->Nat}
theorem aBc{l m:List Nat}(h:l.Perm m):l.sum=m.sum:=by
 induction h with
 |nil=>rfl
 |cons x _ ih=>simp only[List.sum_cons,ih]
 |swap x y l=>simp only[List.sum_cons];omega
 |trans _ _ ih1 ih2=>rw[ih1,ih2]
theorem Begun.valid(B:Begun s t κ)(h:VS s):VS t:=by
 have h:=h.vp;refine VP.vs ⟨?_,?_,?_,?_,?_⟩
 ·rw[B.holes.length_eq,List.length_map];exact h.few
 ·rw[B.outer];exact h.outer.rot (B.le _)
 ·intro r hr;obtain⟨q,hq,rfl⟩:=List.mem_map.1 (B.holes.mem_iff.1 hr);obtain⟨h1,h2,h3⟩:=h.hole q hq;refine⟨h1.rot (B.le _),?_,?_⟩
  ·rw[B.outer,Oz h.outer (B.le _)];exact h2
  ·rw[B.outer,Mq (B.le _) (B.le _)];exact h3
 ·have hc:=h.corners;have e:dO t=dO s:=by
   unfold dO aJ;simp only[List.map_cons,List.sum_cons];rw[B.outer,fP,aBc (B.holes.map _),List.map_map]
   congr 2
   apply List.map_congr_left;intro r _;exact fP r _
  rw[e];exact hc
 ·refine(B.holes.pairwise_iff fun h=>h.symm).2 ?_
  rw[List.pairwise_map];refine List.Pairwise.imp_of_mem ?_ h.sep;intro a b ha hb ⟨h1,h2,h3⟩;exact⟨by rw[Mq (B.le _) (B.le _)];exact h1,by rw[Oz (h.hole b hb).1 (B.le _)];exact h2,by rw[Oz (h.hole a ha).1 (B.le _)];exact h3⟩
theorem Begun.mem_edges(B:Begun s t κ)(e:S):e∈aE t↔e∈aE s:=by
 unfold aE aJ;simp only[List.flatMap_cons,List.mem_append,List.mem_flatMap];rw[B.outer,(gX _ (B.le _)).mem_iff];constructor
 ·rintro(h|⟨r,hr,he⟩)
  ·exact .inl h
  ·obtain⟨q,hq,rfl⟩:=List.mem_map.1 (B.holes.mem_iff.1 hr);exact .inr ⟨q,hq,(gX _ (B.le _)).mem_iff.1 he⟩
 ·rintro(h|⟨r,hr,he⟩)
  ·exact .inl h
  ·exact .inr ⟨_,B.holes.mem_iff.2 (List.mem_map.2 ⟨r,hr,rfl⟩),(gX _ (B.le _)).mem_iff.2 he⟩
theorem Iv{p:Pt}:∀{l:List aD},kX p l 2=2↔∀h∈l,bH h p=0
 |[] =>by simp[kX]
 |h::l=>by
  have hr:bH h p=0\/bH h p=1\/bH h p=2:=by
   unfold bH;split
   ·exact .inl rfl
   ·exact Ib p _ _
  simp only[kX,List.mem_cons,forall_eq_or_imp];rw[<-Iv (l:=l)];rcases hr with e|e|e
  ·simp[e]
  ·rw[if_neg (by omega),if_pos e];simp[e]
  ·rw[if_pos e];simp[e]
theorem mV(s:Shape)(p:Pt):dG s p=2↔(bV s=true/\bH s.outer p=2/\∀h∈s.holes,bH h p=0):=by
 unfold dG;cases bV s with
 |false=>simp
 |true=>
  simp only[Bool.not_true,Bool.false_eq_true,if_false,true_and];by_cases h:bH s.outer p=2
  ·rw[if_neg (by omega),Iv];simp[h]
  ·rw[if_pos h];simp[h]
theorem Begun.inside(B:Begun s t κ)(h:VS s)(p:Pt):(dG t p==2)=(dG s p==2):=by
 rw[Bool.eq_iff_iff,beq_iff_eq,beq_iff_eq,mV,mV,(fU _).2 h,(fU _).2 (B.valid h),B.outer,xM h.outer (B.le _)];refine and_congr_right fun _=>and_congr_right fun _=> ?_
 constructor
 ·intro g r hr;rw[<-xM (h.vp.hole r hr).1 (B.le r)];exact g _ (B.holes.mem_iff.2 (List.mem_map.2 ⟨r,hr,rfl⟩))
 ·intro g r hr;obtain⟨q,hq,rfl⟩:=List.mem_map.1 (B.holes.mem_iff.1 hr);rw[xM (h.vp.hole q hq).1 (B.le q)];exact g q hq
theorem Begun.chord(B:Begun s t κ)(h:VS s)(c:S):fY t c=fY s c:=by
 unfold fY;rw[B.inside h]
 congr 1
 rw[Bool.eq_iff_iff,List.all_eq_true,List.all_eq_true];exact⟨fun g e he=>g e ((B.mem_edges e).2 he),fun g e he=>g e ((B.mem_edges e).1 he)⟩
end
end Go.Proofs.YtdaeofhdgabhjaaGreat.Geo
namespace Go.Proofs.YtdaeofhdgabhjaaGreat.Geo
def mv(u:V)(a:V):V:=⟨a.x+u.x,a.y+u.y⟩
def mvR(u:V)(r:aD):aD:=r.map (mv u)
def mvE(u:V)(s:S):S:=⟨mv u s.a,mv u s.b⟩
def mvH(u:V)(s:Shape):Shape:=⟨mvR u s.outer,s.holes.map (mvR u)⟩
def mvP(u:V)(p:Pt):Pt:=⟨p.x+u.x*p.den,p.y+u.y*p.den,p.den⟩
theorem aJg{u a b:V}(h:mv u a=mv u b):a=b:=by
 cases a;cases b;unfold mv at h;simp only[V.mk.injEq]at h|-;omega
theorem aIh(u a b:V):mv u a=mv u b↔a=b:=⟨aJg,fun h=>by rw[h]⟩
theorem Bu(u a b:V):sub (mv u a) (mv u b)=sub a b:=by
 unfold sub mv;simp only[V.mk.injEq];omega
theorem Ew(u a b c:V):turn (mv u a) (mv u b) (mv u c)=turn a b c:=by
 unfold turn;rw[Bu,Bu]
theorem Az(u a b:V):bX (mv u a) (mv u b)=bX a b:=by
 unfold bX mv;rw[Bool.eq_iff_iff];simp only[Bool.or_eq_true,Bool.and_eq_true,decide_eq_true_eq,beq_iff_eq];omega
theorem Tb(a b c:Int):fX (a+c) (b+c)=fX a b:=by
 unfold fX;repeat' split
 all_goals omega
theorem aF4(u a b:V):eJ (mv u a) (mv u b)=eJ a b:=by
 unfold eJ mv;rw[Tb,Tb]
theorem aDN(u:V)(s:S)(p:V):gQ (mvE u s) (mv u p)=gQ s p:=by
 unfold gQ mvE mv;rw[Bool.eq_iff_iff];simp only[Bool.and_eq_true,decide_eq_true_eq];omega
section
variable {u:V}
theorem aCH{s:S}(h1:aM s=true)(h2:aM (mvE u s)=true)(p:V):onS (mvE u s) (mv u p)=onS s p:=by
 unfold onS;rw[h1,h2,aDN];unfold mvE;rw[Ew]
theorem aCK(s:S):loS (mvE u s)=mv u (loS s):=by
 unfold loS mvE;dsimp only;rw[Az];split<;>rfl
theorem aCR(s:S):hiS (mvE u s)=mv u (hiS s):=by
 unfold hiS mvE;dsimp only;rw[Az];split<;>rfl
theorem Wd(s t:S):cQ (mvE u s) (mvE u t)=mv u (cQ s t):=by
 unfold cQ;rw[aCK,aCK,Az];split<;>rfl
theorem We(s t:S):dA (mvE u s) (mvE u t)=mv u (dA s t):=by
 unfold dA;rw[aCR,aCR,Az];split<;>rfl
theorem aAc{s t:S}(h1:aM s=true)(h2:aM (mvE u s)=true)(h3:aM t=true)(h4:aM (mvE u t)=true):cR (mvE u s) (mvE u t)=cR s t:=by
 have e1:sub (mvE u s).b (mvE u s).a=sub s.b s.a:=Bu _ _ _;have e2:sub (mvE u t).b (mvE u t).a=sub t.b t.a:=Bu _ _ _;have e3:sub (mvE u t).a (mvE u s).a=sub t.a s.a:=Bu _ _ _;have e4:onS (mvE u t) (mvE u s).a=onS t s.a:=aCH h3 h4 s.a;have e5:onS (mvE u s) (mvE u t).a=onS s t.a:=aCH h1 h2 t.a;have e6:turn (mvE u s).a (mvE u s).b (mvE u t).a=turn s.a s.b t.a:=Ew _ _ _ _;have e7:((mvE u s).a=(mvE u s).b)=(s.a=s.b):=propext (aIh u _ _);have e8:((mvE u t).a=(mvE u t).b)=(t.a=t.b):=propext (aIh u _ _);unfold cR qF;simp only[h1,h2,h3,h4,e1,e2,e3,e4,e5,e6,e7,e8,Wd,We,aF4]
theorem yY{r:aD}{i:Nat}(h:i<r.length):nth (mvR u r) i=mv u (nth r i):=by
 unfold nth mvR;rw[List.getD_eq_getElem?_getD,List.getD_eq_getElem?_getD,List.getElem?_map,List.getElem?_eq_getElem h];rfl
theorem qG(r:aD):(mvR u r).length=r.length:=by unfold mvR;simp
theorem aCI{r:aD}{i:Nat}(h:i<r.length):nxt (mvR u r) i=mv u (nxt r i):=by
 unfold nxt;rw[qG,yY (Nat.mod_lt _ (by omega))]
theorem aI9{r:aD}{i:Nat}(h:i<r.length):prv (mvR u r) i=mv u (prv r i):=by
 unfold prv;rw[qG,yY (Nat.mod_lt _ (by omega))]
theorem Oo{r:aD}{i:Nat}(h:i<r.length):cP (mvR u r) i=mvE u (cP r i):=by
 unfold cP mvE;rw[yY h,aCI h]
theorem vY(r:aD):edges (mvR u r)=(edges r).map (mvE u):=by
 unfold edges;rw[qG];split
 ·rfl
 ·rw[List.map_map];apply List.map_congr_left;intro i hi;exact Oo (List.mem_range.1 hi)
theorem aFm(l:List S)(f g:S->Int):(l.map fun e=>f e-g e).sum=(l.map f).sum-(l.map g).sum:=by
 induction l with
 |nil=>rfl
 |cons x l ih=>simp only[List.map_cons,List.sum_cons,ih];omega
theorem Aa(l:List S)(f g:S->Int):(l.map fun e=>f e+g e).sum=(l.map f).sum+(l.map g).sum:=by
 induction l with
 |nil=>rfl
 |cons x l ih=>simp only[List.map_cons,List.sum_cons,ih];omega
theorem Ex(l:List S)(c:Int)(f:S->Int):(l.map fun e=>c*f e).sum=c*(l.map f).sum:=by
 induction l with
 |nil=>simp
 |cons x l ih=>simp only[List.map_cons,List.sum_cons,ih,Int.mul_add]
theorem Zk{r:aD}(h:2<=r.length):(edges r).map S.b=rot r 1:=by
 unfold edges;rw[if_neg (by omega),List.map_map]
 apply List.ext_getElem
 ·rw[fP];simp
 ·intro i h1 h2;rw[fP]at h2;have:=xE (r:=r) (k:=1) (i:=i) (by omega) h2
  rw[List.getElem_map,List.getElem_range];show nxt r i=_;unfold nxt;rw[<-this];unfold nth;rw[List.getD_eq_getElem?_getD,List.getElem?_eq_getElem (by rw[fP];exact h2)];rfl
theorem Gu{r:aD}(h:2<=r.length):(edges r).map S.a=r:=by
 unfold edges;rw[if_neg (by omega),List.map_map]
 apply List.ext_getElem
 ·simp
 ·intro i h1 h2;rw[List.getElem_map,List.getElem_range];show nth r i=_;unfold nth;rw[List.getD_eq_getElem?_getD,List.getElem?_eq_getElem h2];rfl
theorem Sw{r:aD}(h:2<=r.length)(f:V->Int):((edges r).map fun e=>f e.b).sum=((edges r).map fun e=>f e.a).sum:=by
 have h1:((edges r).map fun e=>f e.b)=(rot r 1).map f:=by rw[<-Zk h,List.map_map];rfl
 have h2:((edges r).map fun e=>f e.a)=r.map f:=(List.map_map (f:=S.a) (g:=f) (l:=edges r)).symm.trans (by rw[Gu h])
 rw[h1,h2];exact tQ ((sU r 1).map f)
theorem aGj{r:aD}(h:2<=r.length):area (mvR u r)=area r:=by
 rw[qX h,qX (by rw[qG];exact h),vY,List.map_map]
 have e:((fun e:S=>cross e.a e.b)∘mvE u)=fun e:S=>(cross e.a e.b+(u.y*e.a.x+ -u.x*e.a.y))-(u.y*e.b.x+ -u.x*e.b.y):=by
  funext e
  show cross (mv u e.a) (mv u e.b)=_;unfold cross mv;grind
 rw[e,aFm,Aa,Aa,Aa,Ex,Ex,Ex,Ex];have hx:=Sw h V.x;have hy:=Sw h V.y;rw[hx,hy];omega
theorem VR.mv{r:aD}(h:VR r)(hn:Geo.near (mvR u r)=true):VR (mvR u r):=by
 have h3:=h.three;refine⟨by rw[qG];exact h3,by rw[qG];exact h.most,hn,by rw[aGj (by omega)];exact h.area,?_,?_,?_⟩
 ·intro i hi;rw[qG]at hi;rw[aI9 hi,yY hi,aCI hi,Ew];exact h.turn i hi
 ·intro i hi;rw[qG]at hi|-;rw[yY hi,yY (Nat.mod_lt _ (by omega)),yY (Nat.mod_lt _ (by omega)),Ew]
  exact h.turn' i hi
 ·intro i k h1 h2 h4 h5;have g1:=dS hn i (by omega)
  have g2:=dS hn k h2;rw[qG]at h2 h5;rw[Oo (by omega)]at g1|-
  rw[Oo h2]at g2|-;rw[aAc (dS h.near i (by omega)) g1 (dS h.near k h2) g2]
  exact h.apart i k h1 h2 h4 h5
theorem Gb(p:Pt)(a:V):toV (mvP u p) (Geo.mv u a)=toV p a:=by
 unfold toV mvP Geo.mv;simp only[V.mk.injEq];grind
theorem Zf(p:Pt)(s:S):fR (mvE u s) (mvP u p)=fR s p:=by
 unfold fR mvE;dsimp only;rw[Bu,Gb]
theorem aJd(p:Pt)(s:S):onP (mvE u s) (mvP u p)=onP s p:=by
 unfold onP;rw[Zf];unfold mvE;dsimp only;rw[Gb,Gb]
theorem aFT(p:Pt)(s:S):hU (mvE u s) (mvP u p)=hU s p:=by
 unfold hU;rw[Zf];unfold mvE;dsimp only;rw[Gb,Gb]
theorem Zj(p:Pt):∀(l:List S) (ins:Bool),fH (mvP u p) (l.map (mvE u)) ins=fH p l ins
 |[],_=>rfl
 |s::l,ins=>by
  simp only[List.map_cons,fH,aJd,aFT,Zj p l]
theorem aC3{r:aD}(h:VR r)(hn:near (mvR u r)=true){p:Pt}(h1:cL p=true)(h2:cL (mvP u p)=true):bH (mvR u r) (mvP u p)=bH r p:=by
 unfold bH;rw[(cS _).2 h,(cS _).2 (h.mv hn),h1,h2,vY,Zj]
theorem Sa(v:V):mvP u (kT v)=kT (Geo.mv u v):=by
 unfold mvP kT Geo.mv;simp
theorem aAD{r:aD}(h:VR r)(hn:near (mvR u r)=true){v:V}(h1:aO v 4000=true)(h2:aO (Geo.mv u v) 4000=true):bR (mvR u r) (Geo.mv u v)=bR r v:=by
 unfold bR;rw[h1,h2,<-Sa,aC3 h hn (by rw[nL];exact h1) (by rw[Sa,nL];exact h2)]
theorem vV{r:aD}(h:near r=true){v:V}(hv:v∈r):aO v 2000=true:=by
 unfold near at h;rw[List.all_eq_true]at h;exact h v hv
theorem Vy{a b:aD}(hb:VR b)(ha:near a=true)(ha2:near (mvR u a)=true)(hb2:near (mvR u b)=true)(w:Int):cX (mvR u a) (mvR u b) w=cX a b w:=by
 unfold cX;rw[show(mvR u a)=a.map (Geo.mv u)from rfl,List.all_map,Bool.eq_iff_iff,List.all_eq_true,List.all_eq_true]
 have e:∀v∈a,((fun v=>bR (mvR u b) v==w)∘Geo.mv u) v=(bR b v==w):=fun v hv=>by
  show(bR (mvR u b) (Geo.mv u v)==w)=_;rw[aAD hb hb2 (dQ (vV ha hv) (by omega)) (dQ (vV ha2 (List.mem_map.2 ⟨v,hv,rfl⟩)) (by omega))]
 exact⟨fun g v hv=>by rw[<-e v hv];exact g v hv,fun g v hv=>by rw[e v hv];exact g v hv⟩
theorem uU{r:aD}(h:near r=true){e:S}(he:e∈edges r):aM e=true:=by
 obtain⟨_,i,hi,rfl⟩:=mem_edges.1 he;exact dS h i hi
theorem Ln{r:aD}(h:near (mvR u r)=true){e:S}(he:e∈edges r):aM (mvE u e)=true:=
 uU h (by rw[vY];exact List.mem_map.2 ⟨e,he,rfl⟩)
theorem Te{a b:aD}(ha:near a=true)(hb:near b=true)(ha2:near (mvR u a)=true)(hb2:near (mvR u b)=true):dX (mvR u a) (mvR u b)=dX a b:=by
 unfold dX;rw[vY,vY,List.all_map,Bool.eq_iff_iff,List.all_eq_true,List.all_eq_true];have e:∀x∈edges a,∀y∈edges b,cR (mvE u x) (mvE u y)=cR x y:=fun x hx y hy=>aAc (uU ha hx) (Ln ha2 hx) (uU hb hy) (Ln hb2 hy)
 have e2:∀x∈edges a,((fun x=>((edges b).map (mvE u)).all fun y=>cR x y==0)∘mvE u) x=((edges b).all fun y=>cR x y==0):=fun x hx=>by
  show(((edges b).map (mvE u)).all fun y=>cR (mvE u x) y==0)=_
  rw[List.all_map,Bool.eq_iff_iff,List.all_eq_true,List.all_eq_true];exact⟨fun g y hy=>by rw[<-e x hx y hy];exact g y hy,fun g y hy=>by show(cR (mvE u x) (mvE u y)==0)=true;rw[e x hx y hy];exact g y hy⟩
 exact⟨fun g x hx=>by rw[<-e2 x hx];exact g x hx,fun g x hx=>by rw[e2 x hx];exact g x hx⟩
end
def aNv(s:Shape):Prop:=near s.outer=true/\∀h∈s.holes,near h=true
section
variable {u:V} {s:Shape}
theorem VS.mv(h:VS s)(hn:aNv (mvH u s)):VS (mvH u s):=by
 have h:=h.vp;obtain⟨n1,n2⟩:=hn;have n2:∀r∈s.holes,near (mvR u r)=true:=fun r hr=>n2 _ (List.mem_map.2 ⟨r,hr,rfl⟩)
 refine VP.vs ⟨by show(s.holes.map _).length<=6;rw[List.length_map];exact h.few,h.outer.mv n1,?_,?_,?_⟩
 ·intro r hr;obtain⟨q,hq,rfl⟩:=List.mem_map.1 hr;obtain⟨h1,h2,h3⟩:=h.hole q hq;exact⟨h1.mv (n2 q hq),by show cX (mvR u q) (mvR u s.outer) 2=true;rw[Vy h.outer h1.near (n2 q hq) n1];exact h2,by show dX (mvR u q) (mvR u s.outer)=true;rw[Te h1.near h.outer.near (n2 q hq) n1];exact h3⟩
 ·have hc:=h.corners;have e:dO (mvH u s)=dO s:=by
   unfold dO aJ mvH;simp only[List.map_cons,List.sum_cons,qG,List.map_map]
   congr 2
   apply List.map_congr_left;intro r _;exact qG r
  rw[e];exact hc
 ·show(s.holes.map (mvR u)).Pairwise Ux;rw[List.pairwise_map];refine List.Pairwise.imp_of_mem ?_ h.sep;intro a b ha hb ⟨h1,h2,h3⟩;have va:=(h.hole a ha).1;have vb:=(h.hole b hb).1;exact⟨by rw[Te va.near vb.near (n2 a ha) (n2 b hb)];exact h1,by rw[Vy vb va.near (n2 a ha) (n2 b hb)];exact h2,by rw[Vy va vb.near (n2 b hb) (n2 a ha)];exact h3⟩
theorem aFW(x y:Int)(h:¬(x.tmod 2=0/\y.tmod 2=0)):Nat.gcd (Nat.gcd x.natAbs y.natAbs) 2=1:=by
 have hd:Nat.gcd (Nat.gcd x.natAbs y.natAbs) 2∣2:=Nat.gcd_dvd_right _ _;have hle:=Nat.le_of_dvd (by omega) hd
 have h0:Nat.gcd (Nat.gcd x.natAbs y.natAbs) 2≠0:=fun e=>by rw[e]at hd;omega
 have h2:Nat.gcd (Nat.gcd x.natAbs y.natAbs) 2≠2:=fun e=>by
  have g:=Nat.gcd_dvd_left (Nat.gcd x.natAbs y.natAbs) 2;rw[e]at g;exact h ⟨(jZ x 2).2 (Nat.dvd_trans g (Nat.gcd_dvd_left _ _)),(jZ y 2).2 (Nat.dvd_trans g (Nat.gcd_dvd_right _ _))⟩
 omega
theorem qZ{c:S}(ha:aO c.a 2000=true)(hb:aO c.b 2000=true):cL (dR c)=true:=by
 unfold aO at ha hb;simp only[Bool.and_eq_true,decide_eq_true_eq]at ha hb;unfold dR;split
 ·rename_i h;unfold cL dL aO;simp only[Bool.and_eq_true,decide_eq_true_eq,beq_iff_eq];obtain⟨k,hk⟩:=Int.dvd_iff_tmod_eq_zero.2 h.1;obtain⟨l,hl⟩:=Int.dvd_iff_tmod_eq_zero.2 h.2;rw[hk,hl,Int.mul_tdiv_cancel_left _ (by decide),Int.mul_tdiv_cancel_left _ (by decide)]
  refine⟨⟨⟨by omega,by omega⟩,⟨⟨by omega,by omega⟩,by omega⟩,by omega⟩,?_⟩
  show Nat.gcd _ 1=1;exact Nat.gcd_one_right _
 ·rename_i h;unfold cL dL aO;simp only[Bool.and_eq_true,decide_eq_true_eq,beq_iff_eq];exact⟨⟨⟨by omega,by omega⟩,⟨⟨by omega,by omega⟩,by omega⟩,by omega⟩,aFW _ _ h⟩
theorem dZ(h:VS s){v:V}(hv:v∈aR s):aO v 2000=true:=by
 unfold aR at hv;obtain⟨r,hr,hv⟩:=List.mem_flatten.1 hv;exact vV (h.ring hr).near hv
theorem Ed(h:VS s){e:S}(he:e∈aE s):aM e=true:=by
 unfold aE at he;obtain⟨r,hr,he⟩:=List.mem_flatMap.1 he;exact uU (h.ring hr).near he
end
end Go.Proofs.YtdaeofhdgabhjaaGreat.Geo
namespace Go.Proofs.YtdaeofhdgabhjaaGreat.Geo
def Mu(p:Pt)(l:List S)(ins:Bool):Bool:=l.foldl (fun b s=>b !=hU s p) ins
theorem Rh{p:Pt}:∀{l:List S} {ins:Bool},fH p l ins=2->Mu p l ins=true
 |[],ins,h=>by unfold fH at h;unfold Mu;cases ins<;>simp_all
 |s::l,ins,h=>by
  unfold fH at h;split at h
  ·omega
  ·exact Rh (l:=l) (ins:=ins !=hU s p) h
theorem Rs{p:Pt}:∀{l:List S} {ins:Bool},(∀s∈l,hU s p=false)->Mu p l ins=ins
 |[],_,_=>rfl
 |s::l,ins,h=>by
  show Mu p l (ins !=hU s p)=ins;rw[Rs (fun s hs=>h s (List.mem_cons_of_mem _ hs)),h s List.mem_cons_self];cases ins<;>rfl
def jJ(l:List Bool):Bool:=l.foldr (fun a b=>a !=b) false
theorem aC2{l m:List Bool}(h:l.Perm m):jJ l=jJ m:=by
 induction h with
 |nil=>rfl
 |cons x _ ih=>show(x !=jJ _)=(x !=jJ _);rw[ih]
 |swap x y l=>show(y !=(x !=jJ l))=(x !=(y !=jJ l));cases x<;>cases y<;>cases jJ l<;>rfl
 |trans _ _ ih1 ih2=>rw[ih1,ih2]
theorem Zp{p:Pt}(f:V->Bool):∀{l:List S} {ins:Bool},(∀s∈l,hU s p=(f s.a !=f s.b))->Mu p l ins=(ins !=(jJ (l.map fun s=>f s.a) !=jJ (l.map fun s=>f s.b)))
 |[],ins,_=>by cases ins<;>rfl
 |s::l,ins,h=>by
  show Mu p l (ins !=hU s p)=_;rw[Zp f (fun s hs=>h s (List.mem_cons_of_mem _ hs)),h s List.mem_cons_self]
  show _=(ins !=((f s.a !=jJ _) !=(f s.b !=jJ _)));cases ins<;>cases f s.a<;>cases f s.b<;>cases jJ (l.map fun s=>f s.a)<;>cases jJ (l.map fun s=>f s.b)<;>rfl
theorem Gj{r:aD}(h:2<=r.length)(f:V->Bool):jJ ((edges r).map fun s=>f s.a)=jJ ((edges r).map fun s=>f s.b):=by
 have h1:((edges r).map fun e=>f e.b)=(rot r 1).map f:=(List.map_map (f:=S.b) (g:=f) (l:=edges r)).symm.trans (by rw[Zk h])
 have h2:((edges r).map fun e=>f e.a)=r.map f:=(List.map_map (f:=S.a) (g:=f) (l:=edges r)).symm.trans (by rw[Gu h])
 rw[h1,h2];exact aC2 ((sU r 1).map f).symm
theorem dU{r:aD}{e:S}(he:e∈edges r):e.a∈r/\e.b∈r:=by
 obtain⟨_,i,hi,rfl⟩:=mem_edges.1 he;exact⟨fL.2 ⟨i,hi,rfl⟩,fL.2 ⟨_,Nat.mod_lt _ (by omega),rfl⟩⟩
theorem Rb(s:S)(p:Pt)(h:p.den=1):fR s p=(toV p s.a).x*(toV p s.b).y-(toV p s.a).y*(toV p s.b).x:=by
 unfold fR toV cross sub;rw[h];dsimp only;grind
theorem aEU{x y:Int}:(0<x->0<=y->0<=x*y)/\(0<x->y<0->x*y<0)/\(x<0->0<=y->x*y<=0)/\(x<0->y<0->0<x*y):=by
 refine⟨fun h1 h2=>Int.mul_nonneg (by omega) h2,fun h1 h2=>Int.mul_neg_of_pos_of_neg h1 h2,fun h1 h2=>Int.mul_nonpos_of_nonpos_of_nonneg (by omega) h2,fun h1 h2=>Int.mul_pos_of_neg_of_neg h1 h2⟩
theorem aBx{s:S}{p:Pt}(hd:p.den=1)(ha:0<(toV p s.a).x)(hb:0<(toV p s.b).x):hU s p=false:=by
 unfold hU;rw[Rb s p hd];generalize (toV p s.a).x=X1 at*;generalize (toV p s.b).x=X2 at*;generalize (toV p s.a).y=Y1;generalize (toV p s.b).y=Y2;have a:= @aEU X1 Y2;have b:= @aEU X2 Y1;rw[Int.mul_comm Y1 X2];by_cases h1:0<=Y1<;>by_cases h2:0<=Y2<;>simp[h1,h2]
 ·have:=a.2.1 ha (by omega);have:=b.1 hb h1;omega
 ·have:=a.1 ha h2;have:=b.2.1 hb (by omega);omega
theorem aDT{s:S}{p:Pt}(hd:p.den=1)(ha:(toV p s.a).x<0)(hb:(toV p s.b).x<0):hU s p=(decide (0<=(toV p s.a).y) !=decide (0<=(toV p s.b).y)):=by
 unfold hU;rw[Rb s p hd];generalize (toV p s.a).x=X1 at*;generalize (toV p s.b).x=X2 at*;generalize (toV p s.a).y=Y1;generalize (toV p s.b).y=Y2;have a:= @aEU X1 Y2;have b:= @aEU X2 Y1;rw[Int.mul_comm Y1 X2];by_cases h1:0<=Y1<;>by_cases h2:0<=Y2<;>simp[h1,h2]
 ·have:=a.2.2.2 ha (by omega);have:=b.2.2.1 hb h1;omega
 ·have:=a.2.2.1 ha h2;have:=b.2.2.2 hb (by omega);omega
theorem aIm{s:S}{p:Pt}(h:decide (0<=(toV p s.a).y)=decide (0<=(toV p s.b).y)):hU s p=false:=by
 unfold hU;rw[h];simp
theorem Wx{r:aD}(h2:2<=r.length){v:V}(h:bR r v=2):(∃a∈r,a.x<=v.x)/\(∃a∈r,v.x<=a.x)/\(∃a∈r,a.y<=v.y)/\(∃a∈r,v.y<=a.y):=by
 unfold bR bH at h;split at h
 ·omega
 split at h
 ·omega
 have hp:=Rh h;have no:¬∀s∈edges r,hU s (kT v)=false:=fun hn=>by rw[Rs hn]at hp;cases hp
 have tx:∀a:V,(toV (kT v) a).x=v.x-a.x:=fun a=>by unfold toV kT;simp
 have ty:∀a:V,(toV (kT v) a).y=v.y-a.y:=fun a=>by unfold toV kT;simp
 refine⟨Classical.byContradiction fun hn=> ?_,Classical.byContradiction fun hn=> ?_,Classical.byContradiction fun hn=> ?_,Classical.byContradiction fun hn=> ?_⟩
 ·have hl:∀a∈r,v.x<a.x:=fun a ha=>Int.not_le.1 fun hh=>hn ⟨a,ha,hh⟩
  rw[Zp (fun a=>decide (0<=(toV (kT v) a).y)) (fun s hs=>aDT rfl (by rw[tx];have:=hl _ (dU hs).1;omega) (by rw[tx];have:=hl _ (dU hs).2;omega))]at hp
  have hx:=Gj h2 (fun a=>decide (0<=(toV (kT v) a).y))
  rw[hx]at hp;simp at hp
 ·have hl:∀a∈r,a.x<v.x:=fun a ha=>Int.not_le.1 fun hh=>hn ⟨a,ha,hh⟩
  exact no fun s hs=>aBx rfl (by rw[tx];have:=hl _ (dU hs).1;omega) (by rw[tx];have:=hl _ (dU hs).2;omega)
 ·have hl:∀a∈r,v.y<a.y:=fun a ha=>Int.not_le.1 fun hh=>hn ⟨a,ha,hh⟩
  exact no fun s hs=>aIm (by rw[ty,ty];have:=hl _ (dU hs).1;have:=hl _ (dU hs).2;rw[decide_eq_false (by omega),decide_eq_false (by omega)])
 ·have hl:∀a∈r,a.y<v.y:=fun a ha=>Int.not_le.1 fun hh=>hn ⟨a,ha,hh⟩
  exact no fun s hs=>aIm (by rw[ty,ty];have:=hl _ (dU hs).1;have:=hl _ (dU hs).2;rw[decide_eq_true (by omega),decide_eq_true (by omega)])
end Go.Proofs.YtdaeofhdgabhjaaGreat.Geo
namespace Go.Proofs.YtdaeofhdgabhjaaGreat.Geo
def ln(p q:P3):P3:=⟨p.y*q.d-p.d*q.y,p.d*q.x-p.x*q.d,p.x*q.y-p.y*q.x⟩
theorem aJj(u v:V):lin u v=ln (pt u) (pt v):=by
 unfold lin ln pt;simp only[P3.mk.injEq];refine⟨?_,?_,?_⟩<;>grind
theorem Om(p q:P3):ev (ln p q) p=0:=by unfold ev ln;grind
theorem Fe(p q:P3):ev (ln p q) q=0:=by unfold ev ln;grind
theorem nnl{a k:Int}(hk:0<k)(h:0<=a*k):0<=a:=by
 rcases Int.lt_or_le a 0 with g|g
 ·have:=Int.mul_neg_of_neg_of_pos g hk;omega
 ·exact g
theorem npl{a k:Int}(hk:0<k)(h:a*k<=0):a<=0:=by
 rcases Int.lt_or_le 0 a with g|g
 ·have:=Int.mul_pos g hk;omega
 ·exact g
theorem mpp{a b:Int}(ha:0<=a)(hb:0<=b):0<=a*b:=Int.mul_nonneg ha hb
theorem mpn{a b:Int}(ha:0<=a)(hb:b<=0):a*b<=0:=Int.mul_nonpos_of_nonneg_of_nonpos ha hb
theorem mnp{a b:Int}(ha:a<=0)(hb:0<=b):a*b<=0:=Int.mul_nonpos_of_nonpos_of_nonneg ha hb
theorem mnn{a b:Int}(ha:a<=0)(hb:b<=0):0<=a*b:=Int.mul_nonneg_of_nonpos_of_nonpos ha hb
def dn(p:P3)(w:V):Bool:=decide (w.y*p.d<=p.y)
def hit(p:P3)(e:S):Bool:=(dn p e.a !=dn p e.b)&&(dn p e.a==decide (0<ev (lin e.a e.b) p))
theorem aDU(e:S)(p:Pt):hU e p=hit ⟨p.x,p.y,p.den⟩ e:=by
 unfold hU hit dn;have e1:∀w:V,decide (0<=(toV p w).y)=decide (w.y*p.den<=p.y):=fun w=>decide_eq_decide.2 (by unfold toV;dsimp only;omega)
 have e2:fR e p=ev (lin e.a e.b) ⟨p.x,p.y,p.den⟩:=by unfold fR cross sub toV ev lin;grind
 rw[e1,e1,e2]
def iF(e:S)(p q:P3):Prop:=∃x y s t:Int,0<=x/\0<=y/\0<x+y/\0<=s/\0<=t/\cmb x (pt e.a) y (pt e.b)=cmb s p t q
section
variable {u v:V} {p q:P3}
theorem gc(u v:V)(p q:P3):cmb (ev (ln p q) (pt v)) (pt u) (-(ev (ln p q) (pt u))) (pt v)=cmb (-(ev (lin u v) q)) p (ev (lin u v) p) q:=by
 unfold cmb ev ln lin pt;simp only[P3.mk.injEq];refine⟨?_,?_,?_⟩<;>grind
theorem aE6(u v:V)(p q:P3):ev (ln p q) (pt v)*(u.y*p.d-p.y)-ev (ln p q) (pt u)*(v.y*p.d-p.y)=ev (lin u v) p*(q.y*p.d-p.y*q.d):=by
 unfold ev ln lin pt;grind
theorem aE5(u v:V)(p q:P3):ev (ln p q) (pt v)*(u.y*q.d-q.y)-ev (ln p q) (pt u)*(v.y*q.d-q.y)=ev (lin u v) q*(q.y*p.d-p.y*q.d):=by
 unfold ev ln lin pt;grind
theorem aE7(u v:V)(p q:P3):ev (ln p q) (pt v)-ev (ln p q) (pt u)=ev (lin u v) p*q.d-ev (lin u v) q*p.d:=by
 unfold ev ln lin pt;grind
theorem Qj(h1:0<=ev (lin u v) p)(h2:ev (lin u v) q<=0)(h3:0<=ev (ln p q) (pt v))(h4:ev (ln p q) (pt u)<=0)(h5:ev (ln p q) (pt u)<ev (ln p q) (pt v)):iF ⟨u,v⟩ p q:=
 ⟨_,_,_,_,h3,by omega,by omega,by omega,h1,gc u v p q⟩
theorem Yj(h1:ev (lin u v) p<=0)(h2:0<=ev (lin u v) q)(h3:ev (ln p q) (pt v)<=0)(h4:0<=ev (ln p q) (pt u))(h5:ev (ln p q) (pt v)<ev (ln p q) (pt u)):iF ⟨u,v⟩ p q:=by
 refine⟨-(ev (ln p q) (pt v)),ev (ln p q) (pt u),ev (lin u v) q,-(ev (lin u v) p),by omega,by omega,by omega,by omega,by omega,?_⟩
 have:=gc u v p q;unfold cmb at this|-;simp only[P3.mk.injEq]at this|-;refine⟨?_,?_,?_⟩<;>grind
def rgt(p q:P3)(w:V):Bool:=dn q w&& !dn p w&&decide (ev (ln p q) (pt w)<0)
theorem iF.swap{u v:V}{p q:P3}(h:iF ⟨u,v⟩ p q):iF ⟨v,u⟩ p q:=by
 obtain⟨x,y,s,t,h1,h2,h3,h4,h5,h6⟩:=h;refine⟨y,x,s,t,h2,h1,by omega,h4,h5,?_⟩
 rw[<-h6];unfold cmb;simp only[P3.mk.injEq];refine⟨?_,?_,?_⟩<;>omega
theorem iF.flip{e:S}{p q:P3}(h:iF e p q):iF e q p:=by
 obtain⟨x,y,s,t,h1,h2,h3,h4,h5,h6⟩:=h;refine⟨x,y,t,s,h1,h2,h3,h5,h4,?_⟩;rw[h6];unfold cmb;simp only[P3.mk.injEq];refine⟨?_,?_,?_⟩<;>omega
theorem nJ(u v:V)(p:P3):ev (lin v u) p= -ev (lin u v) p:=by unfold ev lin;grind
theorem low(hp:0<p.d)(hq:0<q.d)(hm:¬iF ⟨u,v⟩ p q)(a:u.y*p.d<=p.y)(b:p.y<v.y*p.d)(c:u.y*q.d<=q.y)(d:v.y*q.d<=q.y):
  0<ev (lin u v) p↔ev (ln p q) (pt v)<0:=by
 have i1:=aE6 u v p q;have i2:=aE5 u v p q;have i3:=aE7 u v p q;have hK:0<q.y*p.d-p.y*q.d:=by
  have e:q.y*p.d-p.y*q.d=(v.y*p.d-p.y)*q.d-(v.y*q.d-q.y)*p.d:=by grind
  have:=Int.mul_pos (show 0<v.y*p.d-p.y by omega) hq
  have:=mnp (show v.y*q.d-q.y<=0 by omega) (show 0<=p.d by omega)
  omega
 have m1:= @Qj u v p q;have m2:= @Yj u v p q;generalize ev (lin u v) p=A at*;generalize ev (lin u v) q=B at*;generalize ev (ln p q) (pt u)=C at*;generalize ev (ln p q) (pt v)=D at*;generalize q.y*p.d-p.y*q.d=K at*;constructor
 ·intro hA;refine Classical.byContradiction fun hn=> ?_
  have hDn:0<=D:=by omega
  have s1:=mpn hDn (show u.y*p.d-p.y<=0 by omega)
  have s2:=Int.mul_pos hA hK;have s3:0<=(-C)*(v.y*p.d-p.y):=by rw[Int.neg_mul];omega
  have hCn:C<=0:=by have:=nnl (show 0<v.y*p.d-p.y by omega) s3;omega
  have s4:=mpn hDn (show u.y*q.d-q.y<=0 by omega)
  have s5:=mnn hCn (show v.y*q.d-q.y<=0 by omega)
  have hBn:B<=0:=npl hK (by omega)
  have s6:=Int.mul_pos hA hq;have s7:=mnp hBn (show 0<=p.d by omega)
  exact hm (m1 (by omega) hBn hDn hCn (by omega))
 ·intro hDn;refine Classical.byContradiction fun hn=> ?_
  have hAn:A<=0:=by omega
  have s1:=mnn (show D<=0 by omega) (show u.y*p.d-p.y<=0 by omega)
  have s2:=mnp hAn (show 0<=K by omega)
  have hCn:0<=C:=nnl (show 0<v.y*p.d-p.y by omega) (by omega)
  have s4:=mnn (show D<=0 by omega) (show u.y*q.d-q.y<=0 by omega)
  have s5:=mpn hCn (show v.y*q.d-q.y<=0 by omega)
  have hBn:0<=B:=nnl hK (by omega)
  exact hm (m2 hAn hBn (by omega) hCn (by omega))
theorem aL4(hp:0<p.d)(hq:0<q.d)(hm:¬iF ⟨u,v⟩ p q)(a:p.y<u.y*p.d)(b:p.y<v.y*p.d)(c:u.y*q.d<=q.y)(d:q.y<v.y*q.d):
  0<ev (lin u v) q↔ev (ln p q) (pt u)<0:=by
 have i1:=aE6 u v p q;have i2:=aE5 u v p q;have i3:=aE7 u v p q;have hK:0<q.y*p.d-p.y*q.d:=by
  have e:q.y*p.d-p.y*q.d=(u.y*p.d-p.y)*q.d-(u.y*q.d-q.y)*p.d:=by grind
  have:=Int.mul_pos (show 0<u.y*p.d-p.y by omega) hq
  have:=mnp (show u.y*q.d-q.y<=0 by omega) (show 0<=p.d by omega)
  omega
 have m1:= @Qj u v p q;have m2:= @Yj u v p q;generalize ev (lin u v) p=A at*;generalize ev (lin u v) q=B at*;generalize ev (ln p q) (pt u)=C at*;generalize ev (ln p q) (pt v)=D at*;generalize q.y*p.d-p.y*q.d=K at*;constructor
 ·intro hB;refine Classical.byContradiction fun hn=> ?_
  have hC:0<=C:=by omega
  have s1:=Int.mul_pos hB hK;have s2:=mpp hC (show 0<=v.y*q.d-q.y by omega)
  have s3:0<D*(u.y*q.d-q.y):=by omega
  have hD:D<0:=by
   rcases Int.lt_or_le D 0 with g|g
   ·exact g
   ·have:=mpn g (show u.y*q.d-q.y<=0 by omega);omega
  have s4:=mnp (show D<=0 by omega) (show 0<=u.y*p.d-p.y by omega)
  have s5:=mpp hC (show 0<=v.y*p.d-p.y by omega)
  have hA:A<=0:=npl hK (by omega)
  exact hm (m2 hA (by omega) (by omega) hC (by omega))
 ·intro hC;refine Classical.byContradiction fun hn=> ?_
  have hB:B<=0:=by omega
  have s1:=mnp hB (show 0<=K by omega)
  have s2:=mnp (show C<=0 by omega) (show 0<=v.y*q.d-q.y by omega)
  have s3:=Int.mul_neg_of_neg_of_pos hC (show 0<v.y*q.d-q.y by omega)
  have hD:0<D:=by
   rcases Int.lt_or_le 0 D with g|g
   ·exact g
   ·have:=mnn g (show u.y*q.d-q.y<=0 by omega);omega
  have s4:=mpp (show 0<=D by omega) (show 0<=u.y*p.d-p.y by omega)
  have s5:=mnp (show C<=0 by omega) (show 0<=v.y*p.d-p.y by omega)
  have hA:0<=A:=nnl hK (by omega)
  exact hm (m1 hA hB (by omega) (by omega) (by omega))
theorem mid(hp:0<p.d)(hq:0<q.d)(hm:¬iF ⟨u,v⟩ p q)(a:p.y<u.y*p.d)(b:p.y<v.y*p.d)(c:u.y*q.d<=q.y)(d:v.y*q.d<=q.y):
  ¬(ev (ln p q) (pt u)<0/\0<=ev (ln p q) (pt v)):=by
 rintro⟨hC,hD⟩;have i1:=aE6 u v p q;have i2:=aE5 u v p q;have hK:0<q.y*p.d-p.y*q.d:=by
  have e:q.y*p.d-p.y*q.d=(u.y*p.d-p.y)*q.d-(u.y*q.d-q.y)*p.d:=by grind
  have:=Int.mul_pos (show 0<u.y*p.d-p.y by omega) hq
  have:=mnp (show u.y*q.d-q.y<=0 by omega) (show 0<=p.d by omega)
  omega
 have m1:= @Qj u v p q;generalize ev (lin u v) p=A at*;generalize ev (lin u v) q=B at*;generalize ev (ln p q) (pt u)=C at*;generalize ev (ln p q) (pt v)=D at*;generalize q.y*p.d-p.y*q.d=K at*;have s1:=mpp hD (show 0<=u.y*p.d-p.y by omega)
 have s2:=mnp (show C<=0 by omega) (show 0<=v.y*p.d-p.y by omega)
 have hA:0<=A:=nnl hK (by omega)
 have s3:=mpn hD (show u.y*q.d-q.y<=0 by omega)
 have s4:=mnn (show C<=0 by omega) (show v.y*q.d-q.y<=0 by omega)
 have hB:B<=0:=npl hK (by omega)
 exact hm (m1 hA hB hD (by omega) (by omega))
theorem aJ6(hp:0<p.d)(hq:0<q.d)(hm:¬iF ⟨u,v⟩ p q)(a:u.y*p.d<=p.y)(b:p.y<v.y*p.d)(c:u.y*q.d<=q.y)(d:q.y<v.y*q.d):
  (0<ev (lin u v) p↔0<ev (lin u v) q):=by
 have i3:=gc u v p q;have i1:=aE6 u v p q;have i2:=aE5 u v p q;have j1:ev (lin u v) p*(q.y-u.y*q.d)-ev (lin u v) q*(p.y-u.y*p.d)= -(ev (ln p q) (pt u))*(v.y-u.y):=by unfold ev ln lin pt;grind
 have j2:ev (lin u v) p*(q.y-v.y*q.d)-ev (lin u v) q*(p.y-v.y*p.d)= -(ev (ln p q) (pt v))*(v.y-u.y):=by unfold ev ln lin pt;grind
 have hv:0<v.y-u.y:=by
  have h1:0<(v.y-u.y)*p.d:=by rw[Int.sub_mul];omega
  rcases Int.lt_or_le 0 (v.y-u.y)with g|g
  ·exact g
  ·have:=mnp g (show 0<=p.d by omega);omega
 have i4:=aE7 u v p q;have m1:= @Qj u v p q;have m2:= @Yj u v p q;generalize ev (lin u v) p=A at*;generalize ev (lin u v) q=B at*;generalize ev (ln p q) (pt u)=C at*;generalize ev (ln p q) (pt v)=D at*;constructor
 ·intro hA;refine Classical.byContradiction fun hn=> ?_
  have hB:B<=0:=by omega
  have s1:=mpp (show 0<=A by omega) (show 0<=q.y-u.y*q.d by omega)
  have s2:=mnp hB (show 0<=p.y-u.y*p.d by omega)
  have hC:0<= -C:=nnl hv (by omega)
  have s3:=Int.mul_neg_of_pos_of_neg hA (show q.y-v.y*q.d<0 by omega)
  have s4:=mnn hB (show p.y-v.y*p.d<=0 by omega)
  have hD:0<=D:=nnl hv (by rw[Int.neg_mul]at j2;omega)
  have s6:=Int.mul_pos hA hq;have s7:=mnp hB (show 0<=p.d by omega)
  exact hm (m1 (by omega) hB hD (by omega) (by omega))
 ·intro hB;refine Classical.byContradiction fun hn=> ?_
  have hA:A<=0:=by omega
  have s1:=mnp hA (show 0<=q.y-u.y*q.d by omega)
  have s2:=mpp (show 0<=B by omega) (show 0<=p.y-u.y*p.d by omega)
  have hC:0<=C:=nnl hv (by rw[Int.neg_mul]at j1;omega)
  have s3:=mnn hA (show q.y-v.y*q.d<=0 by omega)
  have s4:=Int.mul_neg_of_pos_of_neg hB (show p.y-v.y*p.d<0 by omega)
  have hD:0<= -D:=nnl hv (by omega)
  have s6:=Int.mul_pos hB hp;have s7:=mnp hA (show 0<=q.d by omega)
  exact hm (m2 hA (by omega) (by omega) hC (by omega))
theorem aFD{r:P3}(hr:0<r.d)(h0:ev (lin u v) r=0)(h:dn r u≠dn r v):∃x y k:Int,0<=x/\0<=y/\0<x+y/\0<=k/\cmb x (pt u) y (pt v)=⟨k*r.x,k*r.y,k*r.d⟩:=by
 unfold dn at h;have hk:∀{a b:Int},a*r.d<b*r.d->0<=b-a:=fun{a b} g=>by
  have:=nnl (a:=b-a) hr (by rw[Int.sub_mul];omega);exact this
 unfold ev lin at h0;by_cases h1:u.y*r.d<=r.y<;>by_cases h2:v.y*r.d<=r.y
 ·simp[h1,h2]at h
 ·refine⟨v.y*r.d-r.y,r.y-u.y*r.d,v.y-u.y,by omega,by omega,by omega,hk (by omega),?_⟩
  unfold cmb pt;simp only[P3.mk.injEq];refine⟨?_,?_,?_⟩<;>grind
 ·refine⟨r.y-v.y*r.d,u.y*r.d-r.y,u.y-v.y,by omega,by omega,by omega,hk (by omega),?_⟩
  unfold cmb pt;simp only[P3.mk.injEq];refine⟨?_,?_,?_⟩<;>grind
 ·simp[h1,h2]at h
theorem aDS(hp:0<p.d)(hq:0<q.d)(hy:p.y*q.d<=q.y*p.d)(hm:¬iF ⟨u,v⟩ p q):(hit p ⟨u,v⟩ !=hit q ⟨u,v⟩)=(rgt p q u !=rgt p q v):=by
 have mono:∀w:V,dn p w=true->dn q w=true:=fun w h=>by
  unfold dn at h|-;rw[decide_eq_true_eq]at h|-;have h1:=Int.mul_le_mul_of_nonneg_right h (show 0<=q.d by omega)
  have h2:(w.y*q.d)*p.d<=q.y*p.d:=by rw[show w.y*q.d*p.d=w.y*p.d*q.d by grind];omega
  exact Int.le_of_mul_le_mul_right h2 hp
 have hm':¬iF ⟨v,u⟩ p q:=fun h=>hm h.swap
 have dT:∀{r:P3} {w:V},dn r w=true->w.y*r.d<=r.y:=fun h=>of_decide_eq_true h
 have dF:∀{r:P3} {w:V},dn r w=false->r.y<w.y*r.d:=fun h=>Int.not_le.1 (of_decide_eq_false h)
 have sw:∀r:P3,(0<ev (lin v u) r↔ev (lin u v) r<0):=fun r=>by rw[nJ];omega
 have nz:∀r:P3,(r=p\/r=q)->dn r u≠dn r v->ev (lin u v) r≠0:=fun r hr hne h0=>by
  obtain⟨x,y,k,h1,h2,h3,h4,h5⟩:=aFD (by rcases hr with rfl|rfl<;>assumption) h0 hne
  rcases hr with rfl|rfl
  ·exact hm ⟨x,y,k,0,h1,h2,h3,h4,Int.le_refl _,by rw[h5];unfold cmb;simp⟩
  ·exact hm ⟨x,y,0,k,h1,h2,h3,Int.le_refl _,h4,by rw[h5];unfold cmb;simp⟩
 unfold hit rgt;dsimp only;cases a:dn p u<;>cases b:dn p v<;>cases c:dn q u<;>cases d:dn q v<;>simp only[Bool.and_true,Bool.and_false,Bool.true_and,Bool.false_and,bne_self_eq_false,Bool.not_true,Bool.not_false,Bool.false_bne,Bool.bne_false,Bool.bne_true];all_goals have np:=nz p (.inl rfl)
 all_goals have nq:=nz q (.inr rfl)
 all_goals rw[a,b]at np
 all_goals rw[c,d]at nq
 all_goals have sp:=sw p
 all_goals have sq:=sw q
 case false.false.false.true=>
  have h:=aL4 hp hq hm' (dF b) (dF a) (dT d) (dF c);have nq:=nq (by simp)
  by_cases x:0<ev (lin u v) q<;>by_cases y:ev (ln p q) (pt v)<0<;>simp[x,y] <;>omega
 case false.false.true.false=>
  have h:=aL4 hp hq hm (dF a) (dF b) (dT c) (dF d);by_cases x:0<ev (lin u v) q<;>by_cases y:ev (ln p q) (pt u)<0<;>simp[x,y] <;>omega
 case false.false.true.true=>
  have h:=mid hp hq hm (dF a) (dF b) (dT c) (dT d);have h':=mid hp hq hm' (dF b) (dF a) (dT d) (dT c);by_cases x:ev (ln p q) (pt u)<0<;>by_cases y:ev (ln p q) (pt v)<0<;>simp[x,y] <;>omega
 case false.true.false.true=>
  have h:=aJ6 hp hq hm' (dT b) (dF a) (dT d) (dF c);have np:=np (by simp)
  have nq:=nq (by simp)
  by_cases x:0<ev (lin u v) p<;>by_cases y:0<ev (lin u v) q<;>simp[x,y] <;>omega
 case true.false.true.false=>
  have h:=aJ6 hp hq hm (dT a) (dF b) (dT c) (dF d);by_cases x:0<ev (lin u v) p<;>by_cases y:0<ev (lin u v) q<;>simp[x,y] <;>omega
 case false.true.true.true=>
  have h:=low hp hq hm' (dT b) (dF a) (dT d) (dT c);have np:=np (by simp)
  by_cases x:0<ev (lin u v) p<;>by_cases y:ev (ln p q) (pt u)<0<;>simp[x,y] <;>omega
 case true.false.true.true=>
  have h:=low hp hq hm (dT a) (dF b) (dT c) (dT d);by_cases x:0<ev (lin u v) p<;>by_cases y:ev (ln p q) (pt v)<0<;>simp[x,y] <;>omega
 case false.true.false.false=>have:=mono v b;rw[d]at this;cases this
 case false.true.true.false=>have:=mono v b;rw[d]at this;cases this
 case true.false.false.false=>have:=mono u a;rw[c]at this;cases this
 case true.false.false.true=>have:=mono u a;rw[c]at this;cases this
 case true.true.false.true=>have:=mono u a;rw[c]at this;cases this
 case true.true.true.false=>have:=mono v b;rw[d]at this;cases this
theorem Mc{e:S}(hp:0<p.d)(hq:0<q.d)(hy:p.y*q.d<=q.y*p.d)(hm:¬iF e p q):(hit p e !=hit q e)=(rgt p q e.a !=rgt p q e.b):=aDS hp hq hy hm
end
def eK(r:aD)(p:P3):Bool:=jJ ((edges r).map (hit p))
theorem xD(f g:S->Bool):∀l:List S,jJ (l.map fun e=>f e !=g e)=(jJ (l.map f) !=jJ (l.map g))
 |[] =>rfl
 |e::l=>by
  show((f e !=g e) !=jJ (l.map fun e=>f e !=g e))=((f e !=jJ (l.map f)) !=(g e !=jJ (l.map g)))
  rw[xD f g l];cases f e<;>cases g e<;>cases jJ (l.map f)<;>cases jJ (l.map g)<;>rfl
theorem sV{r:aD}(h2:2<=r.length){p q:P3}(hp:0<p.d)(hq:0<q.d)(hm:∀e∈edges r,¬iF e p q):eK r p=eK r q:=by
 have key:∀{p q:P3},0<p.d->0<q.d->p.y*q.d<=q.y*p.d->(∀e∈edges r,¬iF e p q)->eK r p=eK r q:=by
  intro p q hp hq hy hm;have h1:jJ ((edges r).map fun e=>hit p e !=hit q e)=jJ ((edges r).map fun e=>rgt p q e.a !=rgt p q e.b):=by
   congr 1
   apply List.map_congr_left;intro e he;exact Mc hp hq hy (hm e he)
  rw[xD,xD,Gj h2]at h1;unfold eK;generalize jJ ((edges r).map (hit p))=x at*;generalize jJ ((edges r).map (hit q))=y at*;cases x<;>cases y<;>simp at h1|-
 rcases Int.le_total (p.y*q.d) (q.y*p.d)with h|h
 ·exact key hp hq h hm
 ·exact(key hq hp h fun e he hm2=>hm e he hm2.flip).symm
theorem Rv(p:Pt):∀(l:List S) (ins:Bool),Mu p l ins=(ins !=jJ (l.map fun e=>hU e p))
 |[],ins=>by cases ins<;>rfl
 |e::l,ins=>by
  show Mu p l (ins !=hU e p)=(ins !=(hU e p !=jJ (l.map fun e=>hU e p)))
  rw[Rv p l];cases ins<;>cases hU e p<;>cases jJ (l.map fun e=>hU e p)<;>rfl
theorem Zi{p:Pt}:∀{l:List S} {ins:Bool},(∀e∈l,onP e p=false)->fH p l ins=if Mu p l ins then 2 else 0
 |[],ins,_=>rfl
 |e::l,ins,h=>by
  unfold fH;rw[h e List.mem_cons_self];exact Zi (l:=l) (ins:=ins !=hU e p) fun e he=>h e (List.mem_cons_of_mem _ he)
def p3(p:Pt):P3:=⟨p.x,p.y,p.den⟩
theorem xN{r:aD}(hv:VR r){p:Pt}(hp:cL p=true)(ho:∀e∈edges r,onP e p=false):bH r p=if eK r (p3 p)then 2 else 0:=by
 unfold bH;rw[(cS _).2 hv,hp];show fH p (edges r) false=_;rw[Zi ho,Rv];unfold eK p3;simp only[aDU,Bool.false_bne]
end Go.Proofs.YtdaeofhdgabhjaaGreat.Geo
namespace Go.Proofs.YtdaeofhdgabhjaaGreat.Geo
theorem vR(h p:P3):ev ⟨-h.x,-h.y,-h.d⟩ p= -ev h p:=by unfold ev;grind
theorem Nj(k c:Int)(h p:P3):ev ⟨k*h.x,k*h.y,k*h.d+c⟩ p=k*ev h p+c*p.d:=by unfold ev;grind
theorem Rg{u v:V}{p q:P3}(hp:0<p.d)(hq:0<q.d)(h:P3)(hu:ev h (pt u)=0)(hv:ev h (pt v)=0)(h1:ev h p<0)(h2:ev h q<0):∃f:P3,ev f p<0/\ev f q<0/\0<ev f (pt u)/\0<ev f (pt v):=by
 refine⟨⟨(p.d+q.d)*h.x,(p.d+q.d)*h.y,(p.d+q.d)*h.d+1⟩,?_,?_,?_,?_⟩<;>rw[Nj]
 ·have:=Int.mul_le_mul_of_nonneg_left (show ev h p<= -1 by omega) (show 0<=p.d+q.d by omega);omega
 ·have:=Int.mul_le_mul_of_nonneg_left (show ev h q<= -1 by omega) (show 0<=p.d+q.d by omega);omega
 ·rw[hu];show 0<(p.d+q.d)*0+1*1;omega
 ·rw[hv];show 0<(p.d+q.d)*0+1*1;omega
theorem Zg{u v:V}{p q:P3}(hp:0<p.d)(hq:0<q.d)(h:P3)(h1:ev h p=0)(h2:ev h q=0)(hu:0<ev h (pt u))(hv:0<ev h (pt v)):∃f:P3,ev f p<0/\ev f q<0/\0<ev f (pt u)/\0<ev f (pt v):=by
 refine⟨⟨2*h.x,2*h.y,2*h.d+ -1⟩,?_,?_,?_,?_⟩<;>rw[Nj]
 ·rw[h1];omega
 ·rw[h2];omega
 ·show 0<2*ev h (pt u)+ -1*1;omega
 ·show 0<2*ev h (pt v)+ -1*1;omega
def bB(u v:V):P3:=⟨v.x-u.x,v.y-u.y,-((v.x-u.x)*u.x+(v.y-u.y)*u.y)⟩
def eL(u v:V):Int:=(v.x-u.x)*(v.x-u.x)+(v.y-u.y)*(v.y-u.y)
theorem iY(u v:V):ev (bB u v) (pt u)=0:=by unfold ev bB pt;grind
theorem oL(u v:V):ev (bB u v) (pt v)=eL u v:=by unfold ev bB pt eL;grind
theorem xP(x:Int):0<=x*x:=by
 rcases Int.le_total 0 x with h|h
 ·exact mpp h h
 ·exact mnn h h
theorem Na{x:Int}(h:x≠0):0<x*x:=by
 rcases Int.lt_or_gt_of_ne h with g|g
 ·exact Int.mul_pos_of_neg_of_neg g g
 ·exact Int.mul_pos g g
theorem fO{u v:V}(h:u≠v):0<eL u v:=by
 unfold eL;have h1:=xP (v.x-u.x);have h2:=xP (v.y-u.y);by_cases hx:v.x-u.x=0
 ·by_cases hy:v.y-u.y=0
  ·exfalso;apply h;cases u;cases v;simp only[V.mk.injEq]at*;omega
  ·have:=Na hy;omega
 ·have:=Na hx;omega
theorem kC{u v:V}{r:P3}(h:ev (lin u v) r=0):cmb (eL u v*r.d-ev (bB u v) r) (pt u) (ev (bB u v) r) (pt v)=⟨eL u v*r.x,eL u v*r.y,eL u v*r.d⟩:=by
 unfold ev lin at h;unfold cmb ev bB pt eL;simp only[P3.mk.injEq];refine⟨?_,?_,?_⟩<;>grind
theorem sep{u v:V}{p q:P3}(hp:0<p.d)(hq:0<q.d)(hne:u≠v)(hm:¬iF ⟨u,v⟩ p q):∃f:P3,ev f p<0/\ev f q<0/\0<ev f (pt u)/\0<ev f (pt v):=by
 have hd:=aE7 u v p q;have m1:= @Qj u v p q;have m2:= @Yj u v p q;have a1:=bG u v;have a2:=bQ u v;have b1:=Om p q;have b2:=Fe p q;have L:=fO hne;have T1:=iY u v;have T2:=oL u v;by_cases c1:0<ev (lin u v) p/\0<ev (lin u v) q
 ·exact Rg hp hq ⟨-(lin u v).x,-(lin u v).y,-(lin u v).d⟩ (by rw[vR];omega) (by rw[vR];omega) (by rw[vR];omega) (by rw[vR];omega)
 by_cases c2:ev (lin u v) p<0/\ev (lin u v) q<0
 ·exact Rg hp hq (lin u v) a1 a2 c2.1 c2.2
 by_cases c3:0<ev (ln p q) (pt u)/\0<ev (ln p q) (pt v)
 ·exact Zg hp hq (ln p q) b1 b2 c3.1 c3.2
 by_cases c4:ev (ln p q) (pt u)<0/\ev (ln p q) (pt v)<0
 ·exact Zg hp hq ⟨-(ln p q).x,-(ln p q).y,-(ln p q).d⟩ (by rw[vR];omega) (by rw[vR];omega) (by rw[vR];omega) (by rw[vR];omega)
 have hz:ev (lin u v) p=0/\ev (lin u v) q=0:=by
  have q1:ev (lin u v) p=0\/0<ev (lin u v) p\/ev (lin u v) p<0:=by omega
  have q2:ev (lin u v) q=0\/0<ev (lin u v) q\/ev (lin u v) q<0:=by omega
  have e1:∀{x k:Int},0<k->0<x->0<x*k:=fun h1 h2=>Int.mul_pos h2 h1
  have e2:∀{x k:Int},0<k->x<0->x*k<0:=fun h1 h2=>Int.mul_neg_of_neg_of_pos h2 h1
  have p1:= @e1 (ev (lin u v) p) q.d hq;have p2:= @e2 (ev (lin u v) p) q.d hq;have p3:= @e1 (ev (lin u v) q) p.d hp;have p4:= @e2 (ev (lin u v) q) p.d hp;have z1:ev (lin u v) p=0->ev (lin u v) p*q.d=0:=fun h=>by rw[h,Int.zero_mul]
  have z2:ev (lin u v) q=0->ev (lin u v) q*p.d=0:=fun h=>by rw[h,Int.zero_mul]
  have m1:0<=ev (lin u v) p->ev (lin u v) q<=0->0<=ev (ln p q) (pt v)->ev (ln p q) (pt u)<=0->¬ev (ln p q) (pt u)<ev (ln p q) (pt v):=fun x1 x2 x3 x4 x5=>hm (m1 x1 x2 x3 x4 x5)
  have m2:ev (lin u v) p<=0->0<=ev (lin u v) q->ev (ln p q) (pt v)<=0->0<=ev (ln p q) (pt u)->¬ev (ln p q) (pt v)<ev (ln p q) (pt u):=fun x1 x2 x3 x4 x5=>hm (m2 x1 x2 x3 x4 x5)
  generalize ev (lin u v) p*q.d=AQ at*;generalize ev (lin u v) q*p.d=BP at*;rcases q1 with h|h|h<;>rcases q2 with g|g|g<;>simp only[h,g,true_implies]at p1 p2 p3 p4 z1 z2<;>omega
 have op:=kC hz.1;have oq:=kC hz.2;generalize hTp:ev (bB u v) p=Tp at*;generalize hTq:ev (bB u v) q=Tq at*;generalize eL u v=K at*;have np:Tp<0\/K*p.d<Tp:=by
  refine Classical.byContradiction fun hn=> ?_
  have hKp:=Int.mul_pos L hp;refine hm ⟨_,_,K,0,show 0<=K*p.d-Tp by omega,show 0<=Tp by omega,by omega,by omega,by omega,?_⟩
  rw[op];unfold cmb;simp only[P3.mk.injEq];refine⟨?_,?_,?_⟩<;>omega
 have nq:Tq<0\/K*q.d<Tq:=by
  refine Classical.byContradiction fun hn=> ?_
  have hKq:=Int.mul_pos L hq;refine hm ⟨_,_,0,K,show 0<=K*q.d-Tq by omega,show 0<=Tq by omega,by omega,by omega,by omega,?_⟩
  rw[oq];unfold cmb;simp only[P3.mk.injEq];refine⟨?_,?_,?_⟩<;>omega
 have hKp:=Int.mul_pos L hp;have hKq:=Int.mul_pos L hq;have nu:¬(Tp<0/\0<Tq)/\¬(0<Tp/\Tq<0):=by
  unfold cmb pt at op oq;simp only[P3.mk.injEq]at op oq;refine⟨fun h=> ?_,fun h=> ?_⟩
  ·have x1:=Int.mul_pos h.2 hKp;have x2:=Int.mul_neg_of_neg_of_pos h.1 hKq;refine hm ⟨Tq*(K*p.d)-Tp*(K*q.d),0,K*Tq,-(K*Tp),by omega,by omega,by omega,mpp (by omega) (by omega),by rw[<-Int.mul_neg];exact mpp (by omega) (by omega),?_⟩
   unfold cmb pt;simp only[P3.mk.injEq];refine⟨?_,?_,?_⟩<;>grind
  ·have x1:=Int.mul_pos h.1 hKq;have x2:=Int.mul_neg_of_neg_of_pos h.2 hKp;refine hm ⟨Tp*(K*q.d)-Tq*(K*p.d),0,-(K*Tq),K*Tp,by omega,by omega,by omega,by rw[<-Int.mul_neg];exact mpp (by omega) (by omega),mpp (by omega) (by omega),?_⟩
   unfold cmb pt;simp only[P3.mk.injEq];refine⟨?_,?_,?_⟩<;>grind
 have up:0<(p.d+q.d)*K:=Int.mul_pos (by omega) L
 by_cases hb:Tp<0
 ·refine⟨⟨(p.d+q.d)*(bB u v).x,(p.d+q.d)*(bB u v).y,(p.d+q.d)*(bB u v).d+1⟩,?_,?_,?_,?_⟩<;>rw[Nj]
  ·rw[hTp];have:=Int.mul_le_mul_of_nonneg_left (show Tp<= -1 by omega) (show 0<=p.d+q.d by omega);omega
  ·rw[hTq];have:=Int.mul_le_mul_of_nonneg_left (show Tq<= -1 by omega) (show 0<=p.d+q.d by omega);omega
  ·rw[T1];show 0<(p.d+q.d)*0+1*1;omega
  ·rw[T2];show 0<(p.d+q.d)*K+1*1;omega
 ·have e1:∀r T:Int,(-(p.d+q.d))*T+((p.d+q.d)*K+1)*r=(p.d+q.d)*(K*r-T)+r:=fun r T=>by grind
  refine⟨⟨-(p.d+q.d)*(bB u v).x,-(p.d+q.d)*(bB u v).y,-(p.d+q.d)*(bB u v).d+((p.d+q.d)*K+1)⟩,?_,?_,?_,?_⟩<;>rw[Nj]
  ·rw[hTp,e1];have:=Int.mul_le_mul_of_nonneg_left (show K*p.d-Tp<= -1 by omega) (show 0<=p.d+q.d by omega);omega
  ·rw[hTq,e1];have:=Int.mul_le_mul_of_nonneg_left (show K*q.d-Tq<= -1 by omega) (show 0<=p.d+q.d by omega);omega
  ·rw[T1,e1];show 0<(p.d+q.d)*(K*1-0)+1;rw[Int.mul_one,Int.sub_zero];omega
  ·rw[T2,e1];show 0<(p.d+q.d)*(K*1-K)+1;rw[Int.mul_one,Int.sub_self,Int.mul_zero];omega
def iU(F:List P3)(e:S):Prop:=∀x y:Int,0<=x->0<=y->0<x+y->∃f∈F,x*ev f (pt e.a)+y*ev f (pt e.b)<=0
def In(F:List P3)(q:P3):Prop:=0<q.d/\∀f∈F,0<ev f q
theorem iU.no{F:List P3}{e:S}(h:iU F e){p q:P3}(hp:In F p)(hq:In F q):¬iF e p q:=by
 rintro⟨x,y,s,t,h1,h2,h3,h4,h5,h6⟩;obtain⟨f,hf,g⟩:=h x y h1 h2 h3;have e1:=congrArg (ev f) h6;rw[aK,aK]at e1;have e2:=congrArg P3.d h6;simp only[cmb,pt]at e2;have g1:=mpp h4 (show 0<=ev f p by have:=hp.2 f hf;omega)
 have g2:=mpp h5 (show 0<=ev f q by have:=hq.2 f hf;omega)
 rcases Int.lt_or_le 0 s with k|k
 ·have:=Int.mul_pos k (hp.2 f hf);omega
 ·rcases Int.lt_or_le 0 t with k2|k2
  ·have:=Int.mul_pos k2 (hq.2 f hf);omega
  ·have:s=0:=by omega
   have:t=0:=by omega
   subst s t;omega
theorem iU.swap{F:List P3}{e:S}(h:iU F e):iU F ⟨e.b,e.a⟩:=fun x y h1 h2 h3=>by
 obtain⟨f,hf,g⟩:=h y x h2 h1 (by omega)
 exact⟨f,hf,by show x*ev f (pt e.b)+y*ev f (pt e.a)<=0;omega⟩
def uY(a b:V)(N:Int):P3:=⟨(bB a b).x-N*(lin a b).x,(bB a b).y-N*(lin a b).y,(bB a b).d-N*(lin a b).d⟩
def thin(a b:V)(N:Int):List P3:=[lin a b,uY a b N,⟨(bB b a).x-N*(lin a b).x,(bB b a).y-N*(lin a b).y,(bB b a).d-N*(lin a b).d⟩]
theorem jF(a b:V)(N:Int)(q:P3):ev (uY a b N) q=ev (bB a b) q-N*ev (lin a b) q:=by unfold ev uY;grind
theorem mF(a b:V)(N:Int)(q:P3):ev ⟨(bB b a).x-N*(lin a b).x,(bB b a).y-N*(lin a b).y,(bB b a).d-N*(lin a b).d⟩ q=ev (bB b a) q-N*ev (lin a b) q:=by unfold ev;grind
theorem lS{a b:V}{N:Int}{q:P3}:In (thin a b N) q↔0<q.d/\0<ev (lin a b) q/\N*ev (lin a b) q<ev (bB a b) q/\N*ev (lin a b) q<ev (bB b a) q:=by
 unfold In thin;simp only[List.mem_cons,List.not_mem_nil,or_false,forall_eq_or_imp,forall_eq,jF,mF];omega
def Off(a b:V)(e:S):Prop:=e.a≠e.b/\(¬iF e (pt a) (pt b)\/(e.a=a/\(ev (lin a b) (pt e.b)≠0\/ev (bB a b) (pt e.b)<0))\/(e.b=a/\(ev (lin a b) (pt e.a)≠0\/ev (bB a b) (pt e.a)<0))\/
 (e.a=b/\(ev (lin a b) (pt e.b)≠0\/ev (bB b a) (pt e.b)<0))\/(e.b=b/\(ev (lin a b) (pt e.a)≠0\/ev (bB b a) (pt e.a)<0)))
theorem frame(a b:V)(f q:P3):eL a b*ev f q=ev (bB b a) q*ev f (pt a)+ev (bB a b) q*ev f (pt b)+ev (lin a b) q*(f.y*(b.x-a.x)-f.x*(b.y-a.y)):=by
 unfold ev bB eL lin pt;grind
theorem Oj{F:List P3}{e:S}(h:∀x y:Int,0<=x->0<=y->0<x+y->(∀f∈F,0<x*ev f (pt e.a)+y*ev f (pt e.b))->False):iU F e:=fun x y h1 h2 h3=>
 Classical.byContradiction fun hn=>h x y h1 h2 h3 fun f hf=>Classical.byContradiction fun g=>hn ⟨f,hf,by omega⟩
theorem aDa{a b:V}(hne:a≠b){e:S}(he:e.a≠e.b)(h:¬iF e (pt a) (pt b)):∃N0:Int,∀N,N0<=N->iU (thin a b N) e:=by
 obtain⟨f,f1,f2,f3,f4⟩:=sep (u:=e.a) (v:=e.b) (p:=pt a) (q:=pt b) (show(0:Int)<1 by decide) (show(0:Int)<1 by decide) he h
 refine⟨(f.y*(b.x-a.x)-f.x*(b.y-a.y)).natAbs,fun N hN=>Oj fun x y h1 h2 h3 hq=> ?_⟩
 have hL:=fO hne;have e1:∀g:P3,x*ev g (pt e.a)+y*ev g (pt e.b)=ev g (cmb x (pt e.a) y (pt e.b)):=fun g=>(aK _ _ _ _ _).symm
 have hfq:0<ev f (cmb x (pt e.a) y (pt e.b)):=by
  rw[<-e1];have g1:=mpp h1 (show 0<=ev f (pt e.a) by omega)
  have g2:=mpp h2 (show 0<=ev f (pt e.b) by omega)
  rcases Int.lt_or_le 0 x with k|k
  ·have:=Int.mul_pos k f3;omega
  ·have:=Int.mul_pos (show 0<y by omega) f4;omega
 have hT:In (thin a b N) (cmb x (pt e.a) y (pt e.b)):=⟨by simp only[cmb,pt];omega,fun g hg=>by rw[<-e1];exact hq g hg⟩
 obtain⟨_,t1,t2,t3⟩:=lS.1 hT;have hF:=frame a b f (cmb x (pt e.a) y (pt e.b));generalize ev f (cmb x (pt e.a) y (pt e.b))=Q at*;generalize ev (lin a b) (cmb x (pt e.a) y (pt e.b))=X at*;generalize ev (bB a b) (cmb x (pt e.a) y (pt e.b))=T at*;generalize ev (bB b a) (cmb x (pt e.a) y (pt e.b))=T' at*;generalize f.y*(b.x-a.x)-f.x*(b.y-a.y)=c at*;have p1:=Int.mul_pos hL hfq;have hN0:0<=N*X:=mpp (by omega) (by omega)
 have p2:T'*ev f (pt a)<= -T':=by have:=Int.mul_le_mul_of_nonneg_left (show ev f (pt a)<= -1 by omega) (show 0<=T' by omega);omega
 have p3:T*ev f (pt b)<= -T:=by have:=Int.mul_le_mul_of_nonneg_left (show ev f (pt b)<= -1 by omega) (show 0<=T by omega);omega
 have p4:X*c<=N*X:=by rw[Int.mul_comm N];exact Int.mul_le_mul_of_nonneg_left (by omega) (by omega)
 omega
theorem Ve{a b:V}{e:S}(h:e.a=a):∃N0:Int,∀N,N0<=N->iU (thin a b N) e:=by
 refine⟨(ev (bB a b) (pt e.b)).natAbs,fun N hN x y h1 h2 h3=> ?_⟩
 rw[h];by_cases hX:0<y*ev (lin a b) (pt e.b)
 ·refine⟨uY a b N,by simp[thin],?_⟩
  have hy:0<y:=by
   rcases Int.lt_or_le 0 y with k|k
   ·exact k
   ·have:y=0:=by omega
    subst y;omega
  have hv:0<ev (lin a b) (pt e.b):=by
   rcases Int.lt_or_le 0 (ev (lin a b) (pt e.b))with k|k
   ·exact k
   ·have:=mpn h2 k;omega
  rw[jF,jF,iY,bG];have k1:=Int.mul_le_mul_of_nonneg_left (show 1<=ev (lin a b) (pt e.b) by omega) (show 0<=N by omega)
  have k2:=mpn h2 (show ev (bB a b) (pt e.b)-N*ev (lin a b) (pt e.b)<=0 by omega)
  omega
 ·refine⟨lin a b,by simp[thin],?_⟩
  rw[bG];omega
theorem Vd{a b:V}{e:S}(h:e.a=b):∃N0:Int,∀N,N0<=N->iU (thin a b N) e:=by
 refine⟨(ev (bB b a) (pt e.b)).natAbs,fun N hN x y h1 h2 h3=> ?_⟩
 rw[h];by_cases hX:0<y*ev (lin a b) (pt e.b)
 ·refine⟨⟨(bB b a).x-N*(lin a b).x,(bB b a).y-N*(lin a b).y,(bB b a).d-N*(lin a b).d⟩,by simp[thin],?_⟩
  have hv:0<ev (lin a b) (pt e.b):=by
   rcases Int.lt_or_le 0 (ev (lin a b) (pt e.b))with k|k
   ·exact k
   ·have:=mpn h2 k;omega
  rw[mF,mF,iY,bQ];have k1:=Int.mul_le_mul_of_nonneg_left (show 1<=ev (lin a b) (pt e.b) by omega) (show 0<=N by omega)
  have k2:=mpn h2 (show ev (bB b a) (pt e.b)-N*ev (lin a b) (pt e.b)<=0 by omega)
  omega
 ·refine⟨lin a b,by simp[thin],?_⟩
  rw[bQ];omega
theorem aDb{a b:V}(hne:a≠b){e:S}(h:Off a b e\/(e.a=a/\e.b=b)\/(e.a=b/\e.b=a)):∃N0:Int,∀N,N0<=N->iU (thin a b N) e:=by
 have sw:(∃N0:Int,∀N,N0<=N->iU (thin a b N) ⟨e.b,e.a⟩)->∃N0:Int,∀N,N0<=N->iU (thin a b N) e:=fun⟨N0,h⟩=>⟨N0,fun N hN=>(h N hN).swap⟩
 rcases h with⟨h0,h|h|h|h|h⟩|h|h
 ·exact aDa hne h0 h
 ·exact Ve h.1
 ·exact sw (Ve (e:=⟨e.b,e.a⟩) h.1)
 ·exact Vd h.1
 ·exact sw (Vd (e:=⟨e.b,e.a⟩) h.1)
 ·exact Ve h.1
 ·exact Vd h.1
theorem Qu{a b:V}(hne:a≠b):∀{l:List S},(∀e∈l,Off a b e\/(e.a=a/\e.b=b)\/(e.a=b/\e.b=a))->∃N0:Int,1<=N0/\∀N,N0<=N->∀e∈l,iU (thin a b N) e
 |[],_=>⟨1,by omega,fun N _ e he=>by cases he⟩
 |e::l,h=>by
  obtain⟨N0,h0,h1⟩:=Qu hne (l:=l) fun e he=>h e (List.mem_cons_of_mem _ he)
  obtain⟨N1,h2⟩:=aDb hne (h e List.mem_cons_self);refine⟨max N0 N1,by omega,fun N hN e' he=> ?_⟩
  rcases List.mem_cons.1 he with rfl|he
  ·exact h2 N (by omega)
  ·exact h1 N (by omega) e' he
def cZ(a b:V)(M x y:Int):P3:=⟨M*(a.x+b.x)+x,M*(a.y+b.y)+y,2*M⟩
theorem zO(a b:V)(M x y:Int):ev (lin a b) (cZ a b M x y)=(b.x-a.x)*y-(b.y-a.y)*x:=by unfold ev lin cZ;grind
theorem aEe(a b:V)(M x y:Int):ev (bB a b) (cZ a b M x y)=M*eL a b+((b.x-a.x)*x+(b.y-a.y)*y):=by unfold ev bB cZ eL;grind
theorem aEd(a b:V)(M x y:Int):ev (bB b a) (cZ a b M x y)=M*eL a b-((b.x-a.x)*x+(b.y-a.y)*y):=by unfold ev bB cZ eL;grind
theorem xZ(a b:V):eL b a=eL a b:=by unfold eL;grind
theorem wU(a b:V)(M x y:Int):cZ b a M x y=cZ a b M x y:=by unfold cZ;simp only[P3.mk.injEq];refine⟨?_,?_,trivial⟩<;>grind
theorem kI{a b:V}(hne:a≠b){x y:Int}(h:0<(b.x-a.x)*y-(b.y-a.y)*x)(N:Int):∃M0:Int,1<=M0/\∀M,M0<=M->In (thin a b N) (cZ a b M x y):=by
 have hL:=fO hne;refine⟨1+(N*((b.x-a.x)*y-(b.y-a.y)*x)).natAbs+((b.x-a.x)*x+(b.y-a.y)*y).natAbs,by omega,fun M hM=> ?_⟩
 rw[lS,zO,aEe,aEd];have:=Int.mul_le_mul_of_nonneg_left (show 1<=eL a b by omega) (show 0<=M by omega)
 generalize N*((b.x-a.x)*y-(b.y-a.y)*x)=c at*;generalize (b.x-a.x)*x+(b.y-a.y)*y=d at*;refine⟨by show 0<2*M;omega,h,?_,?_⟩<;>omega
theorem Yq{g:S->Bool}{e:S}:∀{l:List S},l.Nodup->e∈l->g e=true->(∀e'∈l,e'≠e->g e'=false)->jJ (l.map g)=true
 |[],_,h,_,_=>by cases h
 |x::l,hn,h,h1,h2=>by
  rw[List.nodup_cons]at hn;have h0:∀{l:List S},(∀e'∈l,g e'=false)->jJ (l.map g)=false:=by
   intro l;induction l with
   |nil=>intro _;rfl
   |cons y l ih=>
    intro hh;show(g y !=jJ (l.map g))=false;rw[hh y List.mem_cons_self,ih fun z hz=>hh z (List.mem_cons_of_mem _ hz)];rfl
  show(g x !=jJ (l.map g))=true;rcases List.mem_cons.1 h with rfl|h
  ·rw[h1,h0 fun z hz=>h2 z (List.mem_cons_of_mem _ hz) fun e=>hn.1 (e▸hz)];rfl
  ·rw[h2 x List.mem_cons_self fun e'=>hn.1 (e'▸h),Yq hn.2 h h1 fun z hz=>h2 z (List.mem_cons_of_mem _ hz)];rfl
theorem aBK{a b:V}{N:Int}(hN:0<=N){e:S}(ho:Off a b e)(h1:iU (thin a b N) e)(h2:iU (thin b a N) e){p q:P3}(hp:In (thin b a N) p)(hq:In (thin a b N) q):¬iF e p q:=by
 rintro⟨x,y,s,t,hx,hy,hxy,hs,ht,he⟩;obtain⟨p0,p1,p2,p3⟩:=lS.1 hp;obtain⟨q0,q1,q2,q3⟩:=lS.1 hq;have lsw:∀r:P3,ev (lin b a) r= -ev (lin a b) r:=fun r=>nJ a b r
 rw[lsw]at p1 p2 p3;have ed:=congrArg P3.d he;simp only[cmb,pt]at ed;have eX:=congrArg (ev (lin a b)) he;have eA:=congrArg (ev (bB a b)) he;have eB:=congrArg (ev (bB b a)) he;rw[aK,aK]at eX eA eB;have hst:0<s\/0<t:=by
  refine Classical.byContradiction fun hn=> ?_
  have:s=0:=by omega
  have:t=0:=by omega
  subst s t;omega
 have kpos:∀{u v:Int},0<u->0<v->0<s*u+t*v:=fun{u v} hu hv=>by
  have g1:=mpp hs (show 0<=u by omega)
  have g2:=mpp ht (show 0<=v by omega)
  rcases hst with k|k
  ·have:=Int.mul_pos k hu;omega
  ·have:=Int.mul_pos k hv;omega
 have nX:N*(-(ev (lin a b) p))= -(N*ev (lin a b) p):=by rw[Int.mul_neg]
 have nn:0<=N* -(ev (lin a b) p):=mpp hN (by omega)
 have nq:0<=N*ev (lin a b) q:=mpp hN (by omega)
 have hA:=kpos (u:=ev (bB a b) p) (v:=ev (bB a b) q) (by omega) (by omega)
 have hB:=kpos (u:=ev (bB b a) p) (v:=ev (bB b a) q) (by omega) (by omega)
 have hA1:=kpos (u:=ev (bB a b) p-N*ev (lin a b) p) (v:=ev (bB a b) q-N*ev (lin a b) q) (by omega) (by omega)
 have hB1:=kpos (u:=ev (bB b a) p-N*ev (lin a b) p) (v:=ev (bB b a) q-N*ev (lin a b) q) (by omega) (by omega)
 have hA2:=kpos (u:=ev (bB a b) p+N*ev (lin a b) p) (v:=ev (bB a b) q+N*ev (lin a b) q) (by omega) (by omega)
 have hB2:=kpos (u:=ev (bB b a) p+N*ev (lin a b) p) (v:=ev (bB b a) q+N*ev (lin a b) q) (by omega) (by omega)
 have z1:∀(g:P3),x*ev g (pt e.a)+y*ev g (pt e.b)=s*ev g p+t*ev g q:=fun g=>by
  have:=congrArg (ev g) he;rw[aK,aK]at this;exact this
 rcases Int.lt_trichotomy (x*ev (lin a b) (pt e.a)+y*ev (lin a b) (pt e.b)) 0 with hX|hX|hX
 ·obtain⟨f,hf,g⟩:=h2 x y hx hy hxy;rw[z1]at g;simp only[thin,List.mem_cons,List.not_mem_nil,or_false]at hf;rcases hf with rfl|rfl|rfl
  ·rw[lsw,lsw,Int.mul_neg,Int.mul_neg]at g;omega
  ·rw[jF,jF,lsw,lsw,Int.mul_neg,Int.mul_neg,Int.sub_neg,Int.sub_neg]at g;omega
  ·rw[mF,mF,lsw,lsw,Int.mul_neg,Int.mul_neg,Int.sub_neg,Int.sub_neg]at g;omega
 ·rcases ho with⟨_,h|⟨h,g⟩|⟨h,g⟩|⟨h,g⟩|⟨h,g⟩⟩
  ·have hne:a≠b:=fun hab=>by
    subst hab;have:∀r:P3,ev (lin a a) r=0:=fun r=>by unfold ev lin;grind
    rw[this]at q1;omega
   have hL:=fO hne;have hz:ev (lin a b) (cmb x (pt e.a) y (pt e.b))=0:=by rw[aK];exact hX
   have oz:=kC hz;have hab:ev (bB b a) (cmb x (pt e.a) y (pt e.b))=eL a b*(cmb x (pt e.a) y (pt e.b)).d-ev (bB a b) (cmb x (pt e.a) y (pt e.b)):=by
    unfold ev bB eL;grind
   rw[aK,eB]at hab;rw[aK,eA]at oz hab;refine h ⟨eL a b*x,eL a b*y,eL a b*(cmb x (pt e.a) y (pt e.b)).d-(s*ev (bB a b) p+t*ev (bB a b) q),s*ev (bB a b) p+t*ev (bB a b) q,mpp (by omega) hx,mpp (by omega) hy,by have:=Int.mul_pos hL hxy;rw[Int.mul_add]at this;exact this,by omega,by omega,?_⟩
   rw[oz];unfold cmb;simp only[P3.mk.injEq];refine⟨?_,?_,?_⟩<;>grind
  ·rw[h,bG]at hX;rw[h,iY]at eA;have hy0:0<y:=by
    rcases Int.lt_or_le 0 y with k|k
    ·exact k
    ·have:y=0:=by omega
     subst y;omega
   have hv:ev (lin a b) (pt e.b)=0:=by
    have:y*ev (lin a b) (pt e.b)=0:=by omega
    rcases Int.mul_eq_zero.1 this with k|k
    ·omega
    ·exact k
   have:=Int.mul_neg_of_pos_of_neg hy0 (show ev (bB a b) (pt e.b)<0 by omega)
   omega
  ·rw[h,bG]at hX;rw[h,iY]at eA;have hy0:0<x:=by
    rcases Int.lt_or_le 0 x with k|k
    ·exact k
    ·have:x=0:=by omega
     subst x;omega
   have hv:ev (lin a b) (pt e.a)=0:=by
    have:x*ev (lin a b) (pt e.a)=0:=by omega
    rcases Int.mul_eq_zero.1 this with k|k
    ·omega
    ·exact k
   have:=Int.mul_neg_of_pos_of_neg hy0 (show ev (bB a b) (pt e.a)<0 by omega)
   omega
  ·rw[h,bQ]at hX;rw[h,iY]at eB;have hy0:0<y:=by
    rcases Int.lt_or_le 0 y with k|k
    ·exact k
    ·have:y=0:=by omega
     subst y;omega
   have hv:ev (lin a b) (pt e.b)=0:=by
    have:y*ev (lin a b) (pt e.b)=0:=by omega
    rcases Int.mul_eq_zero.1 this with k|k
    ·omega
    ·exact k
   have:=Int.mul_neg_of_pos_of_neg hy0 (show ev (bB b a) (pt e.b)<0 by omega)
   omega
  ·rw[h,bQ]at hX;rw[h,iY]at eB;have hy0:0<x:=by
    rcases Int.lt_or_le 0 x with k|k
    ·exact k
    ·have:x=0:=by omega
     subst x;omega
   have hv:ev (lin a b) (pt e.a)=0:=by
    have:x*ev (lin a b) (pt e.a)=0:=by omega
    rcases Int.mul_eq_zero.1 this with k|k
    ·omega
    ·exact k
   have:=Int.mul_neg_of_pos_of_neg hy0 (show ev (bB b a) (pt e.a)<0 by omega)
   omega
 ·obtain⟨f,hf,g⟩:=h1 x y hx hy hxy;rw[z1]at g;simp only[thin,List.mem_cons,List.not_mem_nil,or_false]at hf;rcases hf with rfl|rfl|rfl
  ·omega
  ·rw[jF,jF]at g;omega
  ·rw[mF,mF]at g;omega
theorem flip{r:aD}(h2:2<=r.length)(hn:(edges r).Nodup){a b:V}(hne:a≠b)(he:(⟨a,b⟩:S)∈edges r){N:Int}(hN:0<=N)
  (ho:∀e∈edges r,e≠⟨a,b⟩->Off a b e/\iU (thin a b N) e/\iU (thin b a N) e):∃p q:P3,In (thin b a N) p/\In (thin a b N) q/\eK r p≠eK r q:=by
 have sum:∀{p q:P3},0<p.d->0<q.d->p.y*q.d<=q.y*p.d->(∀e∈edges r,e≠⟨a,b⟩->¬iF e p q)->((hit p ⟨a,b⟩ !=hit q ⟨a,b⟩) !=(rgt p q a !=rgt p q b))=true->eK r p≠eK r q:=by
  intro p q hp hq hy hm hab;have h1:=Yq (g:=fun e=>(hit p e !=hit q e) !=(rgt p q e.a !=rgt p q e.b)) hn he hab fun e he hne=>by
   rw[Mc hp hq hy (hm e he hne)];cases(rgt p q e.a !=rgt p q e.b)<;>rfl
  rw[xD,xD,xD,Gj h2]at h1;unfold eK;generalize jJ ((edges r).map (hit p))=x at*;generalize jJ ((edges r).map (hit q))=y at*;cases x<;>cases y<;>simp at h1|-
 have off:∀{p q:P3},In (thin b a N) p->In (thin a b N) q->∀e∈edges r,e≠⟨a,b⟩->¬iF e p q:=fun hp hq e he hne=>aBK hN (ho e he hne).1 (ho e he hne).2.1 (ho e he hne).2.2 hp hq
 have hdn:∀(M x y:Int) (w:V),dn (cZ a b M x y) w=decide (w.y*(2*M)<=M*(a.y+b.y)+y):=fun _ _ _ _=>rfl
 have hln:∀(M:Int) (w:V),ev (ln (cZ a b M 0 (-1)) (cZ a b M 0 1)) (pt w)=2*M*(a.x+b.x-2*w.x):=fun M w=>by unfold ev ln cZ pt;grind
 have horiz:∀M:Int,1<=M->a.y=b.y->a.x≠b.x->((hit (cZ a b M 0 (-1)) ⟨a,b⟩ !=hit (cZ a b M 0 1) ⟨a,b⟩) !=(rgt (cZ a b M 0 (-1)) (cZ a b M 0 1) a !=rgt (cZ a b M 0 (-1)) (cZ a b M 0 1) b))=true:=by
  intro M hM hy hx;have e1:M*(a.y+b.y)=a.y*(2*M):=by rw[<-hy];grind
  have e2:M*(a.y+b.y)=b.y*(2*M):=by rw[hy];grind
  have a1:dn (cZ a b M 0 (-1)) a=false:=by rw[hdn];exact decide_eq_false (by omega)
  have a2:dn (cZ a b M 0 (-1)) b=false:=by rw[hdn];exact decide_eq_false (by omega)
  have a3:dn (cZ a b M 0 1) a=true:=by rw[hdn];exact decide_eq_true (by omega)
  have a4:dn (cZ a b M 0 1) b=true:=by rw[hdn];exact decide_eq_true (by omega)
  unfold hit rgt;dsimp only;rw[a1,a2,a3,a4,hln,hln];rcases Int.lt_or_gt_of_ne hx with hx|hx
  ·have p1:=Int.mul_pos (show 0<2*M by omega) (show 0<a.x+b.x-2*a.x by omega)
   have p2:=Int.mul_neg_of_pos_of_neg (show 0<2*M by omega) (show a.x+b.x-2*b.x<0 by omega)
   rw[decide_eq_false (show¬2*M*(a.x+b.x-2*a.x)<0 by omega),decide_eq_true p2];rfl
  ·have p1:=Int.mul_neg_of_pos_of_neg (show 0<2*M by omega) (show a.x+b.x-2*a.x<0 by omega)
   have p2:=Int.mul_pos (show 0<2*M by omega) (show 0<a.x+b.x-2*b.x by omega)
   rw[decide_eq_true p1,decide_eq_false (show¬2*M*(a.x+b.x-2*b.x)<0 by omega)];rfl
 have ydec:∀M:Int,1<=M->(cZ a b M 0 (-1)).y*(cZ a b M 0 1).d<=(cZ a b M 0 1).y*(cZ a b M 0 (-1)).d:=fun M hM=>by
  unfold cZ;dsimp only;have:(M*(a.y+b.y)+ -1)*(2*M)+2*(2*M)=(M*(a.y+b.y)+1)*(2*M):=by grind
  omega
 have vert:∀M x:Int,1<=M->a.y≠b.y->0<(b.x-a.x)*0-(b.y-a.y)*x->((hit (cZ a b M (-x) 0) ⟨a,b⟩ !=hit (cZ a b M x 0) ⟨a,b⟩) !=(rgt (cZ a b M (-x) 0) (cZ a b M x 0) a !=rgt (cZ a b M (-x) 0) (cZ a b M x 0) b))=true:=by
  intro M x hM hy hx;have hne':dn (cZ a b M x 0) a≠dn (cZ a b M x 0) b:=by
   rw[hdn,hdn];have e1:M*(a.y+b.y)-a.y*(2*M)=M*(b.y-a.y):=by grind
   have e2:M*(a.y+b.y)-b.y*(2*M)=M*(a.y-b.y):=by grind
   rcases Int.lt_or_gt_of_ne hy with h|h
   ·have p1:=Int.mul_pos (show 0<M by omega) (show 0<b.y-a.y by omega)
    have p2:=Int.mul_neg_of_pos_of_neg (show 0<M by omega) (show a.y-b.y<0 by omega)
    rw[decide_eq_true (show a.y*(2*M)<=M*(a.y+b.y)+0 by omega),decide_eq_false (show¬b.y*(2*M)<=M*(a.y+b.y)+0 by omega)];simp
   ·have p1:=Int.mul_neg_of_pos_of_neg (show 0<M by omega) (show b.y-a.y<0 by omega)
    have p2:=Int.mul_pos (show 0<M by omega) (show 0<a.y-b.y by omega)
    rw[decide_eq_false (show¬a.y*(2*M)<=M*(a.y+b.y)+0 by omega),decide_eq_true (show b.y*(2*M)<=M*(a.y+b.y)+0 by omega)];simp
  have same:∀w,dn (cZ a b M (-x) 0) w=dn (cZ a b M x 0) w:=fun w=>by rw[hdn,hdn]
  unfold hit rgt;dsimp only;rw[same,same,zO,zO];rw[decide_eq_true hx,decide_eq_false (show¬0<(b.x-a.x)*0-(b.y-a.y)* -x by rw[Int.mul_neg];omega)]
  revert hne';cases dn (cZ a b M x 0) a<;>cases dn (cZ a b M x 0) b<;>simp
 have hne2:b≠a:=fun e=>hne e.symm
 by_cases hy:a.y=b.y
 ·have hx:a.x≠b.x:=fun hx=>hne (by cases a;cases b;simp only[V.mk.injEq]at*;omega)
  rcases Int.lt_or_gt_of_ne hx with hx'|hx'
  ·obtain⟨M0,hM,hI⟩:=kI hne (x:=0) (y:=1) (by omega) N
   obtain⟨M1,hM1,hI1⟩:=kI hne2 (x:=0) (y:= -1) (by omega) N
   have i1:=hI (max M0 M1) (by omega)
   have i2:=hI1 (max M0 M1) (by omega)
   rw[wU]at i2;exact⟨_,_,i2,i1,sum i2.1 i1.1 (ydec _ (by omega)) (off i2 i1) (horiz _ (by omega) hy hx)⟩
  ·obtain⟨M0,hM,hI⟩:=kI hne (x:=0) (y:= -1) (by omega) N
   obtain⟨M1,hM1,hI1⟩:=kI hne2 (x:=0) (y:=1) (by omega) N
   have i1:=hI (max M0 M1) (by omega)
   have i2:=hI1 (max M0 M1) (by omega)
   rw[wU]at i2;exact⟨_,_,i2,i1,fun h=>sum i1.1 i2.1 (ydec _ (by omega)) (fun e he hne hm=>off i2 i1 e he hne hm.flip) (horiz _ (by omega) hy hx) h.symm⟩
 ·have go:∀x:Int,0<(b.x-a.x)*0-(b.y-a.y)*x->∃p q:P3,In (thin b a N) p/\In (thin a b N) q/\eK r p≠eK r q:=by
   intro x hx;obtain⟨M0,hM,hI⟩:=kI hne (x:=x) (y:=0) hx N;obtain⟨M1,hM1,hI1⟩:=kI hne2 (x:= -x) (y:=0) (by rw[Int.mul_neg,show a.y-b.y= -(b.y-a.y) by omega,Int.neg_mul];omega) N
   have i1:=hI (max M0 M1) (by omega)
   have i2:=hI1 (max M0 M1) (by omega)
   rw[wU]at i2;exact⟨_,_,i2,i1,sum i2.1 i1.1 (Int.le_refl _) (off i2 i1) (vert _ _ (by omega) hy hx)⟩
  rcases Int.lt_or_gt_of_ne hy with h|h
  ·exact go (-1) (by omega)
  ·exact go 1 (by omega)
end Go.Proofs.YtdaeofhdgabhjaaGreat.Geo
namespace Go.Proofs.YtdaeofhdgabhjaaGreat.Geo
structure Net(W:List V)(side:V->V->Prop):Prop where
 symm:∀{a b},side a b->side b a
 ne:∀{a b},side a b->a≠b
 mem:∀{a b},side a b->a∈W
 clear:∀{a b v},side a b->v∈W->∀s t k:Int,0<=s->0<=t->cmb s (pt a) t (pt b)=cmb k (pt v) 0 (pt v)->0<k->v=a\/v=b
 apart:∀{a b c d},side a b->side c d->∀x y s t:Int,0<x->0<y->0<s->0<t->cmb x (pt a) y (pt b)=cmb s (pt c) t (pt d)->(a=c/\b=d)\/(a=d/\b=c)
theorem jG(x y:Int)(p q:P3):cmb x p y q=cmb y q x p:=by unfold cmb;simp only[P3.mk.injEq];refine⟨?_,?_,?_⟩<;>omega
theorem aB4{F G z g:P3}(h1:0<ev F z)(h2:0<ev G z)(h:ev F g<0\/ev G g<0):
  ∃s t:Int,0<s/\0<t/\((ev F (cmb s z t g)=0/\0<=ev G (cmb s z t g))\/(ev G (cmb s z t g)=0/\0<=ev F (cmb s z t g))):=by
 have i1:ev F (cmb (-(ev F g)) z (ev F z) g)=0:=by rw[aK,Int.neg_mul,Int.mul_comm];omega
 have i2:ev G (cmb (-(ev G g)) z (ev G z) g)=0:=by rw[aK,Int.neg_mul,Int.mul_comm];omega
 have i3:ev G (cmb (-(ev F g)) z (ev F z) g)= -ev F (cmb (-(ev G g)) z (ev G z) g):=by
  rw[aK,aK,Int.neg_mul,Int.neg_mul,Int.mul_comm (ev F z),Int.mul_comm (ev G z)];rw[Int.mul_comm (ev F g),Int.mul_comm (ev G g)];omega
 by_cases hF:ev F g<0
 ·by_cases hG:0<=ev G (cmb (-(ev F g)) z (ev F z) g)
  ·exact⟨_,_,by omega,h1,.inl ⟨i1,hG⟩⟩
  ·have hg:ev G g<0:=by
    rw[aK]at hG;refine Int.not_le.1 fun hn=>hG ?_
    have:=mpp (show 0<= -(ev F g) by omega) (show 0<=ev G z by omega)
    have:=mpp (show 0<=ev F z by omega) hn
    omega
   exact⟨_,_,by omega,h2,.inr ⟨i2,by omega⟩⟩
 ·have hg:ev G g<0:=by omega
  refine⟨_,_,by omega,h2,.inr ⟨i2,?_⟩⟩
  rw[aK];have:=mpp (show 0<= -(ev G g) by omega) (show 0<=ev F z by omega)
  have:=mpp (show 0<=ev G z by omega) (show 0<=ev F g by omega)
  omega
theorem aNc(a b c:V)(f q:P3):ev (lin a b) (pt c)*ev f q=ev (lin b c) q*ev f (pt a)+ev (lin c a) q*ev f (pt b)+ev (lin a b) q*ev f (pt c):=by
 unfold ev lin pt;grind
theorem Hj(a b c:V)(q:P3):ev (lin a b) (pt c)*q.d=ev (lin b c) q+ev (lin c a) q+ev (lin a b) q:=by
 unfold ev lin pt;grind
theorem pJ{a b c:V}{q:P3}(h:ev (lin a b) q=0):cmb (ev (lin b c) q) (pt a) (ev (lin c a) q) (pt b)=⟨ev (lin a b) (pt c)*q.x,ev (lin a b) (pt c)*q.y,ev (lin a b) (pt c)*q.d⟩:=by
 unfold ev lin at h;unfold cmb ev lin pt;simp only[P3.mk.injEq];refine⟨?_,?_,?_⟩<;>grind
theorem iX(a b c:V):ev (lin b c) (pt a)=ev (lin a b) (pt c):=by unfold ev lin pt;grind
theorem tD{a b:V}{s t:Int}(ht:0<t)(h:cmb s (pt a) t (pt b)=cmb (s+t) (pt a) 0 (pt a)):b=a:=by
 unfold cmb pt at h;simp only[P3.mk.injEq]at h;obtain⟨h1,h2,_⟩:=h;have e1:t*(b.x-a.x)=0:=by grind
 have e2:t*(b.y-a.y)=0:=by grind
 cases a;cases b;simp only[V.mk.injEq];rcases Int.mul_eq_zero.1 e1 with k|k<;>rcases Int.mul_eq_zero.1 e2 with k2|k2<;>first|omega|(dsimp only at*;omega)
section
variable {W:List V} {side:V->V->Prop}
theorem Net.same(H:Net W side){a b u v:V}(hab:side a b)(huv:side u v){x y s t:Int}(hx:0<x)(hy:0<y)(hs:0<=s)(ht:0<=t)(h:cmb x (pt u) y (pt v)=cmb s (pt a) t (pt b)):
  (u=a/\v=b)\/(u=b/\v=a):=by
 have hd:=congrArg P3.d h;simp only[cmb,pt]at hd;rcases Int.lt_or_le 0 s with hs'|hs'
 ·rcases Int.lt_or_le 0 t with ht'|ht'
  ·exact H.apart huv hab x y s t hx hy hs' ht' h
  ·have t0:t=0:=by omega
   subst t0;have h':cmb x (pt u) y (pt v)=cmb s (pt a) 0 (pt a):=by rw[h];unfold cmb;simp
   rcases H.clear huv (H.mem hab) x y s (by omega) (by omega) h' hs' with e|e
   ·exfalso;subst e;have:=tD (a:=a) (b:=v) (s:=x) hy (by rw[h'];unfold cmb pt;simp;refine⟨?_,?_,?_⟩<;>grind)
    exact H.ne huv this.symm
   ·exfalso;subst e;have:=tD (a:=a) (b:=u) (s:=y) hx (by rw[jG,h'];unfold cmb pt;simp;refine⟨?_,?_,?_⟩<;>grind)
    exact H.ne huv this
 ·have s0:s=0:=by omega
  subst s0;have h':cmb x (pt u) y (pt v)=cmb t (pt b) 0 (pt b):=by rw[h];unfold cmb;simp
  rcases H.clear huv (H.mem (H.symm hab)) x y t (by omega) (by omega) h' (by omega)with e|e
  ·exfalso;subst e;have:=tD (a:=b) (b:=v) (s:=x) hy (by rw[h'];unfold cmb pt;simp;refine⟨?_,?_,?_⟩<;>grind)
   exact H.ne huv this.symm
  ·exfalso;subst e;have:=tD (a:=b) (b:=u) (s:=y) hx (by rw[jG,h'];unfold cmb pt;simp;refine⟨?_,?_,?_⟩<;>grind)
   exact H.ne huv this
structure Corner(W:List V)(side:V->V->Prop)(a b c:V)(h:Int):Prop where
 ab:side a b
 ac:side a c
 left:0<ev (lin a b) (pt c)
 none:∀x,side a x->¬(0<ev (lin a b) (pt x)/\0<ev (lin c a) (pt x))
 low:0<=h
 top:∀w∈W,w≠a->0<=ev (lin a b) (pt w)->0<=ev (lin c a) (pt w)->ev (lin b c) (pt w)<=h
def over(b c:V)(h:Int):P3:=⟨(lin b c).x,(lin b c).y,(lin b c).d-h⟩
theorem lT(b c:V)(h:Int)(q:P3):ev (over b c h) q=ev (lin b c) q-h*q.d:=by unfold ev over;grind
theorem Corner.free(H:Net W side){a b c:V}{h:Int}(K:Corner W side a b c h){u v:V}(huv:side u v):iU [lin a b,lin c a,over b c h] ⟨u,v⟩:=by
 have key:∀{u v:V},side u v->∀x y:Int,0<=x->0<=y->0<x+y->0<ev (lin a b) (cmb x (pt u) y (pt v))->0<ev (lin c a) (cmb x (pt u) y (pt v))->0<ev (over b c h) (cmb x (pt u) y (pt v))->0<ev (over b c h) (pt u)->0<x->False:=by
  intro u v huv x y hx hy hxy h1 h2 h3 h4 hx0;have hη:0<ev (lin b c) (pt u):=by rw[lT]at h4;have:=K.low;simp only[pt]at h4|-;omega
  by_cases hin:0<=ev (lin a b) (pt u)/\0<=ev (lin c a) (pt u)
  ·by_cases hua:u=a
   ·subst hua;have:=K.none v huv;rw[aK,bG]at h1;rw[aK,bQ]at h2;refine this ⟨?_,?_⟩
    ·rcases Int.lt_or_le 0 (ev (lin u b) (pt v))with g|g
     ·exact g
     ·have:=mpn hy g;omega
    ·rcases Int.lt_or_le 0 (ev (lin c u) (pt v))with g|g
     ·exact g
     ·have:=mpn hy g;omega
   ·have:=K.top u (H.mem huv) hua hin.1 hin.2;rw[lT]at h4;simp only[pt]at h4 this;omega
  ·obtain⟨s,t,hs,ht,hp⟩:=aB4 (F:=lin a b) (G:=lin c a) (z:=cmb x (pt u) y (pt v)) (g:=pt u) h1 h2 (by omega)
   have hover:0<ev (over b c h) (cmb s (cmb x (pt u) y (pt v)) t (pt u)):=by
    rw[aK];have:=Int.mul_pos hs h3;have:=Int.mul_pos ht h4;omega
   have hd:0<(cmb s (cmb x (pt u) y (pt v)) t (pt u)).d:=by
    simp only[cmb,pt];have:=Int.mul_pos hs hxy;grind
   have hη2:0<ev (lin b c) (cmb s (cmb x (pt u) y (pt v)) t (pt u)):=by
    rw[lT]at hover;have:=mpp K.low (show 0<=(cmb s (cmb x (pt u) y (pt v)) t (pt u)).d by omega);omega
   have hy0:0<y:=by
    rcases Int.lt_or_le 0 y with g|g
    ·exact g
    ·have:y=0:=by omega
     subst y;rw[aK]at h1 h2;exfalso;apply hin;refine⟨?_,?_⟩
     ·rcases Int.lt_or_le (ev (lin a b) (pt u)) 0 with g|g
      ·have:=Int.mul_neg_of_pos_of_neg hx0 g;omega
      ·exact g
     ·rcases Int.lt_or_le (ev (lin c a) (pt u)) 0 with g|g
      ·have:=Int.mul_neg_of_pos_of_neg hx0 g;omega
      ·exact g
   have exp:cmb s (cmb x (pt u) y (pt v)) t (pt u)=cmb (s*x+t) (pt u) (s*y) (pt v):=by
    unfold cmb;simp only[P3.mk.injEq];refine⟨?_,?_,?_⟩<;>grind
   have w1:0<s*x+t:=by have:=Int.mul_pos hs hx0;omega
   have w2:0<s*y:=Int.mul_pos hs hy0;rw[exp]at hp hη2;have D:=K.left;have sc:∀{q:P3} {p1 p2:V} {m n:Int},cmb m (pt p1) n (pt p2)=⟨ev (lin a b) (pt c)*q.x,ev (lin a b) (pt c)*q.y,ev (lin a b) (pt c)*q.d⟩->∀{X Y:Int},q=cmb X (pt u) Y (pt v)->cmb (ev (lin a b) (pt c)*X) (pt u) (ev (lin a b) (pt c)*Y) (pt v)=cmb m (pt p1) n (pt p2):=by
    intro q p1 p2 m n hq X Y hXY;rw[hq,hXY];unfold cmb;simp only[P3.mk.injEq];refine⟨?_,?_,?_⟩<;>grind
   rcases hp with⟨g1,g2⟩|⟨g1,g2⟩
   ·have:=sc (pJ (c:=c) g1) rfl;rcases H.same K.ab huv (Int.mul_pos D w1) (Int.mul_pos D w2) (by omega) g2 this with⟨rfl,rfl⟩|⟨rfl,rfl⟩
    ·rw[aK,bG,bQ]at h1;omega
    ·rw[aK,bG,bQ]at h1;omega
   ·have e0:ev (lin c a) (pt b)=ev (lin a b) (pt c):=(iX b c a).symm▸by rw[iX]
    have:=pJ (a:=c) (b:=a) (c:=b) g1;rw[e0]at this;have:=sc this rfl;rcases H.same (H.symm K.ac) huv (Int.mul_pos D w1) (Int.mul_pos D w2) g2 (by omega) this with⟨rfl,rfl⟩|⟨rfl,rfl⟩
    ·rw[aK,bG,bQ]at h2;omega
    ·rw[aK,bG,bQ]at h2;omega
 refine Oj fun x y hx hy hxy hq=> ?_
 have e1:∀g:P3,x*ev g (pt u)+y*ev g (pt v)=ev g (cmb x (pt u) y (pt v)):=fun g=>(aK _ _ _ _ _).symm
 simp only[List.mem_cons,List.not_mem_nil,or_false,forall_eq_or_imp,forall_eq,e1]at hq;obtain⟨h1,h2,h3⟩:=hq;have h3':=h3;rw[aK]at h3';by_cases hu:0<x*ev (over b c h) (pt u)
 ·have hx0:0<x:=by
   rcases Int.lt_or_le 0 x with g|g
   ·exact g
   ·have:x=0:=by omega
    subst x;omega
  refine key huv x y hx hy hxy h1 h2 h3 ?_ hx0;rcases Int.lt_or_le 0 (ev (over b c h) (pt u))with g|g
  ·exact g
  ·have:=mpn hx g;omega
 ·have hv:0<y*ev (over b c h) (pt v):=by omega
  have hy0:0<y:=by
   rcases Int.lt_or_le 0 y with g|g
   ·exact g
   ·have:y=0:=by omega
    subst y;omega
  rw[jG]at h1 h2 h3;refine key (H.symm huv) y x hy hx (by omega) h1 h2 h3 ?_ hy0
  rcases Int.lt_or_le 0 (ev (over b c h) (pt v))with g|g
  ·exact g
  ·have:=mpn hy g;omega
end
end Go.Proofs.YtdaeofhdgabhjaaGreat.Geo
namespace Go.Proofs.YtdaeofhdgabhjaaGreat.Geo
structure Filled(W:List V)(side:V->V->Prop)(ins:P3->Bool):Prop where
 net:Net W side
 same:∀p q:P3,0<p.d->0<q.d->(∀u v,side u v->¬iF ⟨u,v⟩ p q)->ins p=ins q
 max:∀u∈W,∀w∈W,u≠w->(∀c d,side c d->∀x y s t:Int,0<=x->0<=y->0<s->0<t->cmb x (pt c) y (pt d)≠cmb s (pt u) t (pt w))->ins (cmb 1 (pt u) 1 (pt w))=true->side u w
 far:∃B:Int,0<=B/\∀q:P3,0<q.d->(B*q.d<q.x\/q.x< -(B*q.d)\/B*q.d<q.y\/q.y< -(B*q.d))->ins q=false
def Lft(ins:P3->Bool)(a b:V):Prop:=∃N0:Int,∀N,N0<=N->∀q,In (thin a b N) q->ins q=true
theorem No{α:Type}(f:α->Int):∀{l:List α},l≠[]->∃x∈l,∀y∈l,f y<=f x
 |[],h=>absurd rfl h
 |[x],_=>⟨x,List.mem_cons_self,fun y hy=>by rw[List.mem_singleton.1 hy];exact Int.le_refl _⟩
 |x::y::l,_=>by
  obtain⟨z,hz,h⟩:=No f (l:=y::l) (by simp)
  by_cases hx:f z<=f x
  ·exact⟨x,List.mem_cons_self,fun w hw=>by rcases List.mem_cons.1 hw with rfl|hw;exact Int.le_refl _;have:=h w hw;omega⟩
  ·exact⟨z,List.mem_cons_of_mem _ hz,fun w hw=>by rcases List.mem_cons.1 hw with rfl|hw;omega;exact h w hw⟩
section
variable {W:List V} {side:V->V->Prop} {ins:P3->Bool}
theorem Filled.const(H:Filled W side ins){F:List P3}(hF:∀u v,side u v->iU F ⟨u,v⟩){p q:P3}(hp:In F p)(hq:In F q):ins p=ins q:=
 H.same p q hp.1 hq.1 fun u v huv=>(hF u v huv).no hp hq
theorem Lft.near{a b c:V}(hne:a≠b)(hL:Lft ins a b)(hc:0<ev (lin a b) (pt c)){h:Int}(hh:h<ev (lin a b) (pt c)):
  ∃q,In [lin a b,lin c a,over b c h] q/\ins q=true:=by
 obtain⟨N0,hN⟩:=hL;have hL2:=fO hne;have e9:(b.x-a.x)*(b.x-a.x)-(b.y-a.y)* -(b.y-a.y)=eL a b:=by unfold eL;grind
 obtain⟨M0,hM0,hI⟩:=kI hne (x:= -(b.y-a.y)) (y:=b.x-a.x) (by omega) (max N0 0)
 have e1:∀M:Int,ev (lin c a) (cZ a b M (-(b.y-a.y)) (b.x-a.x))=M*ev (lin a b) (pt c)+ev (lin c a) ⟨-(b.y-a.y),b.x-a.x,0⟩:=fun M=>by unfold ev lin cZ pt;grind
 generalize hk:ev (lin c a) ⟨-(b.y-a.y),b.x-a.x,0⟩=k at e1;have hP:=hI (M0+k.natAbs) (by omega)
 have hβ:0<ev (lin c a) (cZ a b (M0+k.natAbs) (-(b.y-a.y)) (b.x-a.x)):=by
  rw[e1];have:=Int.mul_le_mul_of_nonneg_left (show 1<=ev (lin a b) (pt c) by omega) (show 0<=M0+(k.natAbs:Int) by omega)
  omega
 generalize cZ a b (M0+k.natAbs) (-(b.y-a.y)) (b.x-a.x)=P at*;obtain⟨p0,p1,p2,p3⟩:=lS.1 hP;have e0:ev (lin b c) (pt a)=ev (lin a b) (pt c):=iX a b c;refine⟨cmb (1+(ev (over b c h) P).natAbs) (pt a) 1 P,⟨by simp only[cmb,pt];omega,?_⟩,hN (max N0 0) (by omega) _ ?_⟩
 ·simp only[List.mem_cons,List.not_mem_nil,or_false,forall_eq_or_imp,forall_eq];refine⟨?_,?_,?_⟩
  ·rw[aK,bG];omega
  ·rw[aK,bQ];omega
  ·rw[aK];have ho:1<=ev (over b c h) (pt a):=by rw[lT,e0];show 1<=ev (lin a b) (pt c)-h*1;omega
   have:=Int.mul_le_mul_of_nonneg_left ho (show 0<=1+((ev (over b c h) P).natAbs:Int) by omega)
   omega
 ·rw[lS,aK,aK,aK,bG,iY,oL,xZ];have g1:=mpp (show 0<=1+((ev (over b c h) P).natAbs:Int) by omega) (show 0<=eL a b by omega)
  have g2:max N0 0*(1*ev (lin a b) P)=max N0 0*ev (lin a b) P:=by rw[Int.one_mul]
  refine⟨by simp only[cmb,pt];omega,by omega,?_,?_⟩<;>rw[Int.mul_zero,Int.zero_add]at* <;>omega
theorem aJi{u v b c:V}{D p q r s:Int}(hD:D≠0)(g1:cmb p (pt b) q (pt c)=⟨D*u.x,D*u.y,D⟩)(g2:cmb r (pt b) s (pt c)=⟨D*v.x,D*v.y,D⟩):
  cmb r (pt u) (-p) (pt v)=cmb (q-s) (pt c) 0 (pt c)/\cmb (-s) (pt u) q (pt v)=cmb (q-s) (pt b) 0 (pt b):=by
 unfold cmb pt at*;simp only[P3.mk.injEq]at*;obtain⟨a1,a2,a3⟩:=g1;obtain⟨b1,b2,b3⟩:=g2;refine⟨⟨?_,?_,by omega⟩,⟨?_,?_,by omega⟩⟩<;>(apply Int.eq_of_mul_eq_mul_left hD;grind)
theorem ear(H:Filled W side ins){a b c:V}(hab:side a b)(hac:side a c)(hc:0<ev (lin a b) (pt c))(hn:∀x,side a x->¬(0<ev (lin a b) (pt x)/\0<ev (lin c a) (pt x)))(hL:Lft ins a b):
  (∀w∈W,0<=ev (lin a b) (pt w)->0<=ev (lin b c) (pt w)->0<=ev (lin c a) (pt w)->w=a\/w=b\/w=c)/\
  (∀u v,side u v->iU [lin a b,lin c a,over b c 0] ⟨u,v⟩)/\(∀q,In [lin a b,lin c a,over b c 0] q->ins q=true)/\side b c:=by
 have N:=H.net;have hne:=N.ne hab;by_cases hE:W.filter (fun w=>decide (0<=ev (lin a b) (pt w))&&decide (0<=ev (lin b c) (pt w))&&decide (0<=ev (lin c a) (pt w))&&decide (w≠a)&&decide (w≠b)&&decide (w≠c))=[]
 case neg=>
  exfalso;obtain⟨w,hw,hmax⟩:=No (fun w=>ev (lin b c) (pt w)) hE
  simp only[List.mem_filter,Bool.and_eq_true,decide_eq_true_eq]at hw hmax;obtain⟨hwW,⟨⟨⟨⟨⟨w1,w2⟩,w3⟩,w4⟩,w5⟩,w6⟩⟩:=hw;have K:Corner W side a b c (ev (lin b c) (pt w)):=by
   refine⟨hab,hac,hc,hn,w2,fun w' hw' ha h1 h2=> ?_⟩
   by_cases h3:ev (lin b c) (pt w')<=0
   ·omega
   ·refine hmax w' ⟨hw',⟨⟨⟨⟨⟨h1,by omega⟩,h2⟩,ha⟩,?_⟩,?_⟩⟩
    ·rintro rfl;rw[bG]at h3;omega
    ·rintro rfl;rw[bQ]at h3;omega
  have bs:=Hj a b c (pt w);have α0:ev (lin a b) (pt w)≠0:=fun h0=>by
   have hb:=pJ (c:=c) h0;rcases N.clear hab hwW (ev (lin b c) (pt w)) (ev (lin c a) (pt w)) (ev (lin a b) (pt c)) w2 w3 (by rw[hb];unfold cmb;simp) hc with e|e
   ·exact w4 e
   ·exact w5 e
  have β0:ev (lin c a) (pt w)≠0:=fun h0=>by
   have hb:=pJ (a:=c) (b:=a) (c:=b) h0;have e0:ev (lin c a) (pt b)=ev (lin a b) (pt c):=by unfold ev lin pt;grind
   rw[e0]at hb;rcases N.clear (N.symm hac) hwW (ev (lin a b) (pt w)) (ev (lin b c) (pt w)) (ev (lin a b) (pt c)) w1 w2 (by rw[hb];unfold cmb;simp) hc with e|e
   ·exact w6 e
   ·exact w4 e
  simp only[pt]at bs;have hlt:ev (lin b c) (pt w)<ev (lin a b) (pt c):=by simp only[pt]at*;omega
  have hfree:∀u v,side u v->iU _ ⟨u,v⟩:=fun u v huv=>K.free N huv
  have hin:∀s t:Int,0<s->0<t->In [lin a b,lin c a,over b c (ev (lin b c) (pt w))] (cmb s (pt a) t (pt w)):=by
   intro s t hs ht;refine⟨by simp only[cmb,pt];omega,?_⟩
   simp only[List.mem_cons,List.not_mem_nil,or_false,forall_eq_or_imp,forall_eq];refine⟨?_,?_,?_⟩
   ·rw[aK,bG];have:=Int.mul_pos ht (show 0<ev (lin a b) (pt w) by omega);omega
   ·rw[aK,bQ];have:=Int.mul_pos ht (show 0<ev (lin c a) (pt w) by omega);omega
   ·rw[aK,lT,lT,iX];have e1:ev (lin b c) (pt w)-ev (lin b c) (pt w)*(pt w).d=0:=by simp only[pt];omega
    have:=Int.mul_pos hs (show 0<ev (lin a b) (pt c)-ev (lin b c) (pt w)*(pt a).d by simp only[pt]at*;omega)
    rw[e1];omega
  obtain⟨q,hq,hqi⟩:=hL.near hne hc hlt;have hmid:ins (cmb 1 (pt a) 1 (pt w))=true:=by rw[H.const hfree (hin 1 1 (by omega) (by omega)) hq];exact hqi
  have haw:=H.max a (N.mem hab) w hwW (fun e=>w4 e.symm) (fun c' d' hcd x y s t hx hy hs ht he=>by
   obtain⟨f,hf,g⟩:=hfree c' d' hcd x y hx hy (by have:=congrArg P3.d he;simp only[cmb,pt]at this;omega)
   have:=(hin s t hs ht).2 f hf;rw[<-he,aK]at this;change x*ev f (pt c')+y*ev f (pt d')<=0 at g;omega) hmid
  exact hn w haw ⟨by omega,by omega⟩
 case pos=>
  have hv:∀w∈W,0<=ev (lin a b) (pt w)->0<=ev (lin b c) (pt w)->0<=ev (lin c a) (pt w)->w=a\/w=b\/w=c:=by
   intro w hw h1 h2 h3;refine Classical.byContradiction fun hne'=> ?_
   have:w∈([] :List V):=by
    rw[<-hE];simp only[List.mem_filter,Bool.and_eq_true,decide_eq_true_eq];refine⟨hw,⟨⟨⟨⟨⟨h1,h2⟩,h3⟩,?_⟩,?_⟩,?_⟩⟩<;>intro e<;>exact hne' (by simp[e])
   cases this
  have K:Corner W side a b c 0:=by
   refine⟨hab,hac,hc,hn,Int.le_refl _,fun w' hw' ha h1 h2=> ?_⟩
   refine Int.not_lt.1 fun h3=> ?_
   rcases hv w' hw' h1 (by omega) h2 with e|e|e
   ·exact ha e
   ·rw[e,bG]at h3;omega
   ·rw[e,bQ]at h3;omega
  have hfree:∀u v,side u v->iU [lin a b,lin c a,over b c 0] ⟨u,v⟩:=fun u v huv=>K.free N huv
  obtain⟨q,hq,hqi⟩:=hL.near hne hc hc;have hins:∀q,In [lin a b,lin c a,over b c 0] q->ins q=true:=fun q' hq'=>by rw[H.const hfree hq' hq];exact hqi
  refine⟨hv,hfree,hins,?_⟩;have hbc:b≠c:=fun e=>by subst e;rw[bQ]at hc;omega
  have e1:ev (lin c a) (pt b)=ev (lin a b) (pt c):=by unfold ev lin pt;grind
  have bs:∀w:V,ev (lin a b) (pt c)=ev (lin b c) (pt w)+ev (lin c a) (pt w)+ev (lin a b) (pt w):=fun w=>by
   have:=Hj a b c (pt w);simp only[pt]at this|-;omega
  refine Classical.byContradiction fun hns=> ?_
  have hopen:∀c' d',side c' d'->∀x y s t:Int,0<=x->0<=y->0<s->0<t->cmb x (pt c') y (pt d')≠cmb s (pt b) t (pt c):=by
   intro u v huv x y s t hx hy hs ht he;have ed:=congrArg P3.d he;have eη:=congrArg (ev (lin b c)) he;have eα:=congrArg (ev (lin a b)) he;have eβ:=congrArg (ev (lin c a)) he;simp only[cmb,pt]at ed;rw[aK,aK,bG,bQ]at eη;rw[aK,aK,bQ]at eα;rw[aK,aK,bG,e1]at eβ;have p1:=Int.mul_pos ht hc;have p2:=Int.mul_pos hs hc;have novert:∀w,w∈W->∀k:Int,0<k->k*ev (lin a b) (pt w)=t*ev (lin a b) (pt c)->k*ev (lin c a) (pt w)=s*ev (lin a b) (pt c)->k*ev (lin b c) (pt w)=0->False:=by
    intro w hw k hk h1 h2 h3;have g1:0<ev (lin a b) (pt w):=by
     rcases Int.lt_or_le 0 (ev (lin a b) (pt w))with g|g
     ·exact g
     ·have:=mpn (show 0<=k by omega) g;omega
    have g2:0<ev (lin c a) (pt w):=by
     rcases Int.lt_or_le 0 (ev (lin c a) (pt w))with g|g
     ·exact g
     ·have:=mpn (show 0<=k by omega) g;omega
    have g3:ev (lin b c) (pt w)=0:=by
     rcases Int.mul_eq_zero.1 h3 with g|g
     ·omega
     ·exact g
    rcases hv w hw (by omega) (by omega) (by omega)with e|e|e<;>subst e
    ·rw[bG]at g1;omega
    ·rw[bQ]at g1;omega
    ·rw[bG]at g2;omega
   have hx0:0<x:=by
    rcases Int.lt_or_le 0 x with g|g
    ·exact g
    ·have:x=0:=by omega
     subst x;exact(novert v (N.mem (N.symm huv)) y (by omega) (by omega) (by omega) (by omega)).elim
   have hy0:0<y:=by
    rcases Int.lt_or_le 0 y with g|g
    ·exact g
    ·have:y=0:=by omega
     subst y;exact(novert u (N.mem huv) x (by omega) (by omega) (by omega) (by omega)).elim
   have up:∀{u v:V} {x y:Int},side u v->0<x->0<y->x*ev (lin b c) (pt u)+y*ev (lin b c) (pt v)=0->0<x*ev (lin a b) (pt u)+y*ev (lin a b) (pt v)->0<x*ev (lin c a) (pt u)+y*ev (lin c a) (pt v)->¬0<ev (lin b c) (pt u):=by
    intro u v x y huv hx hy h1 h2 h3 h4;obtain⟨f,hf,g⟩:=hfree u v huv ((1+(ev (lin a b) (pt u)).natAbs+(ev (lin c a) (pt u)).natAbs)*x+1) ((1+(ev (lin a b) (pt u)).natAbs+(ev (lin c a) (pt u)).natAbs)*y) (by have:=mpp (show 0<=(1:Int)+(ev (lin a b) (pt u)).natAbs+(ev (lin c a) (pt u)).natAbs by omega) (show 0<=x by omega);omega) (mpp (by omega) (by omega)) (by have:=mpp (show 0<=(1:Int)+(ev (lin a b) (pt u)).natAbs+(ev (lin c a) (pt u)).natAbs by omega) (show 0<=x by omega);have:=mpp (show 0<=(1:Int)+(ev (lin a b) (pt u)).natAbs+(ev (lin c a) (pt u)).natAbs by omega) (show 0<=y by omega);omega)
    change (_*x+1)*ev f (pt u)+_*y*ev f (pt v)<=0 at g;have e2:∀K A B:Int,(K*x+1)*A+K*y*B=K*(x*A+y*B)+A:=fun K A B=>by grind
    rw[e2]at g;simp only[List.mem_cons,List.not_mem_nil,or_false]at hf;rcases hf with rfl|rfl|rfl
    ·have:=Int.mul_le_mul_of_nonneg_left (show 1<=x*ev (lin a b) (pt u)+y*ev (lin a b) (pt v) by omega) (show 0<=(1:Int)+(ev (lin a b) (pt u)).natAbs+(ev (lin c a) (pt u)).natAbs by omega)
     omega
    ·have:=Int.mul_le_mul_of_nonneg_left (show 1<=x*ev (lin c a) (pt u)+y*ev (lin c a) (pt v) by omega) (show 0<=(1:Int)+(ev (lin a b) (pt u)).natAbs+(ev (lin c a) (pt u)).natAbs by omega)
     omega
    ·have e3:∀w:V,ev (over b c 0) (pt w)=ev (lin b c) (pt w):=fun w=>by rw[lT];omega
     rw[e3,e3,h1]at g;omega
   have uu:=up huv hx0 hy0 (by omega) (by omega) (by omega)
   have vv:=up (N.symm huv) hy0 hx0 (by omega) (by omega) (by omega)
   have s1:=mpn (show 0<=x by omega) (show ev (lin b c) (pt u)<=0 by omega)
   have s2:=mpn (show 0<=y by omega) (show ev (lin b c) (pt v)<=0 by omega)
   have u0:ev (lin b c) (pt u)=0:=by
    rcases Int.mul_eq_zero.1 (show x*ev (lin b c) (pt u)=0 by omega)with g|g
    ·omega
    ·exact g
   have v0:ev (lin b c) (pt v)=0:=by
    rcases Int.mul_eq_zero.1 (show y*ev (lin b c) (pt v)=0 by omega)with g|g
    ·omega
    ·exact g
   have out:∀w∈W,ev (lin b c) (pt w)=0->¬(0<ev (lin a b) (pt w)/\0<ev (lin c a) (pt w)):=by
    rintro w hw h0 ⟨h1,h2⟩;rcases hv w hw (by omega) (by omega) (by omega)with e|e|e<;>subst e
    ·rw[bG]at h1;omega
    ·rw[bQ]at h1;omega
    ·rw[bG]at h2;omega
   have ou:=out u (N.mem huv) u0;have ov:=out v (N.mem (N.symm huv)) v0;have bu:=bs u;have bv:=bs v;have fin:∀{u v:V},side u v->ev (lin b c) (pt u)=0->ev (lin b c) (pt v)=0->0<ev (lin a b) (pt u)->ev (lin c a) (pt u)<=0->0<ev (lin c a) (pt v)->ev (lin a b) (pt v)<=0->False:=by
    intro u v huv u0 v0 h1 h2 h3 h4;have bu:=bs u;have bv:=bs v;have D0:ev (lin a b) (pt c)≠0:=by omega
    have g1:=pJ (a:=b) (b:=c) (c:=a) (q:=pt u) u0;have g2:=pJ (a:=b) (b:=c) (c:=a) (q:=pt v) v0;rw[iX a b c]at g1 g2;have cc:=aJi (u:=u) (v:=v) D0 (g1.trans (by show(⟨_,_,ev (lin a b) (pt c)*1⟩:P3)=_;rw[Int.mul_one];rfl)) (g2.trans (by show(⟨_,_,ev (lin a b) (pt c)*1⟩:P3)=_;rw[Int.mul_one];rfl))
    have k1:c=u\/c=v:=N.clear huv (N.mem (N.symm hac)) (ev (lin c a) (pt v)) (-(ev (lin c a) (pt u))) (ev (lin a b) (pt u)-ev (lin a b) (pt v)) (by omega) (by omega) cc.1 (by omega)
    have k2:b=u\/b=v:=N.clear huv (N.mem (N.symm hab)) (-(ev (lin a b) (pt v))) (ev (lin a b) (pt u)) (ev (lin a b) (pt u)-ev (lin a b) (pt v)) (by omega) (by omega) cc.2 (by omega)
    rcases k1 with e|e<;>rcases k2 with e'|e'
    ·exact hbc (e'.trans e.symm)
    ·subst e e';exact hns (N.symm huv)
    ·subst e e';exact hns huv
    ·exact hbc (e'.trans e.symm)
   by_cases hu:0<ev (lin a b) (pt u)
   ·have:ev (lin c a) (pt u)<=0:=by omega
    have hvv:0<ev (lin c a) (pt v):=by
     rcases Int.lt_or_le 0 (ev (lin c a) (pt v))with g|g
     ·exact g
     ·have:=mpn (show 0<=x by omega) this;have:=mpn (show 0<=y by omega) g;omega
    exact fin huv u0 v0 hu this hvv (by omega)
   ·have hu':0<ev (lin c a) (pt u):=by omega
    have hvv:0<ev (lin a b) (pt v):=by
     rcases Int.lt_or_le 0 (ev (lin a b) (pt v))with g|g
     ·exact g
     ·have:=mpn (show 0<=x by omega) (show ev (lin a b) (pt u)<=0 by omega);have:=mpn (show 0<=y by omega) g;omega
    exact fin (N.symm huv) v0 u0 hvv (by omega) hu' (by omega)
  refine hns (H.max b (N.mem (N.symm hab)) c (N.mem (N.symm hac)) hbc hopen ?_);rw[<-hqi];refine H.same _ _ (by simp only[cmb,pt];omega) hq.1 fun u v huv hm=> ?_
  obtain⟨x,y,s,t,hx,hy,hxy,hs,ht,he⟩:=hm;rcases Int.lt_or_le 0 t with ht0|ht0
  ·obtain⟨f,hf,g⟩:=hfree u v huv x y hx hy hxy;have eF:=congrArg (ev f) he;rw[aK,aK]at eF;change x*ev f (pt u)+y*ev f (pt v)<=0 at g;change x*ev f (pt u)+y*ev f (pt v)=_ at eF;have g1:=Int.mul_pos ht0 (hq.2 f hf);have g2:0<=s*ev f (cmb 1 (pt b) 1 (pt c)):=mpp hs (by
    simp only[List.mem_cons,List.not_mem_nil,or_false]at hf;rcases hf with rfl|rfl|rfl
    ·rw[aK,bQ];omega
    ·rw[aK,bG,e1];omega
    ·rw[aK,lT,lT,bG,bQ];omega)
   omega
  ·have t0:t=0:=by omega
   subst t0;have hs0:0<s:=by
    have:=congrArg P3.d he;simp only[cmb,pt]at this;rcases Int.lt_or_le 0 s with g|g
    ·exact g
    ·have:s=0:=by omega
     subst s;omega
   refine hopen u v huv x y s s hx hy hs0 hs0 ?_;rw[show cmb x (pt u) y (pt v)=cmb s (cmb 1 (pt b) 1 (pt c)) 0 q from he]
   unfold cmb;simp only[P3.mk.injEq];refine⟨?_,?_,?_⟩<;>grind
end
end Go.Proofs.YtdaeofhdgabhjaaGreat.Geo
namespace Go.Proofs.YtdaeofhdgabhjaaGreat.Geo
theorem Fo{α:Type}(f g:α->Int):∀{l:List α},l≠[]->(∀x∈l,0<g x)->∃x∈l,∀y∈l,f x*g y<=f y*g x
 |[],h,_=>absurd rfl h
 |[x],_,_=>⟨x,List.mem_cons_self,fun y hy=>by rw[List.mem_singleton.1 hy];exact Int.le_refl _⟩
 |x::y::l,_,hg=>by
  obtain⟨z,hz,h⟩:=Fo f g (l:=y::l) (by simp) fun w hw=>hg w (List.mem_cons_of_mem _ hw)
  have gx:=hg x List.mem_cons_self;have gz:=hg z (List.mem_cons_of_mem _ hz);by_cases hx:f x*g z<=f z*g x
  ·refine⟨x,List.mem_cons_self,fun w hw=> ?_⟩
   rcases List.mem_cons.1 hw with rfl|hw
   ·exact Int.le_refl _
   ·have gw:=hg w (List.mem_cons_of_mem _ hw);have h1:=h w hw;have e1:=Int.mul_le_mul_of_nonneg_right hx (show 0<=g w by omega)
    have e2:=Int.mul_le_mul_of_nonneg_right h1 (show 0<=g x by omega)
    have e3:(f x*g w)*g z<=(f w*g x)*g z:=by
     have a1:f x*g w*g z=f x*g z*g w:=by grind
     have a2:f w*g x*g z=f w*g z*g x:=by grind
     have a3:f z*g x*g w=f z*g w*g x:=by grind
     omega
    exact Int.le_of_mul_le_mul_right e3 gz
  ·refine⟨z,List.mem_cons_of_mem _ hz,fun w hw=> ?_⟩
   rcases List.mem_cons.1 hw with rfl|hw
   ·omega
   ·exact h w hw
theorem Nd{a b:V}{P r:P3}(h:ev (ln (pt a) P) r=0)(f:P3):ev (lin a b) P*ev f r=(ev (lin a b) P*r.d-ev (lin a b) r*P.d)*ev f (pt a)+ev (lin a b) r*ev f P:=by
 unfold ev ln lin pt at*;grind
theorem aCF{a b:V}{P r:P3}(h:ev (ln (pt a) P) r=0):cmb (ev (lin a b) P) r 0 r=cmb (ev (lin a b) P*r.d-ev (lin a b) r*P.d) (pt a) (ev (lin a b) r) P:=by
 unfold cmb ev ln lin pt at*;simp only[P3.mk.injEq];refine⟨?_,?_,?_⟩<;>grind
theorem around{a b x:V}{P q:P3}:ev (lin a b) P*ev (lin a x) q=ev (lin a b) (pt x)*ev (ln (pt a) P) q-ev (lin a b) q*ev (ln (pt a) P) (pt x):=by
 unfold ev ln lin pt;grind
theorem fan{a b u:V}{P w:P3}:ev (ln (pt a) P) (pt u)*ev (lin a b) w=ev (lin u a) w*ev (lin a b) P+ev (ln (pt a) P) w*ev (lin a b) (pt u):=by
 unfold ev ln lin pt;grind
theorem aBI(u v:V)(a:V)(P:P3)(f:P3):ev f (cmb (-(ev (ln (pt a) P) (pt v))) (pt u) (ev (ln (pt a) P) (pt u)) (pt v))=ev (lin u v) P*ev f (pt a)-ev (lin u v) (pt a)*ev f P:=by
 unfold ev cmb ln lin pt;grind
theorem Ay{u v:V}{p:P3}(h:ev (lin v u) p=0)(f:P3):eL v u*ev f p=(eL v u*p.d-ev (bB v u) p)*ev f (pt v)+ev (bB v u) p*ev f (pt u):=by
 have h1:=congrArg (ev f) (kC h);rw[aK]at h1;rw[h1];unfold ev;grind
theorem aCL{u v:V}(hne:u≠v){ρ q p:P3}(hq:ev (lin v u) q=0)(hp:ev (lin v u) p=0)(h0:ev ρ q=0)(f:P3):
  ev ρ (pt u)*q.d*ev f p=(ev ρ (pt u)*p.d-ev ρ p)*ev f q+ev ρ p*q.d*ev f (pt u):=by
 have hL:=fO (u:=v) (v:=u) fun e=>hne e.symm
 have a1:=Ay hp f;have a2:=Ay hp ρ;have a3:=Ay hq f;have a4:=Ay hq ρ;rw[h0]at a4;generalize ev (bB v u) p=B at*;generalize ev (bB v u) q=D at*;generalize eL v u=L at*;generalize ev f p=fp at*;generalize ev f q=fq at*;generalize ev ρ p=rp at*;generalize ev ρ (pt u)=ru at*;generalize ev ρ (pt v)=rv at*;generalize ev f (pt u)=fu at*;generalize ev f (pt v)=fv at*;have hL2:L*L≠0:=Int.mul_ne_zero (by omega) (by omega)
 apply Int.eq_of_mul_eq_mul_left hL2;have e1:L*L*(ru*q.d*fp)=ru*(L*q.d)*(L*fp):=by grind
 have e2:L*L*((ru*p.d-rp)*fq+rp*q.d*fu)=(ru*(L*p.d)-L*rp)*(L*fq)+(L*rp)*(L*q.d)*fu:=by grind
 rw[e1,e2,a1,a2,a3];generalize hA:L*p.d-B=A at*;generalize hC:L*q.d-D=C at*;have f1:L*p.d=A+B:=by omega
 have f2:L*q.d=C+D:=by omega
 rw[f1,f2];grind
section
variable {W:List V} {side:V->V->Prop} {ins:P3->Bool}
structure Seen(W:List V)(side:V->V->Prop)(a b u v x:V)(P q:P3):Prop where
 net:Net W side
 pos:0<ev (lin a b) P
 thinR:∀w∈W,0<ev (lin a b) (pt w)->0<ev (ln (pt a) P) (pt w)
 uv:side u v
 ru:0<ev (ln (pt a) P) (pt u)
 rv:ev (ln (pt a) P) (pt v)<0
 au:0<ev (lin a b) (pt u)
 first:∀c d,side c d->0<ev (ln (pt a) P) (pt c)->ev (ln (pt a) P) (pt d)<0->∀p:P3,0<p.d->ev (ln (pt a) P) p=0->0<ev (lin a b) p->(∃x y:Int,0<x/\0<y/\p=cmb x (pt c) y (pt d))->ev (lin v u) p<=0
 ka:0<ev (lin v u) (pt a)
 mem:x∈W
 rx:0<ev (ln (pt a) P) (pt x)
 kx:0<=ev (lin v u) (pt x)
 ax:0<ev (lin a b) (pt x)
 ux:0<=ev (lin a x) (pt u)
 least:∀w∈W,0<ev (ln (pt a) P) (pt w)->0<=ev (lin v u) (pt w)->0<=ev (lin a w) (pt u)->0<=ev (lin a x) (pt w)/\(ev (lin a x) (pt w)=0->ev (lin a b) (pt x)<=ev (lin a b) (pt w))
 qd:0<q.d
 qr:ev (ln (pt a) P) q=0
 qk:ev (lin v u) q=0
 qa:0<ev (lin a b) q
 quv:∃x y:Int,0<x/\0<y/\q=cmb x (pt u) y (pt v)
theorem eG{a k:Int}(hk:0<k)(h:0<k*a):0<a:=by
 rcases Int.lt_or_le 0 a with g|g
 ·exact g
 ·have:=mpn (show 0<=k by omega) g;omega
theorem qT{a k:Int}(hk:0<k)(h:k*a<0):a<0:=by
 rcases Int.lt_or_le a 0 with g|g
 ·exact g
 ·have:=mpp (show 0<=k by omega) g;omega
theorem Seen.ang{a b u v x:V}{P q:P3}(_S:Seen W side a b u v x P q){w:V}(r:P3):ev (lin a b) P*ev (lin a w) r=ev (lin a b) (pt w)*ev (ln (pt a) P) r-ev (lin a b) r*ev (ln (pt a) P) (pt w):=around
theorem Seen.wedge{a b u v x:V}{P q:P3}(S:Seen W side a b u v x P q){c d:V}(hcd:side c d){x1 y1:Int}(hx1:0<x1)(hy1:0<=y1)
  (h1:0<ev (ln (pt a) P) (cmb x1 (pt c) y1 (pt d))) (h2:0<ev (lin v u) (cmb x1 (pt c) y1 (pt d))) (h3:ev (lin a x) (cmb x1 (pt c) y1 (pt d))<=0) (hc:ev (lin a x) (pt c)<0):False:=by
 have N:=S.net;have hap:=S.pos;have hvu:u≠v:=N.ne S.uv;by_cases hin:0<=ev (ln (pt a) P) (pt c)/\0<=ev (lin v u) (pt c)
 ·
  have e1:=S.ang (w:=x) (pt c);have n1:=Int.mul_neg_of_pos_of_neg hap hc;have hr:0<ev (ln (pt a) P) (pt c):=by
   rcases Int.lt_or_le 0 (ev (ln (pt a) P) (pt c))with g|g
   ·exact g
   ·exfalso;have r0:ev (ln (pt a) P) (pt c)=0:=by omega
    have ac:ev (lin a b) (pt c)<=0:=by
     refine Int.not_lt.1 fun g2=> ?_
     have:=S.thinR c (N.mem hcd) g2;omega
    rw[r0,Int.mul_zero]at e1;have:=mnp ac (show 0<=ev (ln (pt a) P) (pt x) by have:=S.rx;omega)
    omega
  have hac:0<ev (lin a b) (pt c):=by
   have p1:=Int.mul_pos S.ax hr;have p2:0<ev (lin a b) (pt c)*ev (ln (pt a) P) (pt x):=by omega
   rw[Int.mul_comm]at p2;exact eG S.rx p2
  have eu:=S.ang (w:=x) (pt u);have ec:=S.ang (w:=c) (pt u);have m1:=mpp (show 0<=ev (lin a b) P by omega) S.ux
  have key:0<=ev (lin a b) P*ev (lin a c) (pt u):=by
   rw[ec];have k1:ev (ln (pt a) P) (pt c)*ev (lin a b) (pt x)<ev (ln (pt a) P) (pt x)*ev (lin a b) (pt c):=by
    rw[Int.mul_comm (ev (ln (pt a) P) (pt c)),Int.mul_comm (ev (ln (pt a) P) (pt x))];omega
   have k2:ev (ln (pt a) P) (pt x)*ev (lin a b) (pt u)<=ev (ln (pt a) P) (pt u)*ev (lin a b) (pt x):=by
    rw[Int.mul_comm (ev (ln (pt a) P) (pt x)),Int.mul_comm (ev (ln (pt a) P) (pt u))];omega
   have k3:=zJ (n1:=ev (ln (pt a) P) (pt c)) (d1:=ev (lin a b) (pt c)) (n2:=ev (ln (pt a) P) (pt x)) (d2:=ev (lin a b) (pt x)) (n3:=ev (ln (pt a) P) (pt u)) (d3:=ev (lin a b) (pt u)) hac S.ax S.au k1 k2;rw[Int.mul_comm (ev (lin a b) (pt c)),Int.mul_comm (ev (lin a b) (pt u))];omega
  have hsc:0<=ev (lin a c) (pt u):=nnl hap (by rw[Int.mul_comm];exact key)
  have:=(S.least c (N.mem hcd) hr hin.2 hsc).1;omega
 ·obtain⟨s,t,hs,ht,hp⟩:=aB4 (F:=ln (pt a) P) (G:=lin v u) (z:=cmb x1 (pt c) y1 (pt d)) (g:=pt c) h1 h2 (by omega)
  have hd0:0<(cmb s (cmb x1 (pt c) y1 (pt d)) t (pt c)).d:=by
   simp only[cmb,pt];have:=mpp (show 0<=s by omega) (show 0<=x1*1+y1*1 by omega);omega
  have hγ:ev (lin a x) (cmb s (cmb x1 (pt c) y1 (pt d)) t (pt c))<0:=by
   rw[aK];have:=mpn (show 0<=s by omega) h3;have:=Int.mul_neg_of_pos_of_neg ht hc;omega
  have hy0:0<y1:=by
   rcases Int.lt_or_le 0 y1 with g|g
   ·exact g
   ·have:y1=0:=by omega
    subst y1;rw[aK,Int.zero_mul,Int.add_zero]at h1 h2;exact(hin ⟨by have:=eG hx1 h1;omega,by have:=eG hx1 h2;omega⟩).elim
  have exp:cmb s (cmb x1 (pt c) y1 (pt d)) t (pt c)=cmb (s*x1+t) (pt c) (s*y1) (pt d):=by
   unfold cmb;simp only[P3.mk.injEq];refine⟨?_,?_,?_⟩<;>grind
  have w1:0<s*x1+t:=by have:=Int.mul_pos hs hx1;omega
  have w2:0<s*y1:=Int.mul_pos hs hy0;have hev:∀f,ev f (cmb s (cmb x1 (pt c) y1 (pt d)) t (pt c))=s*ev f (cmb x1 (pt c) y1 (pt d))+t*ev f (pt c):=fun f=>aK _ _ _ _ _
  have hr1:=hev (ln (pt a) P);generalize hpp:cmb s (cmb x1 (pt c) y1 (pt d)) t (pt c)=p at*;obtain⟨xq,yq,hxq,hyq,hq⟩:=S.quv;have clash:∀k m:Int,0<k->0<m->cmb k p 0 p=cmb m q 0 q->False:=by
   intro k m hk hm he;have:cmb (k*(s*x1+t)) (pt c) (k*(s*y1)) (pt d)=cmb (m*xq) (pt u) (m*yq) (pt v):=by
    rw[exp,hq]at he;unfold cmb at he|-;simp only[P3.mk.injEq]at he|-;refine⟨?_,?_,?_⟩<;>grind
   rcases N.apart hcd S.uv _ _ _ _ (Int.mul_pos hk w1) (Int.mul_pos hk w2) (Int.mul_pos hm hxq) (Int.mul_pos hm hyq) this with⟨rfl,rfl⟩|⟨rfl,rfl⟩
   ·rw[aK,bG,bQ]at h2;omega
   ·rw[aK,bG,bQ]at h2;omega
  have caseR:ev (ln (pt a) P) p=0->0<=ev (lin v u) p->False:=by
   intro g1 g2;have e1:=S.ang (w:=x) p;have n1:=Int.mul_neg_of_pos_of_neg hap hγ;have hap':0<ev (lin a b) p:=by
    rw[g1,Int.mul_zero]at e1;have p2:0<ev (lin a b) p*ev (ln (pt a) P) (pt x):=by omega
    rw[Int.mul_comm]at p2;exact eG S.rx p2
   have rz:=Int.mul_pos hs h1;have rc:ev (ln (pt a) P) (pt c)<0:=qT ht (by omega)
   have rd:0<ev (ln (pt a) P) (pt d):=by
    rw[aK]at h1;have:=Int.mul_neg_of_pos_of_neg hx1 rc;exact eG hy0 (by omega)
   have hf:=S.first d c (N.symm hcd) rd rc p hd0 g1 hap' ⟨s*y1,s*x1+t,w2,w1,by rw[exp,jG]⟩
   have k0:ev (lin v u) p=0:=by omega
   have r1:=aCF (a:=a) (b:=b) g1;have r2:=aCF (a:=a) (b:=b) S.qr;have v1:=Nd (a:=a) (b:=b) g1 (lin v u);have v2:=Nd (a:=a) (b:=b) S.qr (lin v u);rw[k0,Int.mul_zero]at v1;rw[S.qk,Int.mul_zero]at v2;have hqa:=S.qa;have hka:=S.ka;have hqd:=S.qd;have cross:ev (lin a b) q*p.d=ev (lin a b) p*q.d:=by
    have e3:ev (lin a b) P*ev (lin v u) (pt a)*(ev (lin a b) q*p.d-ev (lin a b) p*q.d)=0:=by
     generalize ev (lin a b) P=A at*;generalize ev (lin v u) (pt a)=K at*;generalize ev (lin a b) q=aq at*;generalize ev (lin a b) p=ap at*;generalize ev (lin v u) P=KP at*;grind
    rcases Int.mul_eq_zero.1 e3 with g|g
    ·have:=Int.mul_pos hap hka;omega
    ·omega
   refine clash (ev (lin a b) P*ev (lin a b) q) (ev (lin a b) P*ev (lin a b) p) (Int.mul_pos hap hqa) (Int.mul_pos hap hap') ?_;unfold cmb at r1 r2|-;simp only[P3.mk.injEq]at r1 r2|-;generalize ev (lin a b) P=A at*;generalize ev (lin a b) q=aq at*;generalize ev (lin a b) p=ap at*;refine⟨?_,?_,?_⟩<;>grind
  rcases hp with⟨g1,g2⟩|⟨g1,g2⟩
  ·exact caseR g1 g2
  ·by_cases hr0:ev (ln (pt a) P) p=0
   ·exact caseR hr0 (by omega)
   ·have hrp:0<ev (ln (pt a) P) p:=by omega
    have lq:=aCL hvu S.qk g1 S.qr (lin a x);have γq:ev (lin a x) q<0:=by
     have e1:=S.ang (w:=x) q;rw[S.qr,Int.mul_zero]at e1;have:=Int.mul_pos S.qa S.rx;exact qT hap (by omega)
    have hbet:0<ev (ln (pt a) P) (pt u)*p.d-ev (ln (pt a) P) p:=by
     refine Int.not_le.1 fun hn=> ?_
     have t1:=mnn hn (show ev (lin a x) q<=0 by omega)
     have t2:=mpp (mpp (show 0<=ev (ln (pt a) P) p by omega) (show 0<=q.d by have:=S.qd;omega)) S.ux
     have t3:=Int.mul_neg_of_pos_of_neg (Int.mul_pos S.ru S.qd) hγ;omega
    have lx:∀f,ev (ln (pt a) P) (pt u)*q.d*ev f p=(ev (ln (pt a) P) (pt u)*p.d-ev (ln (pt a) P) p)*ev f q+ev (ln (pt a) P) p*q.d*ev f (pt u):=fun f=>aCL hvu S.qk g1 S.qr f
    have cx:=lx ⟨1,0,0⟩;have cy:=lx ⟨0,1,0⟩;have cd:=lx ⟨0,0,1⟩;have ex:∀r:P3,ev ⟨1,0,0⟩ r=r.x:=fun r=>by unfold ev;simp
    have ey:∀r:P3,ev ⟨0,1,0⟩ r=r.y:=fun r=>by unfold ev;simp
    have ed:∀r:P3,ev ⟨0,0,1⟩ r=r.d:=fun r=>by unfold ev;simp
    rw[ex,ex,ex]at cx;rw[ey,ey,ey]at cy;rw[ed,ed,ed]at cd;have hM:0<ev (ln (pt a) P) (pt u)*q.d:=Int.mul_pos S.ru S.qd;have hB:0<ev (ln (pt a) P) p*q.d:=Int.mul_pos hrp S.qd;generalize ev (ln (pt a) P) (pt u)*q.d=M at*;generalize ev (ln (pt a) P) (pt u)*p.d-ev (ln (pt a) P) p=A at*;generalize ev (ln (pt a) P) p*q.d=B at*;have:cmb (M*(s*x1+t)) (pt c) (M*(s*y1)) (pt d)=cmb (A*xq+B) (pt u) (A*yq) (pt v):=by
     rw[exp,hq]at cx cy cd;unfold cmb at*;simp only[P3.mk.injEq]at*;refine⟨?_,?_,?_⟩<;>grind
    rcases N.apart hcd S.uv _ _ _ _ (Int.mul_pos hM w1) (Int.mul_pos hM w2) (show 0<A*xq+B by have:=Int.mul_pos hbet hxq;omega) (Int.mul_pos hbet hyq) this with⟨rfl,rfl⟩|⟨rfl,rfl⟩
    ·rw[aK,bG,bQ]at h2;omega
    ·rw[aK,bG,bQ]at h2;omega
end
end Go.Proofs.YtdaeofhdgabhjaaGreat.Geo
namespace Go.Proofs.YtdaeofhdgabhjaaGreat.Geo
theorem aIr{α:Type}(f:α->Int):∀l:List α,∃M:Int,0<=M/\∀x∈l,f x<=M/\ -M<=f x
 |[] =>⟨0,Int.le_refl _,fun x hx=>by cases hx⟩
 |x::l=>by
  obtain⟨M,h0,h⟩:=aIr f l;refine⟨M+(f x).natAbs,by omega,fun y hy=> ?_⟩
  rcases List.mem_cons.1 hy with rfl|hy
  ·omega
  ·have:=h y hy;omega
section
variable {W:List V} {side:V->V->Prop} {ins:P3->Bool}
theorem Lft.start{a b:V}(hne:a≠b)(hL:Lft ins a b)(W:List V):∃(N:Int) (P:P3),0<=N/\In (thin a b N) P/\(∀q,In (thin a b N) q->ins q=true)/\∀w∈W,0<ev (lin a b) (pt w)->0<ev (ln (pt a) P) (pt w):=by
 obtain⟨N0,hN⟩:=hL;have hL2:=fO hne;have e9:(b.x-a.x)*(b.x-a.x)-(b.y-a.y)* -(b.y-a.y)=eL a b:=by unfold eL;grind
 obtain⟨M0,hM0,hI⟩:=kI hne (x:= -(b.y-a.y)) (y:=b.x-a.x) (by omega) (max N0 0)
 obtain⟨M1,hM1,hB⟩:=aIr (fun w=>ev (ln (pt a) ⟨-(b.y-a.y),b.x-a.x,0⟩) (pt w)) W
 refine⟨max N0 0,cZ a b (M0+M1) (-(b.y-a.y)) (b.x-a.x),by omega,hI _ (by omega),hN _ (by omega),fun w hw h=> ?_⟩
 have e1:∀M:Int,ev (ln (pt a) (cZ a b M (-(b.y-a.y)) (b.x-a.x))) (pt w)=M*ev (lin a b) (pt w)+ev (ln (pt a) ⟨-(b.y-a.y),b.x-a.x,0⟩) (pt w):=fun M=>by unfold ev ln lin cZ pt;grind
 rw[e1];have:=hB w hw;have h2:=Int.mul_le_mul_of_nonneg_left (show 1<=ev (lin a b) (pt w) by omega) (show 0<=M0+M1 by omega)
 omega
theorem aFN(a w u:V):ev (lin u a) (pt w)=ev (lin a w) (pt u):=by unfold ev lin pt;grind
open Classical in
theorem see(H:Filled W side ins){a b:V}(hab:side a b)(hL:Lft ins a b):
  ∃(N:Int) (u v x:V) (P q:P3),0<=N/\In (thin a b N) P/\(∀q,In (thin a b N) q->ins q=true)/\Seen W side a b u v x P q:=by
 have Nt:=H.net;have hne:=Nt.ne hab;obtain⟨N,P,hN0,hP,hin,hW⟩:=hL.start hne W;obtain⟨p0,p1,p2,p3⟩:=lS.1 hP;have hray:ev (ln (pt a) P) P=0:=Fe _ _;have hra:ev (ln (pt a) P) (pt a)=0:=Om _ _;obtain⟨B,hB0,hB⟩:=H.far;have hfar:∃T:Int,0<=T/\ins (cmb (-(T*P.d)) (pt a) (T+1) P)=false:=by
  have hd:∀T:Int,(cmb (-(T*P.d)) (pt a) (T+1) P).d=P.d:=fun T=>by simp only[cmb,pt];grind
  have hx:∀T:Int,(cmb (-(T*P.d)) (pt a) (T+1) P).x=P.x+T*(P.x-a.x*P.d):=fun T=>by simp only[cmb,pt];grind
  have hy:∀T:Int,(cmb (-(T*P.d)) (pt a) (T+1) P).y=P.y+T*(P.y-a.y*P.d):=fun T=>by simp only[cmb,pt];grind
  have hB2:=mpp hB0 (show 0<=P.d by omega)
  refine⟨1+B*P.d+P.x.natAbs+P.y.natAbs,by omega,hB _ (by rw[hd];exact p0) ?_⟩
  rw[hd,hx,hy];have hδ:P.x-a.x*P.d≠0\/P.y-a.y*P.d≠0:=by
   refine Classical.byContradiction fun hn=> ?_
   have h1:P.x=a.x*P.d:=by omega
   have h2:P.y=a.y*P.d:=by omega
   have:ev (lin a b) P=0:=by unfold ev lin;rw[h1,h2];grind
   omega
  have grow:∀δ:Int,0<δ->1+B*P.d+P.x.natAbs+P.y.natAbs<=(1+B*P.d+P.x.natAbs+P.y.natAbs)*δ:=fun δ h=>by
   have:=Int.mul_le_mul_of_nonneg_left (show 1<=δ by omega) (show 0<=1+B*P.d+(P.x.natAbs:Int)+(P.y.natAbs:Int) by omega);omega
  rcases hδ with h|h
  ·rcases Int.lt_or_gt_of_ne h with g|g
   ·have:=grow (-(P.x-a.x*P.d)) (by omega);rw[Int.mul_neg]at this;omega
   ·have:=grow _ g;omega
  ·rcases Int.lt_or_gt_of_ne h with g|g
   ·have:=grow (-(P.y-a.y*P.d)) (by omega);rw[Int.mul_neg]at this;omega
   ·have:=grow _ g;omega
 obtain⟨T,hT0,hT⟩:=hfar;have hTd:(cmb (-(T*P.d)) (pt a) (T+1) P).d=P.d:=by simp only[cmb,pt];grind
 have hcross:∃c d,side c d/\0<ev (ln (pt a) P) (pt c)/\ev (ln (pt a) P) (pt d)<0/\0<ev (lin a b) (cmb (-(ev (ln (pt a) P) (pt d))) (pt c) (ev (ln (pt a) P) (pt c)) (pt d)):=by
  refine Classical.byContradiction fun hn=> ?_
  have hs:ins P=ins (cmb (-(T*P.d)) (pt a) (T+1) P):=by
   refine H.same _ _ p0 (by rw[hTd];exact p0) fun c d hcd hm=> ?_
   obtain⟨x,y,s,t,hx,hy,hxy,hs,ht,he⟩:=hm;have eρ:=congrArg (ev (ln (pt a) P)) he;have eα:=congrArg (ev (lin a b)) he;have ed:=congrArg P3.d he;rw[aK,aK,aK,hray,hra]at eρ;rw[aK,aK,aK,bG,Int.mul_zero,Int.zero_add]at eα;rw[Int.mul_zero,Int.mul_zero,Int.mul_zero,Int.add_zero,Int.mul_zero,Int.add_zero]at eρ;dsimp only at eρ eα;have hst:0<s\/0<t:=by
    simp only[cmb,pt]at ed;refine Classical.byContradiction fun h0=> ?_
    have:s=0:=by omega
    have:t=0:=by omega
    subst s t;omega
   have hα:0<x*ev (lin a b) (pt c)+y*ev (lin a b) (pt d):=by
    have g1:=mpp hs (show 0<=ev (lin a b) P by omega)
    have g2:=mpp ht (show 0<=(T+1)*ev (lin a b) P from mpp (by omega) (by omega))
    rcases hst with k|k
    ·have:=Int.mul_pos k p1;omega
    ·have:=Int.mul_pos k (Int.mul_pos (show 0<T+1 by omega) p1);omega
   have hρ:x*ev (ln (pt a) P) (pt c)+y*ev (ln (pt a) P) (pt d)=0:=by omega
   have nv:∀w,w∈W->ev (ln (pt a) P) (pt w)<=0->ev (lin a b) (pt w)<=0:=fun w hw h=>by
    refine Int.not_lt.1 fun g=> ?_
    have:=hW w hw g;omega
   have hcW:=Nt.mem hcd;have hdW:=Nt.mem (Nt.symm hcd);rcases Int.lt_trichotomy (ev (ln (pt a) P) (pt c)) 0 with h1|h1|h1
   ·have a1:=nv c hcW (by omega)
    have m1:=mpn hx a1;have hy0:0<y:=by
     rcases Int.lt_or_le 0 y with g|g
     ·exact g
     ·have:y=0:=by omega
      subst y;omega
    have a2:0<ev (lin a b) (pt d):=eG hy0 (by omega)
    have r2:=hW d hdW a2;refine hn ⟨d,c,Nt.symm hcd,r2,h1,?_⟩;rw[aK];have hx0:0<x:=by
     rcases Int.lt_or_le 0 x with g|g
     ·exact g
     ·have:x=0:=by omega
      subst x;have:=Int.mul_pos hy0 r2;omega
    refine eG hx0 ?_;have e2:x*(-(ev (ln (pt a) P) (pt c))*ev (lin a b) (pt d)+ev (ln (pt a) P) (pt d)*ev (lin a b) (pt c))=ev (ln (pt a) P) (pt d)*(x*ev (lin a b) (pt c)+y*ev (lin a b) (pt d)):=by
     generalize ev (ln (pt a) P) (pt c)=rc at*;generalize ev (ln (pt a) P) (pt d)=rd at*;generalize ev (lin a b) (pt c)=ac at*;generalize ev (lin a b) (pt d)=ad at*;grind
    rw[e2];exact Int.mul_pos r2 hα
   ·have a1:=nv c hcW (by omega)
    have m1:=mpn hx a1;rw[h1]at hρ;have hy0:0<y:=by
     rcases Int.lt_or_le 0 y with g|g
     ·exact g
     ·have:y=0:=by omega
      subst y;omega
    have r0:ev (ln (pt a) P) (pt d)=0:=by
     rcases Int.mul_eq_zero.1 (show y*ev (ln (pt a) P) (pt d)=0 by omega)with g|g
     ·omega
     ·exact g
    have a2:=nv d hdW (by omega)
    have:=mpn hy a2;omega
   ·by_cases hx0:0<x
    ·have r2:ev (ln (pt a) P) (pt d)<0:=by
      have:=Int.mul_pos hx0 h1;refine Int.not_le.1 fun g=> ?_
      have:=mpp hy g;omega
     have hy0:0<y:=by
      rcases Int.lt_or_le 0 y with g|g
      ·exact g
      ·have:y=0:=by omega
       subst y;have:=Int.mul_pos hx0 h1;omega
     refine hn ⟨c,d,hcd,h1,r2,?_⟩;rw[aK];refine eG hy0 ?_;have e2:y*(-(ev (ln (pt a) P) (pt d))*ev (lin a b) (pt c)+ev (ln (pt a) P) (pt c)*ev (lin a b) (pt d))=ev (ln (pt a) P) (pt c)*(x*ev (lin a b) (pt c)+y*ev (lin a b) (pt d)):=by
      generalize ev (ln (pt a) P) (pt c)=rc at*;generalize ev (ln (pt a) P) (pt d)=rd at*;generalize ev (lin a b) (pt c)=ac at*;generalize ev (lin a b) (pt d)=ad at*;grind
     rw[e2];exact Int.mul_pos h1 hα
    ·have x0:x=0:=by omega
     subst x;have hy0:0<y:=by omega
     have r0:ev (ln (pt a) P) (pt d)=0:=by
      rcases Int.mul_eq_zero.1 (show y*ev (ln (pt a) P) (pt d)=0 by omega)with g|g
      ·omega
      ·exact g
     have a2:=nv d hdW (by omega)
     have:=mpn hy a2;omega
  rw[hin P hP,hT]at hs;cases hs
 have hl:((W.flatMap fun c=>W.map fun d=>(c,d)).filter fun q=>decide (side q.1 q.2/\0<ev (ln (pt a) P) (pt q.1)/\ev (ln (pt a) P) (pt q.2)<0/\0<ev (lin a b) (cmb (-(ev (ln (pt a) P) (pt q.2))) (pt q.1) (ev (ln (pt a) P) (pt q.1)) (pt q.2))))≠[] :=by
  obtain⟨c,d,h1,h2⟩:=hcross;exact List.ne_nil_of_mem (List.mem_filter.2 ⟨List.mem_flatMap.2 ⟨c,Nt.mem h1,List.mem_map.2 ⟨d,Nt.mem (Nt.symm h1),rfl⟩⟩,decide_eq_true ⟨h1,h2⟩⟩)
 obtain⟨⟨u,v⟩,huv,hmin⟩:=Fo (fun q:V×V=>ev (lin a b) (cmb (-(ev (ln (pt a) P) (pt q.2))) (pt q.1) (ev (ln (pt a) P) (pt q.1)) (pt q.2))) (fun q:V×V=>ev (ln (pt a) P) (pt q.1)-ev (ln (pt a) P) (pt q.2)) hl fun q hq=>by
  have:=of_decide_eq_true (List.mem_filter.1 hq).2;omega
 have hs:=of_decide_eq_true (List.mem_filter.1 huv).2;dsimp only at hs hmin;obtain⟨suv,ru,rv,aq⟩:=hs;have uW:=Nt.mem suv;have vW:=Nt.mem (Nt.symm suv);have qd:(cmb (-(ev (ln (pt a) P) (pt v))) (pt u) (ev (ln (pt a) P) (pt u)) (pt v)).d=ev (ln (pt a) P) (pt u)-ev (ln (pt a) P) (pt v):=by
  show-(ev (ln (pt a) P) (pt v))*1+ev (ln (pt a) P) (pt u)*1=_;omega
 have qr:ev (ln (pt a) P) (cmb (-(ev (ln (pt a) P) (pt v))) (pt u) (ev (ln (pt a) P) (pt u)) (pt v))=0:=by
  rw[aK,Int.neg_mul,Int.mul_comm];omega
 have qk:ev (lin v u) (cmb (-(ev (ln (pt a) P) (pt v))) (pt u) (ev (ln (pt a) P) (pt u)) (pt v))=0:=by
  rw[aK,bG,bQ];omega
 have ka:0<ev (lin v u) (pt a):=by
  have:=aBI u v a P (lin a b);rw[this,bG,Int.mul_zero,Int.zero_sub,<-Int.neg_mul]at aq;rw[nJ];rw[Int.mul_comm]at aq;exact eG p1 aq
 have av:ev (lin a b) (pt v)<=0:=by
  refine Int.not_lt.1 fun g=> ?_
  have:=hW v vW g;omega
 have au:0<ev (lin a b) (pt u):=by
  rw[aK]at aq;have:=mpn (show 0<=ev (ln (pt a) P) (pt u) by omega) av
  exact eG (show 0< -(ev (ln (pt a) P) (pt v)) by omega) (by omega)
 have αX:∀w:V,0<ev (ln (pt a) P) (pt w)->0<=ev (lin a w) (pt u)->0<ev (lin a b) (pt w):=fun w h1 h2=>by
  have:=fan (a:=a) (b:=b) (u:=u) (P:=P) (w:=pt w);rw[aFN a w u]at this;have g1:=mpp h2 (show 0<=ev (lin a b) P by omega)
  have g2:=Int.mul_pos h1 au;exact eG ru (by omega)
 have hX:(W.filter fun w=>decide (0<ev (ln (pt a) P) (pt w))&&decide (0<=ev (lin v u) (pt w))&&decide (0<=ev (lin a w) (pt u)))≠[] :=by
  refine List.ne_nil_of_mem (a:=u) (List.mem_filter.2 ⟨uW,?_⟩);rw[decide_eq_true ru,bQ,bQ];rfl
 have memX:∀{w:V},w∈(W.filter fun w=>decide (0<ev (ln (pt a) P) (pt w))&&decide (0<=ev (lin v u) (pt w))&&decide (0<=ev (lin a w) (pt u)))↔(w∈W/\0<ev (ln (pt a) P) (pt w)/\0<=ev (lin v u) (pt w)/\0<=ev (lin a w) (pt u)):=fun{w}=>by
  simp only[List.mem_filter,Bool.and_eq_true,decide_eq_true_eq];constructor
  ·rintro⟨h1,⟨h2,h3⟩,h4⟩;exact⟨h1,h2,h3,h4⟩
  ·rintro⟨h1,h2,h3,h4⟩;exact⟨h1,⟨h2,h3⟩,h4⟩
 obtain⟨x1,hx1,hm1⟩:=Fo (fun w:V=>ev (ln (pt a) P) (pt w)) (fun w:V=>ev (lin a b) (pt w)) hX fun w hw=>by
  obtain⟨_,h1,_,h2⟩:=memX.1 hw;exact αX w h1 h2
 have ang:∀w r:V,ev (lin a b) P*ev (lin a w) (pt r)=ev (lin a b) (pt w)*ev (ln (pt a) P) (pt r)-ev (lin a b) (pt r)*ev (ln (pt a) P) (pt w):=fun w r=>around
 have hX2:((W.filter fun w=>decide (0<ev (ln (pt a) P) (pt w))&&decide (0<=ev (lin v u) (pt w))&&decide (0<=ev (lin a w) (pt u))).filter fun w=>decide (ev (lin a x1) (pt w)=0))≠[] :=
  List.ne_nil_of_mem (a:=x1) (List.mem_filter.2 ⟨hx1,by rw[bQ];rfl⟩)
 obtain⟨x,hx2,hm2⟩:=No (fun w:V=> -(ev (lin a b) (pt w))) hX2
 obtain⟨hx,hx0⟩:=List.mem_filter.1 hx2;have hx0:ev (lin a x1) (pt x)=0:=of_decide_eq_true hx0;obtain⟨xW,xr,xk,xs⟩:=memX.1 hx;obtain⟨x1W,x1r,x1k,x1s⟩:=memX.1 hx1;have ax:=αX x xr xs;have ax1:=αX x1 x1r x1s;have eq1:ev (lin a b) (pt x1)*ev (ln (pt a) P) (pt x)=ev (lin a b) (pt x)*ev (ln (pt a) P) (pt x1):=by
  have:=ang x1 x;rw[hx0,Int.mul_zero]at this;omega
 refine⟨N,u,v,x,P,_,hN0,hP,hin,Nt,p1,hW,suv,ru,rv,au,?_,ka,xW,xr,xk,ax,xs,?_,by rw[qd];omega,qr,qk,aq,⟨_,_,by omega,ru,rfl⟩⟩
 ·intro c d hcd rc rd p hpd hpr hpa ⟨x',y',hx',hy',hp⟩;have cW:=Nt.mem hcd;have dW:=Nt.mem (Nt.symm hcd);have eρ:=hpr;rw[hp,aK]at eρ;have prop:∀f:P3,ev (ln (pt a) P) (pt c)*ev f p=y'*ev f (cmb (-(ev (ln (pt a) P) (pt d))) (pt c) (ev (ln (pt a) P) (pt c)) (pt d)):=fun f=>by
   rw[hp,aK,aK];generalize ev (ln (pt a) P) (pt c)=rc' at*;generalize ev (ln (pt a) P) (pt d)=rd' at*;grind
  have pα:=prop (lin a b);have pd:=prop ⟨0,0,1⟩;have ed:∀r:P3,ev ⟨0,0,1⟩ r=r.d:=fun r=>by unfold ev;simp
  rw[ed,ed]at pd;have cd':(cmb (-(ev (ln (pt a) P) (pt d))) (pt c) (ev (ln (pt a) P) (pt c)) (pt d)).d=ev (ln (pt a) P) (pt c)-ev (ln (pt a) P) (pt d):=by
   show-(ev (ln (pt a) P) (pt d))*1+ev (ln (pt a) P) (pt c)*1=_;omega
  have hca:0<ev (lin a b) (cmb (-(ev (ln (pt a) P) (pt d))) (pt c) (ev (ln (pt a) P) (pt c)) (pt d)):=
   eG hy' (by rw[<-pα];exact Int.mul_pos rc hpa)
  have hm:=hmin (c,d) (List.mem_filter.2 ⟨List.mem_flatMap.2 ⟨c,cW,List.mem_map.2 ⟨d,dW,rfl⟩⟩,decide_eq_true ⟨hcd,rc,rd,hca⟩⟩);dsimp only at hm;rw[<-cd',<-qd]at hm;have v1:=Nd (a:=a) (b:=b) hpr (lin v u);have v2:=Nd (a:=a) (b:=b) qr (lin v u);rw[qk,Int.mul_zero]at v2;have hqd:0<(cmb (-(ev (ln (pt a) P) (pt v))) (pt u) (ev (ln (pt a) P) (pt u)) (pt v)).d:=by rw[qd];omega
  generalize cmb (-(ev (ln (pt a) P) (pt v))) (pt u) (ev (ln (pt a) P) (pt u)) (pt v)=q at*;generalize cmb (-(ev (ln (pt a) P) (pt d))) (pt c) (ev (ln (pt a) P) (pt c)) (pt d)=q' at*;refine Int.not_lt.1 fun hk=> ?_
  have e3:ev (lin a b) P*(ev (lin a b) q*ev (lin v u) p)=ev (lin a b) P*(ev (lin v u) (pt a)*(ev (lin a b) q*p.d-ev (lin a b) p*q.d)):=by
   generalize ev (lin a b) P=A at*;generalize ev (lin v u) (pt a)=K at*;generalize ev (lin a b) q=aq' at*;generalize ev (lin a b) p=ap at*;generalize ev (lin v u) P=KP at*;generalize ev (lin v u) p=kp at*;grind
  have e4:=Int.eq_of_mul_eq_mul_left (show ev (lin a b) P≠0 by omega) e3
  have g1:=Int.mul_pos aq hk;have g2:0<ev (lin a b) q*p.d-ev (lin a b) p*q.d:=eG ka (by omega)
  have g3:=Int.mul_le_mul_of_nonneg_left hm (show 0<=y' by omega)
  have g4:ev (ln (pt a) P) (pt c)*(ev (lin a b) q*p.d-ev (lin a b) p*q.d)<=0:=by
   have a1:ev (ln (pt a) P) (pt c)*(ev (lin a b) q*p.d-ev (lin a b) p*q.d)=ev (lin a b) q*(ev (ln (pt a) P) (pt c)*p.d)-(ev (ln (pt a) P) (pt c)*ev (lin a b) p)*q.d:=by grind
   rw[a1,pα,pd];have a2:ev (lin a b) q*(y'*q'.d)=y'*(ev (lin a b) q*q'.d):=by grind
   have a3:y'*ev (lin a b) q'*q.d=y'*(ev (lin a b) q'*q.d):=by grind
   rw[a2,a3];omega
  have:=Int.mul_pos rc g2;omega
 ·intro w wW wr wk ws;have hw:=memX.2 ⟨wW,wr,wk,ws⟩;have aw:=αX w wr ws;have h1:=hm1 w hw;have e1:=ang x w;have e2:ev (lin a b) (pt x1)*(ev (lin a b) (pt x)*ev (ln (pt a) P) (pt w)-ev (lin a b) (pt w)*ev (ln (pt a) P) (pt x))=ev (lin a b) (pt x)*(ev (ln (pt a) P) (pt w)*ev (lin a b) (pt x1)-ev (ln (pt a) P) (pt x1)*ev (lin a b) (pt w)):=by
   generalize ev (lin a b) (pt x1)=A1 at*;generalize ev (lin a b) (pt x)=A at*;generalize ev (lin a b) (pt w)=Aw at*;generalize ev (ln (pt a) P) (pt x1)=R1 at*;generalize ev (ln (pt a) P) (pt x)=R at*;generalize ev (ln (pt a) P) (pt w)=Rw at*;grind
  constructor
  ·have g:=mpp (show 0<=ev (lin a b) (pt x) by omega) (show 0<=ev (ln (pt a) P) (pt w)*ev (lin a b) (pt x1)-ev (ln (pt a) P) (pt x1)*ev (lin a b) (pt w) by omega)
   rw[<-e2]at g;have g2:0<=ev (lin a b) (pt x)*ev (ln (pt a) P) (pt w)-ev (lin a b) (pt w)*ev (ln (pt a) P) (pt x):=by
    rw[Int.mul_comm]at g;exact nnl ax1 g
   rw[<-e1]at g2;rw[Int.mul_comm]at g2;exact nnl p1 g2
  ·intro h0;rw[h0,Int.mul_zero]at e1;rw[<-e1,Int.mul_zero]at e2;have z:ev (ln (pt a) P) (pt w)*ev (lin a b) (pt x1)-ev (ln (pt a) P) (pt x1)*ev (lin a b) (pt w)=0:=by
    rcases Int.mul_eq_zero.1 e2.symm with g|g
    ·omega
    ·exact g
   have e3:=ang x1 w;have z2:ev (lin a x1) (pt w)=0:=by
    have:ev (lin a b) P*ev (lin a x1) (pt w)=0:=by rw[e3,Int.mul_comm (ev (lin a b) (pt x1)),Int.mul_comm (ev (lin a b) (pt w))];exact z
    rcases Int.mul_eq_zero.1 this with g|g
    ·omega
    ·exact g
   have:=hm2 w (List.mem_filter.2 ⟨hw,decide_eq_true z2⟩);omega
theorem Aj{a b x w:V}(h0:ev (lin a x) (pt w)=0)(f:P3):ev (lin a b) (pt x)*ev f (pt w)=(ev (lin a b) (pt x)-ev (lin a b) (pt w))*ev f (pt a)+ev (lin a b) (pt w)*ev f (pt x):=by
 unfold ev lin pt at*;grind
theorem aNG{a b x c d:V}(hA:ev (lin a b) (pt x)≠0)(c0:ev (lin a x) (pt c)=0)(d0:ev (lin a x) (pt d)=0):
  cmb (ev (lin a b) (pt d)) (pt c) (-(ev (lin a b) (pt c))) (pt d)=cmb (ev (lin a b) (pt d)-ev (lin a b) (pt c)) (pt a) 0 (pt a):=by
 have rc1:=Aj (b:=b) c0 ⟨1,0,0⟩;have rc2:=Aj (b:=b) c0 ⟨0,1,0⟩;have rd1:=Aj (b:=b) d0 ⟨1,0,0⟩;have rd2:=Aj (b:=b) d0 ⟨0,1,0⟩;have ex:∀w:V,ev ⟨1,0,0⟩ (pt w)=w.x:=fun w=>by unfold ev pt;simp
 have ey:∀w:V,ev ⟨0,1,0⟩ (pt w)=w.y:=fun w=>by unfold ev pt;simp
 rw[ex,ex,ex]at rc1 rd1;rw[ey,ey,ey]at rc2 rd2;clear c0 d0 ex ey;generalize ev (lin a b) (pt x)=A at*;generalize ev (lin a b) (pt c)=C at*;generalize ev (lin a b) (pt d)=D at*;unfold cmb pt;simp only[P3.mk.injEq];refine⟨?_,?_,by omega⟩
 ·apply Int.eq_of_mul_eq_mul_left hA;grind
 ·apply Int.eq_of_mul_eq_mul_left hA;grind
theorem aDm{a x c d:V}{z:P3}{x1 y1 s:Int}(he:cmb x1 (pt c) y1 (pt d)=cmb s (cmb 1 (pt a) 1 (pt x)) 0 z):cmb x1 (pt c) y1 (pt d)=cmb s (pt a) s (pt x):=by
 rw[he];unfold cmb;simp only[P3.mk.injEq];refine⟨?_,?_,?_⟩<;>grind
set_option maxHeartbeats 2000000 in
theorem aAG(H:Filled W side ins){a b:V}(hab:side a b)(hL:Lft ins a b):∃x,side a x/\0<ev (lin a b) (pt x):=by
 have Nt:=H.net;have hne:=Nt.ne hab;refine Classical.byContradiction fun hno=> ?_
 obtain⟨N,u,v,x,P,q,hN0,hP,hin,S⟩:=see H hab hL;obtain⟨p0,p1,p2,p3⟩:=lS.1 hP;have hra:ev (ln (pt a) P) (pt a)=0:=Om _ _;have hka:=S.ka;have hax:=S.ax;have hrx:=S.rx;have hkx:=S.kx;have hane:a≠x:=fun e=>by rw[<-e,bG]at hax;omega
 have vr:∀s t:Int,0<s->0<t->0<ev (ln (pt a) P) (cmb s (pt a) t (pt x)):=fun s t hs ht=>by rw[aK,hra];have:=Int.mul_pos ht hrx;omega
 have vk:∀s t:Int,0<s->0<t->0<ev (lin v u) (cmb s (pt a) t (pt x)):=fun s t hs ht=>by rw[aK];have:=Int.mul_pos hs hka;have:=mpp (show 0<=t by omega) hkx;omega
 have vg:∀s t:Int,ev (lin a x) (cmb s (pt a) t (pt x))=0:=fun s t=>by rw[aK,bG,bQ];omega
 have tie:∀w∈W,ev (lin a x) (pt w)=0->0<ev (lin a b) (pt w)->0<=ev (lin v u) (pt w)->ev (lin a b) (pt x)<=ev (lin a b) (pt w):=by
  intro w hw h0 h1 h2;have e1:=S.ang (w:=x) (pt w);rw[h0,Int.mul_zero]at e1;have rw':0<ev (ln (pt a) P) (pt w):=S.thinR w hw h1;have eu:=S.ang (w:=x) (pt u);have ew:=S.ang (w:=w) (pt u);have m1:=mpp (show 0<=ev (lin a b) P by omega) S.ux
  have e2:ev (lin a b) (pt x)*(ev (lin a b) (pt w)*ev (ln (pt a) P) (pt u)-ev (lin a b) (pt u)*ev (ln (pt a) P) (pt w))=ev (lin a b) (pt w)*(ev (lin a b) (pt x)*ev (ln (pt a) P) (pt u)-ev (lin a b) (pt u)*ev (ln (pt a) P) (pt x)):=by
   generalize ev (lin a b) (pt x)=A at*;generalize ev (lin a b) (pt w)=Aw at*;generalize ev (ln (pt a) P) (pt x)=R at*;generalize ev (ln (pt a) P) (pt w)=Rw at*;generalize ev (ln (pt a) P) (pt u)=Ru at*;generalize ev (lin a b) (pt u)=Au at*;grind
  have g1:=mpp (show 0<=ev (lin a b) (pt w) by omega) (show 0<=ev (lin a b) (pt x)*ev (ln (pt a) P) (pt u)-ev (lin a b) (pt u)*ev (ln (pt a) P) (pt x) by omega)
  rw[<-e2,Int.mul_comm]at g1;have g2:=nnl hax g1;rw[<-ew,Int.mul_comm]at g2;exact(S.least w hw rw' h2 (nnl p1 g2)).2 h0
 have hopen:∀c d,side c d->∀x1 y1 s t:Int,0<=x1->0<=y1->0<s->0<t->cmb x1 (pt c) y1 (pt d)≠cmb s (pt a) t (pt x):=by
  intro c d hcd x1 y1 s t hx1 hy1 hs ht he;have zr:=vr s t hs ht;have zk:=vk s t hs ht;have zg:=vg s t;have ed:=congrArg P3.d he;simp only[cmb,pt]at ed;have eα:=congrArg (ev (lin a b)) he;rw[aK,aK,bG]at eα;have m1:=Int.mul_pos ht hax;rw[<-he]at zr zk zg;have hz:=zg;rw[aK]at hz;have n1:¬(0<x1/\ev (lin a x) (pt c)<0):=fun⟨h1,h2⟩=>S.wedge hcd h1 hy1 zr zk (by omega) h2
  have n2:¬(0<y1/\ev (lin a x) (pt d)<0):=fun⟨h1,h2⟩=>by
   rw[jG]at zr zk zg;exact S.wedge (Nt.symm hcd) h1 hx1 zr zk (by omega) h2
  have t1:0<=x1*ev (lin a x) (pt c):=by
   rcases Int.lt_or_le 0 x1 with g|g
   ·exact mpp hx1 (by omega)
   ·have:x1=0:=by omega
    subst x1;omega
  have t2:0<=y1*ev (lin a x) (pt d):=by
   rcases Int.lt_or_le 0 y1 with g|g
   ·exact mpp hy1 (by omega)
   ·have:y1=0:=by omega
    subst y1;omega
  have kr:=zk;rw[aK]at kr;have alone:∀{w:V} {k:Int},w∈W->0<k->k*ev (lin a x) (pt w)=0->k*ev (lin a b) (pt w)=t*ev (lin a b) (pt x)->0<k*ev (lin v u) (pt w)->k=s+t->False:=by
   intro w k hw hk h1 h2 h3 h4;have g0:ev (lin a x) (pt w)=0:=by
    rcases Int.mul_eq_zero.1 h1 with g|g
    ·omega
    ·exact g
   have:=tie w hw g0 (eG hk (by omega)) (by have:=eG hk h3;omega)
   have q1:=Int.mul_le_mul_of_nonneg_left this (show 0<=k by omega)
   rw[h2,h4,Int.add_mul]at q1;have:=Int.mul_pos hs hax;omega
  by_cases hx0:x1=0
  ·subst x1;exact alone (Nt.mem (Nt.symm hcd)) (show 0<y1 by omega) (by omega) (by omega) (by omega) (by omega)
  by_cases hy0:y1=0
  ·subst y1;exact alone (Nt.mem hcd) (show 0<x1 by omega) (by omega) (by omega) (by omega) (by omega)
  have c0:ev (lin a x) (pt c)=0:=by
   rcases Int.mul_eq_zero.1 (show x1*ev (lin a x) (pt c)=0 by omega)with g|g
   ·omega
   ·exact g
  have d0:ev (lin a x) (pt d)=0:=by
   rcases Int.mul_eq_zero.1 (show y1*ev (lin a x) (pt d)=0 by omega)with g|g
   ·omega
   ·exact g
  have fin:∀{c d:V} {x1 y1:Int},side c d->0<x1->0<y1->ev (lin a x) (pt c)=0->ev (lin a x) (pt d)=0->x1*ev (lin a b) (pt c)+y1*ev (lin a b) (pt d)=t*ev (lin a b) (pt x)->x1+y1=s+t->ev (lin a b) (pt c)<=ev (lin a b) (pt d)->False:=by
   intro c d x1 y1 hcd hx1 hy1 c0 d0 hs1 hs2 hle;have hca:c≠a:=fun e=>by
    subst e;rw[bG]at hs1;exact hno ⟨d,hcd,eG hy1 (by omega)⟩
   have hda:d≠a:=fun e=>by
    subst e;rw[bG]at hs1;exact hno ⟨c,Nt.symm hcd,eG hx1 (by omega)⟩
   rcases Int.lt_or_le 0 (ev (lin a b) (pt c))with g|g
   ·
    have hlt:ev (lin a b) (pt c)<ev (lin a b) (pt x):=by
     have q1:=Int.mul_le_mul_of_nonneg_left hle (show 0<=y1 by omega)
     have q2:(s+t)*ev (lin a b) (pt c)<=t*ev (lin a b) (pt x):=by rw[<-hs2,Int.add_mul];omega
     have q3:=Int.mul_pos hs hax;refine Int.not_le.1 fun h=> ?_
     have q4:=Int.mul_le_mul_of_nonneg_left h (show 0<=s+t by omega)
     have q5:(s+t)*ev (lin a b) (pt x)=s*ev (lin a b) (pt x)+t*ev (lin a b) (pt x):=Int.add_mul _ _ _;omega
    have hk:0<=ev (lin v u) (pt c):=by
     have r:=Aj (b:=b) c0 (lin v u);have q1:=mpp (show 0<=ev (lin a b) (pt x)-ev (lin a b) (pt c) by omega) (show 0<=ev (lin v u) (pt a) by omega)
     have q2:=mpp (show 0<=ev (lin a b) (pt c) by omega) hkx
     exact nnl hax (by rw[Int.mul_comm];omega)
    have:=tie c (Nt.mem hcd) c0 g hk;omega
   ·
    have hd:0<ev (lin a b) (pt d):=by
     have:=mpn (show 0<=x1 by omega) g
     exact eG hy1 (by omega)
    have k:a=c\/a=d:=Nt.clear hcd (Nt.mem hab) (ev (lin a b) (pt d)) (-(ev (lin a b) (pt c))) (ev (lin a b) (pt d)-ev (lin a b) (pt c)) (by omega) (by omega) (aNG (by omega) c0 d0) (by omega)
    rcases k with e|e
    ·exact hca e.symm
    ·exact hda e.symm
  rcases Int.le_total (ev (lin a b) (pt c)) (ev (lin a b) (pt d))with h|h
  ·exact fin (x1:=x1) (y1:=y1) hcd (by omega) (by omega) c0 d0 (by omega) (by omega) h
  ·exact fin (x1:=y1) (y1:=x1) (Nt.symm hcd) (by omega) (by omega) d0 c0 (by omega) (by omega) h
 have hG:∀c d,side c d->iU [ln (pt a) P,lin x a,lin v u] ⟨c,d⟩:=by
  intro c d hcd;refine Oj fun x1 y1 hx1 hy1 hxy hq=> ?_
  have e1:∀g:P3,x1*ev g (pt c)+y1*ev g (pt d)=ev g (cmb x1 (pt c) y1 (pt d)):=fun g=>(aK _ _ _ _ _).symm
  simp only[List.mem_cons,List.not_mem_nil,or_false,forall_eq_or_imp,forall_eq,e1]at hq;obtain⟨h1,h2,h3⟩:=hq;rw[nJ]at h2;have h2':=h2;rw[aK]at h2';by_cases hc:x1*ev (lin a x) (pt c)<0
  ·have hx0:0<x1:=by
    rcases Int.lt_or_le 0 x1 with g|g
    ·exact g
    ·have:x1=0:=by omega
     subst x1;omega
   exact S.wedge hcd hx0 hy1 h1 h3 (by omega) (qT hx0 hc)
  ·have hd:y1*ev (lin a x) (pt d)<0:=by omega
   have hy0:0<y1:=by
    rcases Int.lt_or_le 0 y1 with g|g
    ·exact g
    ·have:y1=0:=by omega
     subst y1;omega
   rw[jG]at h1 h2 h3;exact S.wedge (Nt.symm hcd) hy0 hx1 h1 h3 (by omega) (qT hy0 hd)
 have hγP:ev (lin a x) P<0:=by
  have:=S.ang (w:=x) P;rw[show ev (ln (pt a) P) P=0 from Fe _ _,Int.mul_zero]at this
  have:=Int.mul_pos p1 hrx;exact qT p1 (by omega)
 have hL2:=fO hne;have hpt:∃z,In [ln (pt a) P,lin x a,lin v u] z/\In (thin a b N) z:=by
  let K:Int:=1+(ev (uY a b N) (pt x)).natAbs
  have hK:0<K:=by show 0<1+((ev (uY a b N) (pt x)).natAbs:Int);omega
  have hKdef:ev (uY a b N) (pt x)<=K-1/\ -(K-1)<=ev (uY a b N) (pt x):=by show _<=1+((ev (uY a b N) (pt x)).natAbs:Int)-1/\_;omega
  have hFa:1<=ev (uY a b N) P:=by rw[jF];omega
  generalize K=K at*;obtain⟨M,hM⟩:∃M:Int,0<=M/\0<M*ev (lin v u) (pt a)+(K*ev (lin v u) P+ev (lin v u) (pt x))/\0<M*eL a b+(K*(ev (bB b a) P-N*ev (lin a b) P)+(ev (bB b a) (pt x)-N*ev (lin a b) (pt x))):=by
   refine⟨1+(K*ev (lin v u) P+ev (lin v u) (pt x)).natAbs+(K*(ev (bB b a) P-N*ev (lin a b) P)+(ev (bB b a) (pt x)-N*ev (lin a b) (pt x))).natAbs,by omega,?_,?_⟩
   ·have:=Int.mul_le_mul_of_nonneg_left (show 1<=ev (lin v u) (pt a) by omega) (show 0<=1+((K*ev (lin v u) P+ev (lin v u) (pt x)).natAbs:Int)+((K*(ev (bB b a) P-N*ev (lin a b) P)+(ev (bB b a) (pt x)-N*ev (lin a b) (pt x))).natAbs:Int) by omega)
    omega
   ·have:=Int.mul_le_mul_of_nonneg_left (show 1<=eL a b by omega) (show 0<=1+((K*ev (lin v u) P+ev (lin v u) (pt x)).natAbs:Int)+((K*(ev (bB b a) P-N*ev (lin a b) P)+(ev (bB b a) (pt x)-N*ev (lin a b) (pt x))).natAbs:Int) by omega)
    omega
  obtain⟨hM0,hM1,hM2⟩:=hM;have hzd:0<(cmb 1 (cmb M (pt a) K P) 1 (pt x)).d:=by simp only[cmb,pt];have:=Int.mul_pos hK p0;omega
  refine⟨cmb 1 (cmb M (pt a) K P) 1 (pt x),⟨hzd,?_⟩,?_⟩
  ·simp only[List.mem_cons,List.not_mem_nil,or_false,forall_eq_or_imp,forall_eq];refine⟨?_,?_,?_⟩
   ·rw[aK,aK,hra,show ev (ln (pt a) P) P=0 from Fe _ _];omega
   ·rw[nJ,aK,aK,bG,bQ];have:=Int.mul_neg_of_pos_of_neg hK hγP;omega
   ·rw[aK,aK];omega
  ·rw[lS];refine⟨hzd,?_,?_,?_⟩
   ·rw[aK,aK,bG];have:=Int.mul_pos hK p1;omega
   ·have g:0<ev (uY a b N) (cmb 1 (cmb M (pt a) K P) 1 (pt x)):=by
     rw[aK,aK];have z:ev (uY a b N) (pt a)=0:=by rw[jF,iY,bG];omega
     rw[z];have:=Int.mul_le_mul_of_nonneg_left hFa (show 0<=K by omega)
     omega
    rw[jF]at g;omega
   ·rw[aK,aK,aK,aK,oL,xZ,bG];rw[Int.mul_sub]at hM2;have e1:N*(1*(M*0+K*ev (lin a b) P)+1*ev (lin a b) (pt x))=K*(N*ev (lin a b) P)+N*ev (lin a b) (pt x):=by grind
    omega
 obtain⟨z,hz1,hz2⟩:=hpt;have hzi:=hin z hz2;refine hno ⟨x,H.max a (Nt.mem hab) x S.mem hane hopen ?_,hax⟩;rw[<-hzi];refine H.same _ _ (by simp only[cmb,pt];omega) hz1.1 fun c d hcd hm=> ?_
 obtain⟨x1,y1,s,t,hx1,hy1,hxy,hs,ht,he⟩:=hm;rcases Int.lt_or_le 0 t with ht0|ht0
 ·obtain⟨f,hf,g⟩:=hG c d hcd x1 y1 hx1 hy1 hxy;have eF:=congrArg (ev f) he;rw[aK,aK]at eF;change x1*ev f (pt c)+y1*ev f (pt d)<=0 at g;change x1*ev f (pt c)+y1*ev f (pt d)=_ at eF;have g1:=Int.mul_pos ht0 (hz1.2 f hf);have g2:0<=s*ev f (cmb 1 (pt a) 1 (pt x)):=mpp hs (by
   simp only[List.mem_cons,List.not_mem_nil,or_false]at hf;rcases hf with rfl|rfl|rfl
   ·have:=vr 1 1 (by omega) (by omega);omega
   ·rw[nJ,vg];omega
   ·have:=vk 1 1 (by omega) (by omega);omega)
  omega
 ·have t0:t=0:=by omega
  subst t0;have hs0:0<s:=by
   have:=congrArg P3.d he;simp only[cmb,pt]at this;rcases Int.lt_or_le 0 s with g|g
   ·exact g
   ·have:s=0:=by omega
    subst s;omega
  exact hopen c d hcd x1 y1 s s hx1 hy1 hs0 hs0 (aDm he)
end
end Go.Proofs.YtdaeofhdgabhjaaGreat.Geo
namespace Go.Proofs.YtdaeofhdgabhjaaGreat.Geo
section
variable {W:List V} {side:V->V->Prop} {ins:P3->Bool}
structure Tri(W:List V)(side:V->V->Prop)(ins:P3->Bool)(a b c:V):Prop where
 ab:side a b
 bc:side b c
 ca:side c a
 left:0<ev (lin a b) (pt c)
 empty:∀w∈W,0<=ev (lin a b) (pt w)->0<=ev (lin b c) (pt w)->0<=ev (lin c a) (pt w)->w=a\/w=b\/w=c
 mid:ins ⟨a.x+b.x+c.x,a.y+b.y+c.y,3⟩=true
def ctr(a b c:V):P3:=⟨a.x+b.x+c.x,a.y+b.y+c.y,3⟩
theorem Tri.rot{a b c:V}(h:Tri W side ins a b c):Tri W side ins b c a:=by
 refine⟨h.bc,h.ca,h.ab,by rw[iX];exact h.left,fun w hw h1 h2 h3=> ?_,?_⟩
 ·rcases h.empty w hw h3 h1 h2 with e|e|e
  ·exact .inr (.inr e)
  ·exact .inl e
  ·exact .inr (.inl e)
 ·have:=h.mid;rw[show(⟨b.x+c.x+a.x,b.y+c.y+a.y,3⟩:P3)=⟨a.x+b.x+c.x,a.y+b.y+c.y,3⟩ by simp only[P3.mk.injEq];refine⟨?_,?_,trivial⟩<;>omega]
  exact this
theorem Nn{a b c:V}(h:0<ev (lin a b) (pt c)):In [lin a b,lin b c,lin c a] (ctr a b c):=by
 refine⟨by show(0:Int)<3;omega,?_⟩
 have e:∀f:P3,ev f (ctr a b c)=ev f (pt a)+ev f (pt b)+ev f (pt c):=fun f=>by unfold ev ctr pt;grind
 have e1:ev (lin c a) (pt b)=ev (lin a b) (pt c):=by unfold ev lin pt;grind
 simp only[List.mem_cons,List.not_mem_nil,or_false,forall_eq_or_imp,forall_eq];refine⟨?_,?_,?_⟩
 ·rw[e,bG,bQ];omega
 ·rw[e,bG,bQ,iX a b c];omega
 ·rw[e,bG,bQ,e1];omega
theorem aC9(N:Net W side){a b c:V}(hab:side a b)(hbc:side b c)(hca:side c a)(hD:0<ev (lin a b) (pt c))(hv:∀w∈W,0<=ev (lin a b) (pt w)->0<=ev (lin b c) (pt w)->0<=ev (lin c a) (pt w)->w=a\/w=b\/w=c):
  ∀u v,side u v->iU [lin a b,lin b c,lin c a] ⟨u,v⟩:=by
 have e1:ev (lin c a) (pt b)=ev (lin a b) (pt c):=by unfold ev lin pt;grind
 have sector:∀x,side a x->¬(0<ev (lin a b) (pt x)/\0<ev (lin c a) (pt x)):=by
  rintro x hax ⟨h1,h2⟩;by_cases h3:0<=ev (lin b c) (pt x)
  ·rcases hv x (N.mem (N.symm hax)) (by omega) h3 (by omega)with e|e|e<;>subst e
   ·rw[bG]at h1;omega
   ·rw[bQ]at h1;omega
   ·rw[bG]at h2;omega
  ·
   have hp:ev (lin b c) (cmb (-(ev (lin b c) (pt x))) (pt a) (ev (lin a b) (pt c)) (pt x))=0:=by rw[aK,iX a b c,Int.neg_mul,Int.mul_comm];omega
   have g:=pJ (a:=b) (b:=c) (c:=a) hp;rw[iX a b c]at g;have p1:=Int.mul_pos hD h1;have p2:=Int.mul_pos hD h2;have v1:ev (lin c a) (cmb (-(ev (lin b c) (pt x))) (pt a) (ev (lin a b) (pt c)) (pt x))=ev (lin a b) (pt c)*ev (lin c a) (pt x):=by rw[aK,bQ];omega
   have v2:ev (lin a b) (cmb (-(ev (lin b c) (pt x))) (pt a) (ev (lin a b) (pt c)) (pt x))=ev (lin a b) (pt c)*ev (lin a b) (pt x):=by rw[aK,bG];omega
   rw[v1,v2]at g;have:cmb (ev (lin a b) (pt c)* -(ev (lin b c) (pt x))) (pt a) (ev (lin a b) (pt c)*ev (lin a b) (pt c)) (pt x)=cmb (ev (lin a b) (pt c)*ev (lin c a) (pt x)) (pt b) (ev (lin a b) (pt c)*ev (lin a b) (pt x)) (pt c):=by
    rw[g];unfold cmb;simp only[P3.mk.injEq];refine⟨?_,?_,?_⟩<;>grind
   rcases N.apart hax hbc _ _ _ _ (Int.mul_pos hD (by omega)) (Int.mul_pos hD hD) p2 p1 this with⟨rfl,rfl⟩|⟨rfl,rfl⟩
   ·exact N.ne hab rfl
   ·exact N.ne hca rfl
 have K:Corner W side a b c 0:=by
  refine⟨hab,N.symm hca,hD,sector,Int.le_refl _,fun w hw ha h1 h2=> ?_⟩
  refine Int.not_lt.1 fun h3=> ?_
  rcases hv w hw h1 (by omega) h2 with e|e|e
  ·exact ha e
  ·rw[e,bG]at h3;omega
  ·rw[e,bQ]at h3;omega
 intro u v huv x y hx hy hxy;obtain⟨f,hf,g⟩:=K.free N huv x y hx hy hxy;simp only[List.mem_cons,List.not_mem_nil,or_false]at hf;rcases hf with rfl|rfl|rfl
 ·exact⟨lin a b,by simp,g⟩
 ·exact⟨lin c a,by simp,g⟩
 ·refine⟨lin b c,by simp,?_⟩
  have e3:∀w:V,ev (over b c 0) (pt w)=ev (lin b c) (pt w):=fun w=>by rw[lT];omega
  rw[e3,e3]at g;exact g
theorem Tri.free(N:Net W side){a b c:V}(h:Tri W side ins a b c):∀u v,side u v->iU [lin a b,lin b c,lin c a] ⟨u,v⟩:=aC9 N h.ab h.bc h.ca h.left h.empty
open Classical in
theorem An(H:Filled W side ins){a b:V}(hab:side a b)(hL:Lft ins a b):∃c,Tri W side ins a b c:=by
 have N:=H.net;have hne:=N.ne hab;have hL2:=fO hne;obtain⟨x0,hx0,hα0⟩:=aAG H hab hL;have hl:(W.filter fun x=>decide (side a x/\0<ev (lin a b) (pt x)))≠[] :=List.ne_nil_of_mem (List.mem_filter.2 ⟨N.mem (N.symm hx0),decide_eq_true ⟨hx0,hα0⟩⟩)
 obtain⟨c,hc,hm⟩:=Fo (fun x:V=> -(ev (bB a b) (pt x))) (fun x:V=>ev (lin a b) (pt x)) hl fun x hx=>(of_decide_eq_true (List.mem_filter.1 hx).2).2
 obtain⟨hac,hD⟩:=of_decide_eq_true (List.mem_filter.1 hc).2;have ang:∀x:V,eL a b*ev (lin a c) (pt x)=ev (bB a b) (pt c)*ev (lin a b) (pt x)-ev (lin a b) (pt c)*ev (bB a b) (pt x):=fun x=>by unfold eL ev bB lin pt;grind
 have hn:∀x,side a x->¬(0<ev (lin a b) (pt x)/\0<ev (lin c a) (pt x)):=by
  rintro x hx ⟨h1,h2⟩;have:=hm x (List.mem_filter.2 ⟨N.mem (N.symm hx),decide_eq_true ⟨hx,h1⟩⟩);have e1:=ang x;rw[nJ]at h2;have:=Int.mul_neg_of_pos_of_neg hL2 (show ev (lin a c) (pt x)<0 by omega)
  rw[Int.neg_mul,Int.neg_mul]at*;have e2:ev (lin a b) (pt c)*ev (bB a b) (pt x)=ev (bB a b) (pt x)*ev (lin a b) (pt c):=Int.mul_comm _ _;omega
 obtain⟨e1,e2,e3,e4⟩:=ear H hab hac hD hn hL;refine⟨c,hab,e4,N.symm hac,hD,e1,e3 _ ?_⟩;obtain⟨c0,c1⟩:=Nn hD;refine⟨c0,fun f hf=> ?_⟩
 simp only[List.mem_cons,List.not_mem_nil,or_false]at hf;rcases hf with rfl|rfl|rfl
 ·exact c1 _ (by simp)
 ·exact c1 _ (by simp)
 ·have:=c1 (lin b c) (by simp)
  rw[lT];show 0<ev (lin b c) (ctr a b c)-0*3;omega
theorem Ht(N:Net W side){a b c c':V}(h:Tri W side ins a b c)(h':Tri W side ins a b c'):c=c':=by
 refine Classical.byContradiction fun hne=> ?_
 have cW:=N.mem h.ca;have cW':=N.mem h'.ca;have d:=h.left;have d':=h'.left;have hca:c≠a:=N.ne h.ca;have hca':c'≠a:=N.ne h'.ca;have hcb:c≠b:=fun e=>N.ne h.bc e.symm
 have hcb':c'≠b:=fun e=>N.ne h'.bc e.symm
 have n1:¬(0<=ev (lin b c) (pt c')/\0<=ev (lin c a) (pt c')):=fun⟨h1,h2⟩=>by
  rcases h.empty c' cW' (by omega) h1 h2 with e|e|e
  ·exact hca' e
  ·exact hcb' e
  ·exact hne e.symm
 have n2:¬(0<=ev (lin b c') (pt c)/\0<=ev (lin c' a) (pt c)):=fun⟨h1,h2⟩=>by
  rcases h'.empty c cW (by omega) h1 h2 with e|e|e
  ·exact hca e
  ·exact hcb e
  ·exact hne e
 have s1:ev (lin b c') (pt c)= -ev (lin b c) (pt c'):=by unfold ev lin pt;grind
 have s2:ev (lin c' a) (pt c)= -ev (lin c a) (pt c'):=by unfold ev lin pt;grind
 have key:∀{c c':V},side c a->side b c->side c' a->side b c'->c≠c'->0<ev (lin a b) (pt c)->0<ev (lin a b) (pt c')->ev (lin b c) (pt c')<0->0<ev (lin c a) (pt c')->False:=by
  intro c c' hca hbc hca' hbc' hne d d' h1 h2;have hp:ev (lin b c) (cmb (-(ev (lin b c) (pt c'))) (pt a) (ev (lin a b) (pt c)) (pt c'))=0:=by rw[aK,iX a b c,Int.neg_mul,Int.mul_comm];omega
  have g:=pJ (a:=b) (b:=c) (c:=a) hp;rw[iX a b c]at g;have v1:ev (lin c a) (cmb (-(ev (lin b c) (pt c'))) (pt a) (ev (lin a b) (pt c)) (pt c'))=ev (lin a b) (pt c)*ev (lin c a) (pt c'):=by rw[aK,bQ];omega
  have v2:ev (lin a b) (cmb (-(ev (lin b c) (pt c'))) (pt a) (ev (lin a b) (pt c)) (pt c'))=ev (lin a b) (pt c)*ev (lin a b) (pt c'):=by rw[aK,bG];omega
  rw[v1,v2]at g;have:cmb (ev (lin a b) (pt c)* -(ev (lin b c) (pt c'))) (pt a) (ev (lin a b) (pt c)*ev (lin a b) (pt c)) (pt c')=cmb (ev (lin a b) (pt c)*ev (lin c a) (pt c')) (pt b) (ev (lin a b) (pt c)*ev (lin a b) (pt c')) (pt c):=by
   rw[g];unfold cmb;simp only[P3.mk.injEq];refine⟨?_,?_,?_⟩<;>grind
  rcases N.apart (N.symm hca') hbc _ _ _ _ (Int.mul_pos d (by omega)) (Int.mul_pos d d) (Int.mul_pos d h2) (Int.mul_pos d d') this with⟨e,e'⟩|⟨e,e'⟩
  ·exact hne e'.symm
  ·exact N.ne hbc' e'.symm
 by_cases g:ev (lin b c) (pt c')<0
 ·refine key h.ca h.bc h'.ca h'.bc hne d d' g ?_;have:ev (lin c' a) (pt c)<0:=by omega
  omega
 ·have g2:ev (lin c a) (pt c')<0:=by omega
  have g3:ev (lin b c') (pt c)<0:=by omega
  exact key h'.ca h'.bc h.ca h.bc (fun e=>hne e.symm) d' d g3 (by omega)
end
end Go.Proofs.YtdaeofhdgabhjaaGreat.Geo
namespace Go.Proofs.YtdaeofhdgabhjaaGreat.Geo
section
variable {W:List V} {side:V->V->Prop} {ins:P3->Bool}
theorem Net.ray(N:Net W side){a b v:V}(hab:side a b)(hav:side a v)(h0:ev (lin a b) (pt v)=0)(h1:0<=ev (bB a b) (pt v)):v=b:=by
 have hL:=fO (N.ne hab);have g:=kC h0;by_cases h2:ev (bB a b) (pt v)<=eL a b
 ·rcases N.clear hab (N.mem (N.symm hav)) (eL a b*(pt v).d-ev (bB a b) (pt v)) (ev (bB a b) (pt v)) (eL a b) (by show 0<=eL a b*1-_;omega) h1 (by rw[g];unfold cmb pt;simp) hL with e|e
  ·exact absurd e.symm (N.ne hav)
  ·exact e
 ·rcases N.clear hav (N.mem (N.symm hab)) (ev (bB a b) (pt v)-eL a b) (eL a b) (ev (bB a b) (pt v)) (by omega) (by omega) (by
   unfold cmb pt at g|-;simp only[P3.mk.injEq]at g|-;refine⟨?_,?_,?_⟩<;>grind) (by omega)with e|e
  ·exact absurd e.symm (N.ne hab)
  ·exact e.symm
theorem oD(s t:Int)(a b:V):(cmb s (pt a) t (pt b)).d=s+t:=by unfold cmb pt;simp
theorem Net.off(N:Net W side){a b u v:V}(hab:side a b)(huv:side u v):Off a b ⟨u,v⟩\/(u=a/\v=b)\/(u=b/\v=a):=by
 have ray:∀{a b v:V},side a b->side a v->v=b\/(ev (lin a b) (pt v)≠0\/ev (bB a b) (pt v)<0):=fun{a b v} hab hav=>by
  by_cases h0:ev (lin a b) (pt v)=0
  ·by_cases h1:0<=ev (bB a b) (pt v)
   ·exact .inl (N.ray hab hav h0 h1)
   ·exact .inr (.inr (by omega))
  ·exact .inr (.inl h0)
 have ray':∀{a b v:V},side a b->side b v->v=a\/(ev (lin a b) (pt v)≠0\/ev (bB b a) (pt v)<0):=fun{a b v} hab hbv=>by
  rcases ray (N.symm hab) hbv with e|e|e
  ·exact .inl e
  ·exact .inr (.inl (by rw[nJ]at e;omega))
  ·exact .inr (.inr e)
 by_cases hm:iF ⟨u,v⟩ (pt a) (pt b)
 ·obtain⟨x,y,s,t,hx,hy,hxy,hs,ht,e⟩:=hm;have hd:=congrArg P3.d e;rw[oD,oD]at hd;have one:u=a\/u=b\/v=a\/v=b:=by
   rcases Int.lt_or_le 0 x with hx'|hx'
   ·rcases Int.lt_or_le 0 y with hy'|hy'
    ·rcases N.same hab huv hx' hy' hs ht e with⟨e1,_⟩|⟨e1,_⟩
     ·exact .inl e1
     ·exact .inr (.inl e1)
    ·have y0:y=0:=by omega
     subst y0;rcases N.clear hab (N.mem huv) s t x hs ht (by rw[<-e];unfold cmb;simp) hx' with e1|e1
     ·exact .inl e1
     ·exact .inr (.inl e1)
   ·have x0:x=0:=by omega
    subst x0;rcases N.clear hab (N.mem (N.symm huv)) s t y hs ht (by rw[<-e];unfold cmb;simp) (by omega)with e1|e1
    ·exact .inr (.inr (.inl e1))
    ·exact .inr (.inr (.inr e1))
  rcases one with rfl|rfl|rfl|rfl
  ·rcases ray hab huv with e1|e1
   ·exact .inr (.inl ⟨rfl,e1⟩)
   ·exact .inl ⟨N.ne huv,.inr (.inl ⟨rfl,e1⟩)⟩
  ·rcases ray' hab huv with e1|e1
   ·exact .inr (.inr ⟨rfl,e1⟩)
   ·exact .inl ⟨N.ne huv,.inr (.inr (.inr (.inl ⟨rfl,e1⟩)))⟩
  ·rcases ray hab (N.symm huv)with e1|e1
   ·exact .inr (.inr ⟨e1,rfl⟩)
   ·exact .inl ⟨N.ne huv,.inr (.inr (.inl ⟨rfl,e1⟩))⟩
  ·rcases ray' hab (N.symm huv)with e1|e1
   ·exact .inr (.inl ⟨e1,rfl⟩)
   ·exact .inl ⟨N.ne huv,.inr (.inr (.inr (.inr ⟨rfl,e1⟩)))⟩
 ·exact .inl ⟨N.ne huv,.inl hm⟩
open Classical in
theorem Net.thin(N:Net W side){a b:V}(hab:side a b):∃N0:Int,1<=N0/\∀n,N0<=n->∀u v,side u v->iU (thin a b n) ⟨u,v⟩:=by
 obtain⟨N0,h1,h2⟩:=Qu (N.ne hab) (l:=(W.flatMap fun u=>W.map fun v=>(⟨u,v⟩:S)).filter fun e=>decide (side e.a e.b)) fun e he=>by
  have:=of_decide_eq_true (List.mem_filter.1 he).2;exact N.off hab this
 refine⟨N0,h1,fun n hn u v huv=>h2 n hn ⟨u,v⟩ (List.mem_filter.2 ⟨?_,decide_eq_true huv⟩)⟩
 exact List.mem_flatMap.2 ⟨u,N.mem huv,List.mem_map.2 ⟨v,N.mem (N.symm huv),rfl⟩⟩
theorem mR{a b:V}{n m:Int}(hnm:n<=m){q:P3}(h:In (thin a b m) q):In (thin a b n) q:=by
 obtain⟨h0,h1,h2,h3⟩:=lS.1 h;have:=Int.mul_le_mul_of_nonneg_right hnm (show 0<=ev (lin a b) q by omega)
 exact lS.2 ⟨h0,h1,by omega,by omega⟩
open Classical in
theorem Ce{a b c:V}(hne:a≠b)(n:Int){h:Int}(hc:0<ev (lin a b) (pt c))(hh:h<ev (lin a b) (pt c)):∃q,In (thin a b n) q/\In [lin a b,lin c a,over b c h] q:=by
 obtain⟨q,h1,h2⟩:=Lft.near (ins:=fun p=>decide (In (thin a b n) p)) hne ⟨n,fun m hm q hq=>decide_eq_true (mR hm hq)⟩ hc hh
 exact⟨q,of_decide_eq_true h2,h1⟩
theorem tI{a b:V}(hne:a≠b)(n:Int):∃q,In (thin a b n) q:=by
 have hL2:=fO hne;have e9:(b.x-a.x)*(b.x-a.x)-(b.y-a.y)* -(b.y-a.y)=eL a b:=by unfold eL;grind
 obtain⟨M0,hM0,hI⟩:=kI hne (x:= -(b.y-a.y)) (y:=b.x-a.x) (by omega) n
 exact⟨_,hI _ (Int.le_refl _)⟩
structure Calm(W:List V)(side:V->V->Prop)(ins:P3->Bool):Prop where
 net:Net W side
 same:∀p q:P3,0<p.d->0<q.d->(∀u v,side u v->¬iF ⟨u,v⟩ p q)->ins p=ins q
theorem Filled.calm(H:Filled W side ins):Calm W side ins:=⟨H.net,H.same⟩
theorem Calm.const(H:Calm W side ins){F:List P3}(hF:∀u v,side u v->iU F ⟨u,v⟩){p q:P3}(hp:In F p)(hq:In F q):ins p=ins q:=
 H.same p q hp.1 hq.1 fun u v huv=>(hF u v huv).no hp hq
theorem Gd(H:Calm W side ins){a b:V}(hab:side a b)(h:∀n:Int,∃q,In (Geo.thin a b n) q/\ins q=true):Lft ins a b:=by
 obtain⟨N0,h1,h2⟩:=H.net.thin hab;obtain⟨q,hq,hi⟩:=h N0;refine⟨N0,fun n hn p hp=> ?_⟩
 rw[<-hi];exact H.const (h2 N0 (Int.le_refl _)) (mR hn hp) hq
theorem Lft.not{a b:V}(hne:a≠b)(h:Lft ins a b):¬Lft (fun p=> !ins p) a b:=by
 obtain⟨n,h⟩:=h;rintro⟨m,h'⟩;obtain⟨q,hq⟩:=tI hne (max n m);have:=h _ (by omega) q hq
 have g:=h' _ (by omega) q hq
 simp[this]at g
theorem aJk(H:Calm W side ins){a b:V}(hab:side a b):Lft ins a b\/Lft (fun p=> !ins p) a b:=by
 obtain⟨N0,h1,h2⟩:=H.net.thin hab;obtain⟨q,hq⟩:=tI (H.net.ne hab) N0;by_cases hi:ins q=true
 ·exact .inl ⟨N0,fun n hn p hp=>by rw[<-hi];exact H.const (h2 N0 (Int.le_refl _)) (mR hn hp) hq⟩
 ·exact .inr ⟨N0,fun n hn p hp=>by show(!ins p)=true;rw[<-H.const (h2 N0 (Int.le_refl _)) hq (mR hn hp)];simp at hi|-;exact hi⟩
theorem Tri.lft(H:Filled W side ins){a b c:V}(h:Tri W side ins a b c):Lft ins a b:=by
 have N:=H.net;refine Gd H.calm h.ab fun n=> ?_
 obtain⟨q,hq,hq'⟩:=Ce (N.ne h.ab) n h.left (h:=0) h.left;refine⟨q,hq,?_⟩;have:=h.mid;rw[<-this];refine H.const (h.free N) ⟨hq.1,fun f hf=> ?_⟩ (Nn h.left)
 simp only[List.mem_cons,List.not_mem_nil,or_false]at hf;rcases hf with rfl|rfl|rfl
 ·exact hq'.2 _ (by simp)
 ·have:=hq'.2 (over b c 0) (by simp)
  rw[lT]at this;omega
 ·exact hq'.2 _ (by simp)
end
end Go.Proofs.YtdaeofhdgabhjaaGreat.Geo
namespace Go.Proofs.YtdaeofhdgabhjaaGreat.Geo
theorem Ll{a b v:V}{s t k:Int}(h1:aO a 4000=true)(h2:aO b 4000=true)(hs:0<=s)(ht:0<=t)(hk:0<k)(h:cmb s (pt a) t (pt b)=cmb k (pt v) 0 (pt v)):onS ⟨a,b⟩ v=true:=by
 have hv:aM ⟨a,b⟩=true:=by unfold aM;simp[h1,h2]
 rw[eV hv];simp only[cmb,pt,P3.mk.injEq]at h;obtain⟨hx,hy,hd⟩:=h;have box:∀p q r:Int,s*p+t*q=k*r->min p q<=r/\r<=max p q:=fun p q r h=>by
  have e:k=s+t:=by omega
  have l1:k*min p q<=k*r:=by
   have:=Int.mul_le_mul_of_nonneg_left (Int.min_le_left p q) hs;have:=Int.mul_le_mul_of_nonneg_left (Int.min_le_right p q) ht;rw[<-h,e,Int.add_mul];omega
  have l2:k*r<=k*max p q:=by
   have:=Int.mul_le_mul_of_nonneg_left (Int.le_max_left p q) hs;have:=Int.mul_le_mul_of_nonneg_left (Int.le_max_right p q) ht;rw[<-h,e,Int.add_mul];omega
  exact⟨Int.le_of_mul_le_mul_left l1 hk,Int.le_of_mul_le_mul_left l2 hk⟩
 refine⟨?_,?_⟩
 ·unfold gQ;have b1:=box a.x b.x v.x (by omega)
  have b2:=box a.y b.y v.y (by omega)
  simp only[Bool.and_eq_true,decide_eq_true_eq];exact⟨⟨⟨b1.1,b1.2⟩,b2.1⟩,b2.2⟩
 ·have:k*cross (sub b a) (sub v a)=0:=by
   have e:k=s+t:=by omega
   subst e;unfold cross sub;dsimp only;grind
  rcases Int.mul_eq_zero.1 this with g|g
  ·omega
  ·exact g
theorem aNF{a b c d:V}(hne:c≠d)(h1:ev (lin c d) (pt a)=0)(h2:ev (lin c d) (pt b)=0):ev (lin a b) (pt c)=0:=by
 have g1:=kC h1;have g2:=kC h2;have hL:=fO hne;have e:eL c d*(eL c d*ev (lin a b) (pt c))=0:=by
  generalize ev (bB c d) (pt a)=α at*;generalize ev (bB c d) (pt b)=β at*;generalize eL c d=L at*;unfold cmb pt at g1 g2;simp only[P3.mk.injEq]at g1 g2;unfold ev lin pt;dsimp only;grind
 rcases Int.mul_eq_zero.1 e with g|g
 ·omega
 ·rcases Int.mul_eq_zero.1 g with g|g
  ·omega
  ·exact g
structure Segs(W:List V)(side:V->V->Prop):Prop where
 symm:∀{a b},side a b->side b a
 ne:∀{a b},side a b->a≠b
 mem:∀{a b},side a b->a∈W
 near:∀v∈W,aO v 4000=true
 clear:∀{a b v},side a b->v∈W->onS ⟨a,b⟩ v=true->v=a\/v=b
 cross:∀{a b c d},side a b->side c d->cR ⟨a,b⟩ ⟨c,d⟩≠2
theorem Qq{a b c d:V}{s t:Int}(hs:0<s)(ht:0<t)(h:s*ev (lin a b) (pt c)+t*ev (lin a b) (pt d)=0)(hc:ev (lin a b) (pt c)≠0):turn a b c*turn a b d<0:=by
 unfold turn;rw[oV,<-gE,<-gE];rcases Int.lt_or_gt_of_ne hc with g|g
 ·have:=Int.mul_neg_of_pos_of_neg hs g;exact .inr ⟨g,Int.pos_of_mul_pos_right (a:=t) (by omega) (by omega)⟩
 ·have:=Int.mul_pos hs g;refine .inl ⟨g,Int.not_le.1 fun h'=> ?_⟩
  have:=mpp (show 0<=t by omega) h'
  omega
section
variable {W:List V} {side:V->V->Prop}
theorem Segs.clear'(H:Segs W side){a b v:V}(hab:side a b)(hv:v∈W)(s t k:Int)(hs:0<=s)(ht:0<=t)(h:cmb s (pt a) t (pt b)=cmb k (pt v) 0 (pt v))(hk:0<k):v=a\/v=b:=
 H.clear hab hv (Ll (H.near _ (H.mem hab)) (H.near _ (H.mem (H.symm hab))) hs ht hk h)
theorem Segs.beyond(H:Segs W side){a b c d:V}(hab:side a b)(hcd:side c d)(hc:ev (lin a b) (pt c)=0)(hd:ev (lin a b) (pt d)=0)
  (h1:ev (bB a b) (pt c)<ev (bB a b) (pt d)) {x y s t:Int} (hx:0<x) (hy:0<y) (hs:0<s) (ht:0<t) (h:cmb x (pt a) y (pt b)=cmb s (pt c) t (pt d)):a=c/\b=d:=by
 have hL:=fO (H.ne hab);have gc:=kC hc;have gd:=kC hd;have wc:=H.mem hcd;have wd:=H.mem (H.symm hcd);have e1:x*ev (bB a b) (pt a)+y*ev (bB a b) (pt b)=s*ev (bB a b) (pt c)+t*ev (bB a b) (pt d):=by rw[<-aK,<-aK,h]
 rw[iY,oL]at e1;have ed:=congrArg P3.d h;rw[oD,oD]at ed;have one:∀v:V,(pt v).d=1:=fun _=>rfl
 rw[one]at gc gd;have p1:=Int.mul_pos hy hL;have c0:ev (bB a b) (pt c)<eL a b:=Int.not_le.1 fun g=>by
  have:=Int.mul_le_mul_of_nonneg_left g (show 0<=s by omega)
  have:=Int.mul_lt_mul_of_pos_left (show eL a b<ev (bB a b) (pt d) by omega) ht
  have e:(x+y)*eL a b=(s+t)*eL a b:=by rw[ed]
  rw[Int.add_mul,Int.add_mul]at e;have:=Int.mul_pos hx hL;omega
 have d0:0<ev (bB a b) (pt d):=Int.not_le.1 fun g=>by
  have:=mpn (show 0<=t by omega) g
  have:=Int.mul_neg_of_pos_of_neg hs (show ev (bB a b) (pt c)<0 by omega)
  omega
 have ac:ev (bB a b) (pt c)=0->a=c:=fun g=>by
  rcases H.clear' hab wc (eL a b) 0 (eL a b) (by omega) (by omega) (by
   rw[g]at gc;unfold cmb pt at gc|-;simp only[P3.mk.injEq]at gc|-;refine⟨?_,?_,?_⟩<;>grind) hL with e|e
  ·exact e.symm
  ·rw[e,oL]at g;omega
 have hac:a=c:=by
  rcases Int.lt_or_le (ev (bB a b) (pt c)) 0 with g|g
  ·rcases H.clear' hcd (H.mem hab) (ev (bB a b) (pt d)) (-(ev (bB a b) (pt c))) (ev (bB a b) (pt d)-ev (bB a b) (pt c)) (by omega) (by omega) (by
    generalize ev (bB a b) (pt c)=α at*;generalize ev (bB a b) (pt d)=β at*;unfold cmb pt at gc gd|-;simp only[P3.mk.injEq]at gc gd|-;have hL0:eL a b≠0:=by omega
    refine⟨?_,?_,?_⟩
    ·refine Int.eq_of_mul_eq_mul_left hL0 ?_;grind
    ·refine Int.eq_of_mul_eq_mul_left hL0 ?_;grind
    ·omega) (by omega)with e|e
   ·exact e
   ·rw[<-e,iY]at d0;omega
  ·rcases H.clear' hab wc (eL a b-ev (bB a b) (pt c)) (ev (bB a b) (pt c)) (eL a b) (by omega) g (by
    rw[Int.mul_one]at gc;rw[gc];unfold cmb pt;simp) hL with e|e
   ·exact e.symm
   ·rw[e,oL]at c0;omega
 refine⟨hac,?_⟩;have cz:ev (bB a b) (pt c)=0:=by rw[<-hac,iY]
 rcases Int.lt_or_le (eL a b) (ev (bB a b) (pt d))with g|g
 ·rcases H.clear' hcd (H.mem (H.symm hab)) (ev (bB a b) (pt d)-eL a b) (eL a b) (ev (bB a b) (pt d)) (by omega) (by omega) (by
   subst hac;generalize ev (bB a b) (pt d)=β at*;unfold cmb pt at gd|-;simp only[P3.mk.injEq]at gd|-;refine⟨?_,?_,?_⟩<;>grind) (by omega)with e|e
  ·exact absurd (hac.trans e.symm) (H.ne hab)
  ·exact e
 ·rcases H.clear' hab wd (eL a b-ev (bB a b) (pt d)) (ev (bB a b) (pt d)) (eL a b) (by omega) (by omega) (by
   rw[Int.mul_one]at gd;rw[gd];unfold cmb pt;simp) hL with e|e
  ·exact absurd (hac.symm.trans e.symm) (H.ne hcd)
  ·exact e.symm
theorem Segs.net(H:Segs W side):Net W side:=by
 refine⟨H.symm,H.ne,H.mem,fun hab hv s t k hs ht h hk=>H.clear' hab hv s t k hs ht h hk,?_⟩
 intro a b c d hab hcd x y s t hx hy hs ht h;have na:=H.near _ (H.mem hab);have nb:=H.near _ (H.mem (H.symm hab));have nc:=H.near _ (H.mem hcd);have nd:=H.near _ (H.mem (H.symm hcd));have f1:s*ev (lin a b) (pt c)+t*ev (lin a b) (pt d)=0:=by rw[<-aK,<-h,aK,bG,bQ];omega
 have f2:x*ev (lin c d) (pt a)+y*ev (lin c d) (pt b)=0:=by rw[<-aK,h,aK,bG,bQ];omega
 by_cases hc:ev (lin a b) (pt c)=0
 ·have hd:ev (lin a b) (pt d)=0:=by
   rw[hc,Int.mul_zero,Int.zero_add]at f1;rcases Int.mul_eq_zero.1 f1 with g|g
   ·omega
   ·exact g
  rcases Int.lt_or_le (ev (bB a b) (pt c)) (ev (bB a b) (pt d))with g|g
  ·exact .inl (H.beyond hab hcd hc hd g hx hy hs ht h)
  ·rcases Int.lt_or_le (ev (bB a b) (pt d)) (ev (bB a b) (pt c))with g'|g'
   ·obtain⟨e1,e2⟩:=H.beyond hab (H.symm hcd) hd hc g' hx hy ht hs (by rw[h,jG])
    exact .inr ⟨e1,e2⟩
   ·exfalso;have gc:=kC hc;have gd:=kC hd;rw[show ev (bB a b) (pt d)=ev (bB a b) (pt c) by omega]at gd
    have hL:=fO (H.ne hab);have one:∀v:V,(pt v).d=1:=fun _=>rfl
    rw[one]at gc gd;rw[gc]at gd;simp only[P3.mk.injEq,pt]at gd;have q1:=Int.eq_of_mul_eq_mul_left (show eL a b≠0 by omega) gd.1
    have q2:=Int.eq_of_mul_eq_mul_left (show eL a b≠0 by omega) gd.2.1
    refine H.ne hcd ?_;cases c;cases d;simp only[V.mk.injEq]at q1 q2|-;exact⟨q1,q2⟩
 ·exfalso;have ha:ev (lin c d) (pt a)≠0:=fun g=>by
   have g2:ev (lin c d) (pt b)=0:=by
    rw[g,Int.mul_zero,Int.zero_add]at f2;rcases Int.mul_eq_zero.1 f2 with g|g
    ·omega
    ·exact g
   have:ev (lin a b) (pt c)=ev (lin c a) (pt b):=by unfold ev lin pt;grind
   have k1:=aNF (a:=a) (b:=b) (H.ne hcd) g g2;exact hc k1
  have hd:ev (lin a b) (pt d)≠0:=fun g=>by
   rw[g,Int.mul_zero,Int.add_zero]at f1;rcases Int.mul_eq_zero.1 f1 with g|g
   ·omega
   ·exact hc g
  refine H.cross hab hcd ((oH ⟨a,b⟩ ⟨c,d⟩).cross (by simp[aM,na,nb,nc,nd]) ?_ ⟨Qq hs ht f1 hc,Qq hx hy f2 ha⟩)
  rintro p hp ⟨o1,o2⟩;have z1:ev (lin a b) (pt p)=0:=by rw[gE];exact((eV (by simp[aM,na,nb])).1 o1).2
  simp only[List.mem_cons,List.not_mem_nil,or_false]at hp;have z2:ev (lin c d) (pt p)=0:=by rw[gE];exact((eV (by simp[aM,nc,nd])).1 o2).2
  rcases hp with rfl|rfl|rfl|rfl
  ·exact ha z2
  ·rw[z2,Int.mul_zero,Int.add_zero]at f2;rcases Int.mul_eq_zero.1 f2 with g|g
   ·omega
   ·exact ha g
  ·exact hc z1
  ·exact hd z1
end
end Go.Proofs.YtdaeofhdgabhjaaGreat.Geo
namespace Go.Proofs.YtdaeofhdgabhjaaGreat.Geo
theorem aFA{a b:V}{p:P3}(hne:a≠b)(h0:ev (lin a b) p=0)(x1:min a.x b.x*p.d<=p.x)(x2:p.x<=max a.x b.x*p.d)(y1:min a.y b.y*p.d<=p.y)(y2:p.y<=max a.y b.y*p.d):
  ∃x y k:Int,0<=x/\0<=y/\0<k/\x+y=k*p.d/\cmb x (pt a) y (pt b)=⟨k*p.x,k*p.y,k*p.d⟩:=by
 have hL:=fO hne;have g:=kC h0;have one:∀u v q:Int,min u v*p.d<=q->q<=max u v*p.d->0<=(v-u)*(q-u*p.d)/\0<=(v-u)*(v*p.d-q):=fun u v q h1 h2=>by
  rcases Int.le_total u v with h|h
  ·rw[Int.min_eq_left h]at h1;rw[Int.max_eq_right h]at h2;exact⟨mpp (by omega) (by omega),mpp (by omega) (by omega)⟩
  ·rw[Int.min_eq_right h]at h1;rw[Int.max_eq_left h]at h2;exact⟨mnn (by omega) (by omega),mnn (by omega) (by omega)⟩
 obtain⟨u1,u2⟩:=one _ _ _ x1 x2;obtain⟨v1,v2⟩:=one _ _ _ y1 y2;have ea:ev (bB a b) p=(b.x-a.x)*(p.x-a.x*p.d)+(b.y-a.y)*(p.y-a.y*p.d):=by unfold ev bB;grind
 have eb:eL a b*p.d-ev (bB a b) p=(b.x-a.x)*(b.x*p.d-p.x)+(b.y-a.y)*(b.y*p.d-p.y):=by unfold ev bB eL;grind
 exact⟨eL a b*p.d-ev (bB a b) p,ev (bB a b) p,eL a b,by omega,by omega,hL,by omega,g⟩
theorem Vp{e:S}{p:Pt}(hp:0<p.den)(hne:e.a≠e.b)(h:onP e p=true):∃x y k:Int,0<=x/\0<=y/\0<k/\x+y=k*p.den/\cmb x (pt e.a) y (pt e.b)=⟨k*p.x,k*p.y,k*p.den⟩:=by
 rw[aIg e p hp]at h;unfold onR at h;simp only[Bool.and_eq_true,decide_eq_true_eq,beq_iff_eq,lF]at h;obtain⟨⟨⟨⟨h1,h2⟩,h3⟩,h4⟩,h5⟩:=h;exact aFA (p:=p3 p) hne (by rw[<-h5];unfold fR cross sub toV ev lin p3;grind) h1 h2 h3 h4
theorem Oe{e:S}{v:V}(hv:aM e=true)(hne:e.a≠e.b)(h:onS e v=true):∃x y k:Int,0<=x/\0<=y/\0<k/\x+y=k/\cmb x (pt e.a) y (pt e.b)=cmb k (pt v) 0 (pt v):=by
 obtain⟨x,y,k,h1,h2,h3,h4,h5⟩:=Vp (p:=kT v) (by show(0:Int)<1;omega) hne ((Gy e v).2 ((eV hv).1 h))
 refine⟨x,y,k,h1,h2,h3,by rw[h4];show k*1=k;omega,?_⟩
 rw[h5];unfold cmb pt kT;simp
theorem Ry{a b v:V}(ha:aO a 4000=true)(hb:aO b 4000=true):onS ⟨b,a⟩ v=onS ⟨a,b⟩ v:=by
 have v1:aM ⟨a,b⟩=true:=by simp[aM,ha,hb]
 have v2:aM ⟨b,a⟩=true:=by simp[aM,ha,hb]
 rw[Bool.eq_iff_iff,eV v1,eV v2];have e1:gQ ⟨b,a⟩ v=gQ ⟨a,b⟩ v:=by unfold gQ;dsimp only;rw[Int.min_comm,Int.max_comm,Int.min_comm b.y,Int.max_comm b.y]
 have e2:cross (sub a b) (sub v b)= -cross (sub b a) (sub v a):=Ks b a v;show(_/\cross (sub a b) (sub v b)=0)↔(_/\cross (sub b a) (sub v a)=0);rw[e1,e2];constructor<;>rintro⟨h1,h2⟩<;>exact⟨h1,by omega⟩
theorem Ac{p:Pt}:∀{l:List S} {ins:Bool},(∃e∈l,onP e p=true)->fH p l ins=1
 |[],_,⟨e,he,_⟩=>by cases he
 |e::l,ins,⟨e',he',ho⟩=>by
  unfold fH;cases h:onP e p with
  |true=>rfl
  |false=>
   rcases List.mem_cons.1 he' with rfl|he'
   ·rw[h]at ho;cases ho
   ·exact Ac ⟨e',he',ho⟩
theorem aFS{k:Int}(hk:0<k)(p:P3)(e:S):hit ⟨k*p.x,k*p.y,k*p.d⟩ e=hit p e:=by
 have e1:∀w,dn ⟨k*p.x,k*p.y,k*p.d⟩ w=dn p w:=fun w=>decide_eq_decide.2 (by
  show w.y*(k*p.d)<=k*p.y↔w.y*p.d<=p.y;rw[show w.y*(k*p.d)=k*(w.y*p.d) by grind]
  exact⟨fun h=>Int.le_of_mul_le_mul_left h hk,fun h=>Int.mul_le_mul_of_nonneg_left h (by omega)⟩)
 have e2:decide (0<ev (lin e.a e.b) ⟨k*p.x,k*p.y,k*p.d⟩)=decide (0<ev (lin e.a e.b) p):=decide_eq_decide.2 (by
  rw[show ev (lin e.a e.b) ⟨k*p.x,k*p.y,k*p.d⟩=k*ev (lin e.a e.b) p by unfold ev;grind]
  exact⟨fun h=>Int.pos_of_mul_pos_right h (by omega),fun h=>Int.mul_pos hk h⟩)
 unfold hit;rw[e1,e1,e2]
theorem Ae{k:Int}(hk:0<k)(r:aD)(p:P3):eK r ⟨k*p.x,k*p.y,k*p.d⟩=eK r p:=by
 unfold eK
 congr 1
 exact List.map_congr_left fun e _=>aFS hk p e
def Fs(c:S):P3:=cmb 1 (pt c.a) 1 (pt c.b)
theorem aAl(c:S):∃k:Int,0<k/\Fs c=⟨k*(p3 (dR c)).x,k*(p3 (dR c)).y,k*(p3 (dR c)).d⟩:=by
 unfold dR;split
 ·rename_i h;refine⟨2,by omega,?_⟩
  have h1:(c.a.x+c.b.x).tdiv 2*2=c.a.x+c.b.x:=by have:=Int.mul_tdiv_add_tmod (c.a.x+c.b.x) 2;omega
  have h2:(c.a.y+c.b.y).tdiv 2*2=c.a.y+c.b.y:=by have:=Int.mul_tdiv_add_tmod (c.a.y+c.b.y) 2;omega
  unfold Fs cmb pt p3;simp only[P3.mk.injEq];refine⟨?_,?_,?_⟩<;>omega
 ·refine⟨1,by omega,?_⟩
  unfold Fs cmb pt p3;simp only[P3.mk.injEq];refine⟨?_,?_,?_⟩<;>omega
theorem Wu(c:S):0<(dR c).den:=by unfold dR;split<;>simp
theorem aAC{r:aD}(hr:VR r){c:S}(ha:aO c.a 2000=true)(hb:aO c.b 2000=true)(h:∀e∈edges r,∀x y s:Int,0<=x->0<=y->0<s->cmb x (pt e.a) y (pt e.b)≠cmb s (pt c.a) s (pt c.b)):
  bH r (dR c)=if eK r (Fs c)then 2 else 0:=by
 obtain⟨k,hk,e⟩:=aAl c;rw[xN hr (qZ ha hb) fun e' he'=> ?_,e,Ae hk]
 refine Bool.eq_false_iff.2 fun ho=> ?_
 have hne:=hr.oI he';obtain⟨x,y,m,h1,h2,h3,h4,h5⟩:=Vp (Wu c) hne ho;refine h e' he' (k*x) (k*y) m (mpp (by omega) h1) (mpp (by omega) h2) h3 ?_
 unfold Fs at e;unfold cmb p3 at*;simp only[P3.mk.injEq]at*;refine⟨?_,?_,?_⟩<;>grind
theorem aAa{r:aD}(hr:VR r){c:S}(ha:aO c.a 2000=true)(hb:aO c.b 2000=true)(h:bH r (dR c)≠1):bH r (dR c)=if eK r (Fs c)then 2 else 0:=by
 obtain⟨k,hk,e⟩:=aAl c;rw[xN hr (qZ ha hb) fun e' he'=> ?_,e,Ae hk]
 refine Bool.eq_false_iff.2 fun ho=>h ?_
 unfold bH;rw[(cS _).2 hr,qZ ha hb];exact Ac ⟨e',he',ho⟩
end Go.Proofs.YtdaeofhdgabhjaaGreat.Geo
namespace Go.Proofs.YtdaeofhdgabhjaaGreat.Geo
structure Most(s:Shape)(v:List V)(acc:List S)(i k:Nat):Prop where
 chord:∀d∈acc,uF s d=true
 apart:acc.Pairwise fun d e=>dV d e≠2
 most:∀a b,a<b->b<v.length->(a<i\/(a=i/\b<k))->uF s ⟨nth v a,nth v b⟩=true->(⟨nth v a,nth v b⟩:S)∈acc\/∃d∈acc,dV d ⟨nth v a,nth v b⟩=2
theorem aAM{s:Shape}{v:List V}{acc:List S}{i k:Nat}(h:Most s v acc i k):Most s v (Kf s v acc i k) i (k+1):=by
 have up:∀{acc':List S},(∀d∈acc,d∈acc')->((uF s ⟨nth v i,nth v k⟩=true)->(⟨nth v i,nth v k⟩:S)∈acc'\/∃d∈acc',dV d ⟨nth v i,nth v k⟩=2)->
   ∀a b,a<b->b<v.length->(a<i\/(a=i/\b<k+1))->uF s ⟨nth v a,nth v b⟩=true->(⟨nth v a,nth v b⟩:S)∈acc'\/∃d∈acc',dV d ⟨nth v a,nth v b⟩=2:=by
  intro acc' hs hn a b hab hb hl hc;by_cases he:a=i/\b=k
  ·obtain⟨rfl,rfl⟩:=he;exact hn hc
  ·rcases h.most a b hab hb (by omega) hc with h1|⟨d,h1,h2⟩
   ·exact .inl (hs _ h1)
   ·exact .inr ⟨d,hs _ h1,h2⟩
 unfold Kf;cases hc:uF s ⟨nth v i,nth v k⟩&&(acc.all fun d=>dV d ⟨nth v i,nth v k⟩ !=2)with
 |true=>
  rw[if_pos rfl];rw[Bool.and_eq_true,List.all_eq_true]at hc;obtain⟨h1,h2⟩:=hc;refine⟨fun d hd=> ?_,?_,up (fun d hd=>List.mem_append_left _ hd) fun _=> .inl (List.mem_append_right _ (List.mem_singleton.2 rfl))⟩
  ·rcases List.mem_append.1 hd with hd|hd
   ·exact h.chord d hd
   ·rw[List.mem_singleton.1 hd];exact h1
  ·rw[List.pairwise_append];refine⟨h.apart,List.pairwise_singleton _ _,fun d hd e he=> ?_⟩
   rw[List.mem_singleton.1 he];have:=h2 d hd;simpa using this
 |false=>
  rw[if_neg (by simp)]
  refine⟨h.chord,h.apart,up (fun d hd=>hd) fun h1=> ?_⟩
  rw[h1,Bool.true_and,List.all_eq_false]at hc;obtain⟨d,hd,h2⟩:=hc;exact .inr ⟨d,hd,by simpa using h2⟩
theorem Rl{s:Shape}{v:List V}{acc:List S}{i:Nat}(h:Most s v acc i (i+1)):∀m,Most s v (Ms s v acc i m) i (i+1+m)
 |0=>h
 |m+1=>aAM (Rl h m)
theorem Ys(s:Shape)(v:List V):∀i,Most s v (sD s v i) i (i+1)
 |0=>⟨(fun d hd=>by cases hd),List.Pairwise.nil,(fun a b h1 h2 h3=>by omega)⟩
 |i+1=>by
  have h:=Rl (Ys s v i) (v.length-(i+1));exact⟨h.chord,h.apart,fun a b h1 h2 h3=>h.most a b h1 h2 (by omega)⟩
theorem Cw(s:Shape)(v:List V):Most s v (nU s v) v.length (v.length+1):=Ys s v v.length
end Go.Proofs.YtdaeofhdgabhjaaGreat.Geo
namespace Go.Proofs.YtdaeofhdgabhjaaGreat.Geo
theorem Hc{s t:S}(h:cR s t=2):(aM s&&aM t)=true/\(∀p,p∈ends s t->¬cB s t p)/\turn s.a s.b t.a*turn s.a s.b t.b<0/\turn t.a t.b s.a*turn t.a t.b s.b<0:=by
 have M:=oH s t;have hv:(aM s&&aM t)=true:=by
  cases hv:(aM s&&aM t)with
  |true=>rfl
  |false=>have:=M.none hv;omega
 have hn:∀p,p∈ends s t->¬cB s t p:=by
  intro p hp ho;by_cases hu:∀p q,p∈[s.a,s.b,t.a,t.b]->q∈[s.a,s.b,t.a,t.b]->cB s t p->cB s t q->p=q
  ·have:=M.touch hv hu ⟨p,hp,ho⟩;omega
  ·refine hu fun p q hp hq o1 o2=>Classical.byContradiction fun hne=> ?_
   have:=M.over p q hp hq hne o1 o2;omega
 refine⟨hv,hn,Classical.byContradiction fun hc=> ?_⟩
 have:=M.else_ hv hn hc;omega
theorem uR{s t:S}{p:V}(hp:p∈ends s t)(ho:cB s t p):cR s t≠2:=fun h=>(Hc h).2.1 p hp ho
theorem Kt(a b c:V):turn b a c= -turn a b c:=by
 unfold turn;rw[show cross (sub a b) (sub c b)= -cross (sub b a) (sub c a) by have:=Ks a b c;omega]
 unfold sgn;grind
theorem tU{a b:V}{t:S}(h:cR ⟨b,a⟩ t=2):cR ⟨a,b⟩ t=2:=by
 obtain⟨h1,h2,h3,h4⟩:=Hc h;have hva:aO a 4000=true/\aO b 4000=true:=by simp[aM]at h1;exact⟨h1.1.2,h1.1.1⟩
 have hv:(aM ⟨a,b⟩&&aM t)=true:=by simp[aM]at h1|-;exact⟨⟨h1.1.2,h1.1.1⟩,h1.2⟩
 refine(oH ⟨a,b⟩ t).cross hv (fun p hp ho=>h2 p ?_ ?_) ⟨?_,?_⟩
 ·rw[gT];simp only[List.mem_cons,List.not_mem_nil,or_false]at hp;rcases hp with rfl|rfl|rfl|rfl<;>simp
 ·obtain⟨o1,o2⟩:=ho;exact⟨by rw[Ry hva.1 hva.2];exact o1,o2⟩
 ·dsimp only at h3|-;rw[Kt b a,Kt b a,Int.neg_mul_neg];exact h3
 ·dsimp only at h4|-;rw[Int.mul_comm];exact h4
def sJ(B:List S)(a b:V):Prop:=(⟨a,b⟩:S)∈B\/(⟨b,a⟩:S)∈B
theorem Zh{W:List V}{B:List S}(hn:∀v∈W,aO v 4000=true)(hw:∀e∈B,e.a∈W/\e.b∈W/\e.a≠e.b)(hc:∀e∈B,∀v∈W,onS e v=true->v=e.a\/v=e.b)(hx:∀e∈B,∀d∈B,cR e d≠2):Segs W (sJ B):=by
 refine⟨fun h=>h.symm,fun h=> ?_,fun h=> ?_,hn,fun h hv ho=> ?_,fun h h' hm=> ?_⟩
 ·rcases h with h|h
  ·exact(hw _ h).2.2
  ·exact(hw _ h).2.2.symm
 ·rcases h with h|h
  ·exact(hw _ h).1
  ·exact(hw _ h).2.1
 ·rcases h with h|h
  ·exact hc _ h _ hv ho
  ·rw[Ry (hn _ (hw _ h).1) (hn _ (hw _ h).2.1)]at ho;exact(hc _ h _ hv ho).symm
 ·rcases h with h|h<;>rcases h' with h'|h'
  ·exact hx _ h _ h' hm
  ·exact hx _ h _ h' (by rw[iD]at hm|-;exact tU hm)
  ·exact hx _ h _ h' (tU hm)
  ·exact hx _ h _ h' (by have:=tU hm;rw[iD]at this|-;exact tU this)
theorem VR.nocross{r:aD}(h:VR r){e d:S}(he:e∈edges r)(hd:d∈edges r):cR e d≠2:=by
 obtain⟨_,i,hi,rfl⟩:=mem_edges.1 he;obtain⟨_,k,hk,rfl⟩:=mem_edges.1 hd;have vi:=dS h.near i hi;have vk:=dS h.near k hk;have h3:=h.three;have main:∀i k,i<r.length->k<r.length->i<k->cR (cP r i) (cP r k)≠2:=fun i k hi hk hik=>by
  have vi:=dS h.near i hi;have vk:=dS h.near k hk;by_cases e1:k=i+1
  ·have e2:(cP r i).b=(cP r k).a:=by show nth r ((i+1) % r.length)=nth r k;rw[Nat.mod_eq_of_lt (by omega),e1]
   exact uR (p:=(cP r i).b) (by rw[gT];simp) ⟨nT vi,by rw[e2];exact hZ vk⟩
  ·by_cases e1:i=0/\k=r.length-1
   ·have e2:(cP r k).b=(cP r i).a:=by show nth r ((k+1) % r.length)=nth r i;rw[e1.1,e1.2,show r.length-1+1=r.length by omega,Nat.mod_self]
    exact uR (p:=(cP r i).a) (by rw[gT];simp) ⟨hZ vi,by rw[<-e2];exact nT vk⟩
   ·have:=h.apart i k hik hk (by omega) e1;omega
 rcases Nat.lt_trichotomy i k with g|g|g
 ·exact main i k hi hk g
 ·subst g;exact uR (p:=(cP r i).a) (by rw[gT];simp) ⟨hZ vi,hZ vi⟩
 ·rw[iD];exact main k i hk hi g
theorem Av{α:Type}{R:α->α->Prop}(hs:∀a b,R a b->R b a):∀{l:List α},l.Pairwise R->∀a∈l,∀b∈l,a=b\/R a b
 |[],_,a,ha,_,_=>by cases ha
 |x::l,h,a,ha,b,hb=>by
  rw[List.pairwise_cons]at h;rcases List.mem_cons.1 ha with e|ha'<;>rcases List.mem_cons.1 hb with e'|hb'
  ·exact .inl (e.trans e'.symm)
  ·rw[e];exact .inr (h.1 b hb')
  ·rw[e'];exact .inr (hs _ _ (h.1 a ha'))
  ·exact Av hs h.2 a ha' b hb'
theorem VS.nocross{s:Shape}(h:VS s){e d:S}(he:e∈aE s)(hd:d∈aE s):cR e d≠2:=by
 obtain⟨r,hr,he⟩:=List.mem_flatMap.1 he;obtain⟨q,hq,hd⟩:=List.mem_flatMap.1 hd;rcases Av (fun a b h=>by rw[lL];exact h) h.pair r hr q hq with rfl|g
 ·exact(h.ring hr).nocross he hd
 ·unfold dX at g;rw[List.all_eq_true]at g;have:=List.all_eq_true.1 (g e he) d hd;simp only[beq_iff_eq]at this;omega
theorem zM{s:Shape}{e:S}(he:e∈aE s):e.a∈aR s/\e.b∈aR s:=by
 obtain⟨r,hr,he⟩:=List.mem_flatMap.1 he;obtain⟨h1,h2⟩:=dU he;exact⟨List.mem_flatten.2 ⟨r,hr,h1⟩,List.mem_flatten.2 ⟨r,hr,h2⟩⟩
structure Tg(s:Shape)(D:List S):Prop where
 vs:VS s
 chord:∀d∈D,fY s d=true
 ends:∀d∈D,d.a∈aR s/\d.b∈aR s/\d.a≠d.b
 apart:∀d∈D,∀e∈D,cR d e≠2
 most:∀a∈aR s,∀b∈aR s,a≠b->fY s ⟨a,b⟩=true->fY s ⟨b,a⟩=true->(⟨a,b⟩:S)∈D\/(⟨b,a⟩:S)∈D\/∃d∈D,cR d ⟨a,b⟩=2
 once:D.Pairwise fun d e=>d≠e/\d≠⟨e.b,e.a⟩
def sides(s:Shape)(D:List S):V->V->Prop:=sJ (aE s++D)
theorem Tg.segs{s:Shape}{D:List S}(T:Tg s D):Segs (aR s) (sides s D):=by
 have h:=T.vs;have hn:∀v∈aR s,aO v 4000=true:=fun v hv=>dQ (dZ h hv) (by omega)
 have ed:∀e∈aE s,∀d∈D,cR e d≠2:=fun e he d hd hm=>by
  have:=T.chord d hd;unfold fY at this;rw[Bool.and_eq_true,List.all_eq_true]at this;have:=this.1 e he;unfold cN at this;simp[hm]at this
 refine Zh hn (fun e he=> ?_) (fun e he v hv ho=> ?_) (fun e he d hd=> ?_)
 ·rcases List.mem_append.1 he with he|he
  ·exact⟨(zM he).1,(zM he).2,h.oI he⟩
  ·exact T.ends e he
 ·rcases List.mem_append.1 he with he|he
  ·exact h.touch hv he ho
  ·exact wR h (T.chord e he) hv ho
 ·rcases List.mem_append.1 he with he|he<;>rcases List.mem_append.1 hd with hd|hd
  ·exact h.nocross he hd
  ·exact ed e he d hd
  ·rw[iD];exact ed d hd e he
  ·exact T.apart e he d hd
end Go.Proofs.YtdaeofhdgabhjaaGreat.Geo
namespace Go.Proofs.YtdaeofhdgabhjaaGreat.Geo
def eI(s:Shape)(p:P3):Bool:=eK s.outer p&&s.holes.all fun h=> !(eK h p)
theorem Bh{a b p:V}{y k:Int}(hk:0<k)(h:cmb 0 (pt a) y (pt b)=cmb k (pt p) 0 (pt p)):p=b:=by
 simp only[cmb,pt,P3.mk.injEq]at h;obtain⟨h1,h2,h3⟩:=h;have e:y=k:=by omega
 subst e;have q1:=Int.eq_of_mul_eq_mul_left (show y≠0 by omega) (show y*b.x=y*p.x by omega)
 have q2:=Int.eq_of_mul_eq_mul_left (show y≠0 by omega) (show y*b.y=y*p.y by omega)
 cases p;cases b;simp only[V.mk.injEq]at q1 q2|-;exact⟨q1.symm,q2.symm⟩
theorem Sy{a b u w:V}(h1:turn a b u*turn a b w<0)(h2:turn u w a*turn u w b<0):∃x y s t:Int,0<x/\0<y/\0<s/\0<t/\cmb x (pt a) y (pt b)=cmb s (pt u) t (pt w):=by
 unfold turn at h1 h2;rw[oV,<-gE,<-gE]at h1 h2;have g:=gc a b (pt u) (pt w);rw[<-aJj]at g;have e:ev (lin u w) (pt b)-ev (lin u w) (pt a)=ev (lin a b) (pt u)-ev (lin a b) (pt w):=by unfold ev lin pt;grind
 rcases h1 with⟨p1,p2⟩|⟨p1,p2⟩
 ·exact⟨_,_,_,_,by omega,by omega,by omega,by omega,g⟩
 ·refine⟨-(ev (lin u w) (pt b)),ev (lin u w) (pt a),ev (lin a b) (pt w),-(ev (lin a b) (pt u)),by omega,by omega,by omega,by omega,?_⟩
  generalize ev (lin u w) (pt b)=A at*;generalize ev (lin u w) (pt a)=B at*;generalize ev (lin a b) (pt w)=C at*;generalize ev (lin a b) (pt u)=E at*;unfold cmb at g|-;simp only[P3.mk.injEq]at g|-;refine⟨?_,?_,?_⟩<;>grind
theorem aBV{e c:S}(ve:aM e=true)(vc:aM c=true)(hne:e.a≠e.b)(hcne:c.a≠c.b)
  (hno:∀x y s t:Int,0<=x->0<=y->0<s->0<t->cmb x (pt e.a) y (pt e.b)≠cmb s (pt c.a) t (pt c.b)) (hte:∀p,p=c.a\/p=c.b->onS e p=true->p=e.a\/p=e.b):cN e c=true:=by
 have A:∀p,cB e c p->p=c.a\/p=c.b:=by
  rintro p ⟨o1,o2⟩;obtain⟨x,y,k,h1,h2,h3,h4,h5⟩:=Oe ve hne o1;obtain⟨s,t,m,g1,g2,g3,g4,g5⟩:=Oe vc hcne o2;rcases Int.lt_or_le 0 s with hs|hs
  ·rcases Int.lt_or_le 0 t with ht|ht
   ·refine absurd ?_ (hno (m*x) (m*y) (k*s) (k*t) (mpp (by omega) h1) (mpp (by omega) h2) (Int.mul_pos h3 hs) (Int.mul_pos h3 ht))
    unfold cmb pt at*;simp only[P3.mk.injEq]at*;refine⟨?_,?_,?_⟩<;>grind
   ·have:t=0:=by omega
    subst this;exact .inl (Bh g3 (by rw[jG];exact g5))
  ·have:s=0:=by omega
   subst this;exact .inr (Bh g3 g5)
 have M:=oH e c;have hv:(aM e&&aM c)=true:=by rw[ve,vc];rfl
 unfold cN;by_cases hp:∃p,p∈ends e c/\cB e c p
 ·obtain⟨p,hp,ho⟩:=hp;have c1:=A p ho;have c2:=hte p c1 ho.1;have k1:cR e c=1:=by
   refine M.touch hv (fun q r hq hr oq or=>Classical.byContradiction fun hqr=> ?_) ⟨p,hp,ho⟩
   have q1:=A q oq;have r1:=A r or;have q2:=hte q q1 oq.1;have r2:=hte r r1 or.1;have:(e.a=c.a/\e.b=c.b)\/(e.a=c.b/\e.b=c.a):=by grind
   rcases this with⟨w1,w2⟩|⟨w1,w2⟩
   ·exact hno 1 1 1 1 (by omega) (by omega) (by omega) (by omega) (by rw[w1,w2])
   ·exact hno 1 1 1 1 (by omega) (by omega) (by omega) (by omega) (by rw[w1,w2,jG])
  have k2:Bw e c=true:=by rw[uN];grind
  rw[k1,k2];rfl
 ·have k0:cR e c=0:=by
   refine M.else_ hv (fun p hp' ho=>hp ⟨p,hp',ho⟩) fun⟨h1,h2⟩=> ?_
   obtain⟨x,y,s,t,hx,hy,hs,ht,g⟩:=Sy h1 h2;exact hno x y s t (by omega) (by omega) hs ht g
  rw[k0];rfl
theorem Tc{s:Shape}(h:VS s){u w:V}(hu:u∈aR s)(hw:w∈aR s)(hne:u≠w)(hno:∀e∈aE s,∀x y s t:Int,0<=x->0<=y->0<s->0<t->cmb x (pt e.a) y (pt e.b)≠cmb s (pt u) t (pt w))
  (hi:eI s (cmb 1 (pt u) 1 (pt w))=true):fY s ⟨u,w⟩=true:=by
 have nu:=dZ h hu;have nw:=dZ h hw;unfold fY;rw[Bool.and_eq_true,List.all_eq_true];refine⟨fun e he=>aBV (Ed h he) (by unfold aM;rw[dQ nu (by omega),dQ nw (by omega)];rfl) (h.oI he) hne (hno e he) fun p hp ho=> ?_,?_⟩
 ·refine h.touch ?_ he ho;rcases hp with rfl|rfl
  ·exact hu
  ·exact hw
 ·rw[beq_iff_eq,mV];have mem:∀r∈aJ s,∀e∈edges r,e∈aE s:=fun r hr e he=>List.mem_flatMap.2 ⟨r,hr,he⟩
  have wm:∀r∈aJ s,bH r (dR ⟨u,w⟩)=if eK r (Fs ⟨u,w⟩)then 2 else 0:=fun r hr=>
   aAC (h.ring hr) nu nw fun e he x y k hx hy hk=>hno e (mem r hr e he) x y k k hx hy hk hk
  unfold eI at hi;rw[Bool.and_eq_true,List.all_eq_true]at hi;refine⟨(fU s).2 h,?_,fun q hq=> ?_⟩
  ·rw[wm _ List.mem_cons_self];exact if_pos hi.1
  ·rw[wm _ (List.mem_cons_of_mem _ hq)];have:=hi.2 q hq;simp only[Bool.not_eq_true']at this;exact if_neg (by unfold Fs;rw[this];simp)
theorem aD9{s:Shape}(h:VS s){c:S}(ha:c.a∈aR s)(hb:c.b∈aR s)(hc:fY s c=true):eI s (Fs c)=true:=by
 unfold fY at hc;rw[Bool.and_eq_true,beq_iff_eq,mV]at hc;obtain⟨_,_,h2,h3⟩:=hc;have na:=dZ h ha;have nb:=dZ h hb;unfold eI;rw[Bool.and_eq_true,List.all_eq_true];refine⟨?_,fun q hq=> ?_⟩
 ·have:=aAa h.outer na nb (by omega)
  rw[h2]at this;cases hp:eK s.outer (Fs c)with
  |true=>rfl
  |false=>rw[hp]at this;simp at this
 ·have:=aAa (h.ring (List.mem_cons_of_mem _ hq)) na nb (by have:=h3 q hq;omega)
  rw[h3 q hq]at this;cases hp:eK q (Fs c)with
  |false=>rfl
  |true=>rw[hp]at this;simp at this
theorem Kp:∀l:List S,jJ (l.map fun _=>false)=false
 |[] =>rfl
 |e::l=>by show(false !=jJ (l.map fun _=>false))=false;rw[Kp l];rfl
theorem Zq{r:aD}(h2:2<=r.length)(hn:∀v∈r,-2000<=v.x/\v.x<=2000/\ -2000<=v.y/\v.y<=2000){q:P3}(hq:0<q.d)(h:2000*q.d<q.x\/q.x< -(2000*q.d)\/2000*q.d<q.y\/q.y< -(2000*q.d)):eK r q=false:=by
 have flat:∀q:P3,0<q.d->(2000*q.d<q.y\/q.y< -(2000*q.d))->eK r q=false:=by
  intro q hq h;have dnq:∀v∈r,dn q v=decide (2000*q.d<q.y):=fun v hv=>decide_eq_decide.2 (by
   obtain⟨_,_,h3,h4⟩:=hn v hv;have l1:=Int.mul_le_mul_of_nonneg_right h3 (show 0<=q.d by omega)
   have l2:=Int.mul_le_mul_of_nonneg_right h4 (show 0<=q.d by omega)
   omega)
  have:∀e∈edges r,hit q e=false:=fun e he=>by
   obtain⟨ha,hb⟩:=dU he;unfold hit;rw[dnq _ ha,dnq _ hb];simp
  unfold eK;rw[List.map_congr_left (g:=fun _=>false) this]
  exact Kp _
 by_cases hy:2000*q.d<q.y\/q.y< -(2000*q.d)
 ·exact flat q hq hy
 ·have hx:2000*q.d<q.x\/q.x< -(2000*q.d):=by omega
  rw[sV (q:=⟨q.x,q.y+4001*q.d,q.d⟩) h2 hq hq fun e he=> ?_]
  ·exact flat _ hq (.inl (by show 2000*q.d<q.y+4001*q.d;omega))
  ·rintro⟨x,y,s,t,hx0,hy0,hxy,hs,ht,g⟩;obtain⟨ha,hb⟩:=dU he;simp only[cmb,pt,P3.mk.injEq]at g;obtain⟨g1,_,g3⟩:=g;have a1:=hn _ ha;have b1:=hn _ hb;have l1:=Int.mul_le_mul_of_nonneg_left a1.1 hx0;have l2:=Int.mul_le_mul_of_nonneg_left a1.2.1 hx0;have l3:=Int.mul_le_mul_of_nonneg_left b1.1 hy0;have l4:=Int.mul_le_mul_of_nonneg_left b1.2.1 hy0;have hst:0<s+t:=by
    refine Int.not_le.1 fun h=> ?_
    have:s=0:=by omega
    have:t=0:=by omega
    subst s t;omega
   have e1:s*q.x+t*q.x=(s+t)*q.x:=by rw[Int.add_mul]
   have e2:s*q.d+t*q.d=(s+t)*q.d:=by rw[Int.add_mul]
   rcases hx with hx|hx
   ·have:=Int.mul_lt_mul_of_pos_left hx hst;have e3:(s+t)*(2000*q.d)=2000*((s+t)*q.d):=by grind
    omega
   ·have:=Int.mul_lt_mul_of_pos_left hx hst;have e3:(s+t)*(-(2000*q.d))= -(2000*((s+t)*q.d)):=by grind
    omega
theorem Gw{r:aD}(h:VR r):∀v∈r,-2000<=v.x/\v.x<=2000/\ -2000<=v.y/\v.y<=2000:=fun v hv=>by
 have:=vV h.near hv;unfold aO at this;simp only[Bool.and_eq_true,decide_eq_true_eq]at this;exact⟨this.1.1.1,this.1.1.2,this.1.2,this.2⟩
theorem Sk{s:Shape}(h:VS s){p q:P3}(hp:0<p.d)(hq:0<q.d)(hm:∀e∈aE s,¬iF e p q):eI s p=eI s q:=by
 have key:∀r∈aJ s,eK r p=eK r q:=fun r hr=>sV (by have:=(h.ring hr).three;omega) hp hq fun e he=>hm e (List.mem_flatMap.2 ⟨r,hr,he⟩)
 unfold eI;rw[key _ List.mem_cons_self]
 congr 1
 rw[Bool.eq_iff_iff,List.all_eq_true,List.all_eq_true];constructor
 ·intro g r hr;rw[<-key r (List.mem_cons_of_mem _ hr)];exact g r hr
 ·intro g r hr;rw[key r (List.mem_cons_of_mem _ hr)];exact g r hr
theorem Tg.filled{s:Shape}{D:List S}(T:Tg s D):Filled (aR s) (sides s D) (eI s):=by
 have h:=T.vs;refine⟨T.segs.net,fun p q hp hq hm=> ?_,fun u hu w hw hne hno hi=> ?_,⟨2000,by omega,fun q hq hf=> ?_⟩⟩
 ·exact Sk h hp hq fun e he=>hm e.a e.b (.inl (List.mem_append_left _ he))
 ·have c1:fY s ⟨u,w⟩=true:=Tc h hu hw hne (fun e he x y k m hx hy hk hm'=>hno e.a e.b (.inl (List.mem_append_left _ he)) x y k m hx hy hk hm') hi
  have c2:fY s ⟨w,u⟩=true:=Tc h hw hu hne.symm (fun e he x y k m hx hy hk hm'=>by
   rw[jG k m];exact hno e.a e.b (.inl (List.mem_append_left _ he)) x y m k hx hy hm' hk) (by rw[jG];exact hi)
  rcases T.most u hu w hw hne c1 c2 with g|g|⟨d,hd,hm⟩
  ·exact .inl (List.mem_append_right _ g)
  ·exact .inr (List.mem_append_right _ g)
  ·exfalso;obtain⟨_,_,m1,m2⟩:=Hc hm;obtain⟨x,y,k,m,hx,hy,hk,hm',g⟩:=Sy m1 m2;exact hno d.a d.b (.inl (List.mem_append_right _ hd)) x y k m (by omega) (by omega) hk hm' g
 ·unfold eI;rw[Zq (by have:=h.outer.three;omega) (Gw h.outer) hq hf];rfl
def aCb(acc:List (Nat×Nat))(i k:Nat):Prop:=acc.Nodup/\∀p∈acc,p.1<i\/(p.1=i/\p.2<k)
theorem aBi{s:Shape}{v:List V}{acc:List (Nat×Nat)}{i k:Nat}(h:aCb acc i k):aCb (zU s v acc i k) i (k+1):=by
 unfold zU;split
 ·refine⟨?_,fun p hp=> ?_⟩
  ·rw[List.nodup_append];refine⟨h.1,by simp,fun a ha b hb e=> ?_⟩
   obtain rfl:=List.mem_singleton.1 hb;subst e;have:=h.2 _ ha;simp at this
  ·rcases List.mem_append.1 hp with hp|hp
   ·have:=h.2 p hp;omega
   ·obtain rfl:=List.mem_singleton.1 hp;right;exact⟨rfl,by simp⟩
 ·exact⟨h.1,fun p hp=>by have:=h.2 p hp;omega⟩
theorem Rx{s:Shape}{v:List V}{acc:List (Nat×Nat)}{i:Nat}(h:aCb acc i (i+1)):∀m,aCb (rowP s v acc i m) i (i+1+m)
 |0=>h
 |m+1=>aBi (Rx h m)
theorem Zu(s:Shape)(v:List V):∀i,aCb (dB s v i) i (i+1)
 |0=>⟨List.nodup_nil,fun p hp=>by cases hp⟩
 |i+1=>by
  have:=Rx (s:=s) (v:=v) (Zu s v i) (v.length-(i+1));exact⟨this.1,fun p hp=>by have:=this.2 p hp;omega⟩
theorem Yc{s:Shape}(h:VS s){v:List V}(hv:∀x,x∈v↔x∈aR s)(hn:v.Nodup):Tg s (nU s v):=by
 obtain⟨e,F⟩:=Ot h (fun x hx=>(hv x).1 hx) hn
 have O:=Zu s v v.length;have hD:∀d∈nU s v,∃p∈dD s v,d=fB v p:=fun d hd=>by
  rw[<-e]at hd;obtain⟨p,hp,rfl⟩:=List.mem_map.1 hd;exact⟨p,hp,rfl⟩
 have ends:∀d∈nU s v,d.a∈aR s/\d.b∈aR s/\d.a≠d.b:=fun d hd=>by
  obtain⟨p,hp,rfl⟩:=hD d hd;have:=F.lt p hp;exact⟨(hv _).1 (fK (by omega)),(hv _).1 (fK this.2),fun g=>by have:=eW hn (by omega) this.2 g;omega⟩
 refine⟨h,fun d hd=> ?_,ends,fun d hd d' hd'=> ?_,fun a ha b hb hab c1 c2=> ?_,?_⟩
 ·obtain⟨p,hp,rfl⟩:=hD d hd;exact F.chord p hp
 ·have vd:∀d∈nU s v,aM d=true:=fun d hd=>by
   obtain⟨h1,h2,_⟩:=ends d hd;unfold aM;rw[dQ (dZ h h1) (by omega),dQ (dZ h h2) (by omega)];rfl
  have ap:(nU s v).Pairwise fun d e=>cR d e≠2:=(Cw s v).apart.imp fun{a b} h=>by rw[pI];exact h
  rcases Av (fun a b h=>by rw[iD];exact h) ap d hd d' hd' with rfl|g
  ·exact uR (p:=d.a) (by rw[gT];simp) ⟨hZ (vd d hd),hZ (vd d hd)⟩
  ·exact g
 ·obtain⟨i,hi,rfl⟩:=fL.1 ((hv a).2 ha);obtain⟨k,hk,rfl⟩:=fL.1 ((hv b).2 hb);rcases Nat.lt_trichotomy i k with g|g|g
  ·rcases(Cw s v).most i k g hk (.inl hi) (by rw[<-Hi h ha hb hab];exact c1)with m|⟨d,hd,m⟩
   ·exact .inl m
   ·exact .inr (.inr ⟨d,hd,by rw[pI];exact m⟩)
  ·exact absurd (by rw[g]) hab
  ·rcases(Cw s v).most k i g hi (.inl hk) (by rw[<-Hi h hb ha hab.symm];exact c2)with m|⟨d,hd,m⟩
   ·exact .inr (.inl m)
   ·refine .inr (.inr ⟨d,hd,?_⟩);rw[<-pI]at m;rw[iD]at m|-;exact tU m
 ·rw[<-e,List.pairwise_map];have O1:=O.1;rw[List.nodup_iff_pairwise_ne]at O1;refine(List.Pairwise.and_mem.1 O1).imp ?_;rintro p q ⟨hp,hq,hne⟩;have lp:=F.lt p hp;have lq:=F.lt q hq;refine⟨fun g=> ?_,fun g=> ?_⟩
  ·unfold fB at g;simp only[S.mk.injEq]at g;have i1:=eW hn (by omega) (by omega) g.1
   have i2:=eW hn (by omega) (by omega) g.2
   exact hne (by cases p;cases q;simp only[Prod.mk.injEq]at*;exact⟨i1,i2⟩)
  ·unfold fB at g;simp only[S.mk.injEq]at g;have i1:=eW hn (by omega) (by omega) g.1
   have i2:=eW hn (by omega) (by omega) g.2
   omega
end Go.Proofs.YtdaeofhdgabhjaaGreat.Geo
namespace Go.Proofs.YtdaeofhdgabhjaaGreat.Geo
theorem Hv{a b c:V}(hne:c≠a)(n:Int){h:Int}(hc:0<ev (lin a b) (pt c))(hh:h<ev (lin a b) (pt c)):∃q,In (thin c a n) q/\In [lin a b,lin c a,over b c h] q:=by
 have hL2:=fO hne;have e9:(a.x-c.x)*(a.x-c.x)-(a.y-c.y)* -(a.y-c.y)=eL c a:=by unfold eL;grind
 obtain⟨M0,hM0,hI⟩:=kI hne (x:= -(a.y-c.y)) (y:=a.x-c.x) (by omega) n
 have e1:∀M:Int,ev (lin a b) (cZ c a M (-(a.y-c.y)) (a.x-c.x))=M*ev (lin a b) (pt c)+ev (lin a b) ⟨-(a.y-c.y),a.x-c.x,0⟩:=fun M=>by unfold ev lin cZ pt;grind
 generalize hk:ev (lin a b) ⟨-(a.y-c.y),a.x-c.x,0⟩=k at e1;have hP:=hI (M0+k.natAbs) (by omega)
 have hβ:0<ev (lin a b) (cZ c a (M0+k.natAbs) (-(a.y-c.y)) (a.x-c.x)):=by
  rw[e1];have:=Int.mul_le_mul_of_nonneg_left (show 1<=ev (lin a b) (pt c) by omega) (show 0<=M0+(k.natAbs:Int) by omega)
  omega
 generalize cZ c a (M0+k.natAbs) (-(a.y-c.y)) (a.x-c.x)=P at*;obtain⟨p0,p1,p2,p3⟩:=lS.1 hP;have e0:ev (lin b c) (pt a)=ev (lin a b) (pt c):=iX a b c;refine⟨cmb (1+(ev (over b c h) P).natAbs) (pt a) 1 P,?_,by simp only[cmb,pt];omega,?_⟩
 ·rw[lS,aK,aK,aK,bQ,oL,iY];have g1:=mpp (show 0<=1+((ev (over b c h) P).natAbs:Int) by omega) (show 0<=eL c a by omega)
  have g2:n*(1*ev (lin c a) P)=n*ev (lin c a) P:=by rw[Int.one_mul]
  refine⟨by simp only[cmb,pt];omega,by omega,?_,?_⟩<;>rw[Int.mul_zero,Int.zero_add]at* <;>omega
 ·simp only[List.mem_cons,List.not_mem_nil,or_false,forall_eq_or_imp,forall_eq];refine⟨?_,?_,?_⟩
  ·rw[aK,bG];omega
  ·rw[aK,bQ];omega
  ·rw[aK];have ho:1<=ev (over b c h) (pt a):=by rw[lT,e0];show 1<=ev (lin a b) (pt c)-h*1;omega
   have:=Int.mul_le_mul_of_nonneg_left ho (show 0<=1+((ev (over b c h) P).natAbs:Int) by omega)
   omega
section
variable {W:List V} {side:V->V->Prop} {ins:P3->Bool}
theorem Corner.both(H:Calm W side ins){a b c:V}{h:Int}(K:Corner W side a b c h)(hab:side a b)(hac:side a c)(hc:0<ev (lin a b) (pt c))(hh:h<ev (lin a b) (pt c)):Lft ins a b↔Lft ins c a:=by
 have N:=H.net;have key:∀{q1 q2:P3},In [lin a b,lin c a,over b c h] q1->In [lin a b,lin c a,over b c h] q2->ins q1=ins q2:=fun h1 h2=>H.const (fun u v huv=>K.free N huv) h1 h2
 constructor
 ·rintro⟨n0,hn⟩;obtain⟨q1,g1,g2⟩:=Ce (N.ne hab) n0 hc hh;refine Gd H (N.symm hac) fun n=> ?_
  obtain⟨q2,k1,k2⟩:=Hv (N.ne (N.symm hac)) n hc hh;exact⟨q2,k1,by rw[key k2 g2];exact hn n0 (Int.le_refl _) q1 g1⟩
 ·rintro⟨n0,hn⟩;obtain⟨q1,g1,g2⟩:=Hv (N.ne (N.symm hac)) n0 hc hh;refine Gd H hab fun n=> ?_
  obtain⟨q2,k1,k2⟩:=Ce (N.ne hab) n hc hh;exact⟨q2,k1,by rw[key k2 g2];exact hn n0 (Int.le_refl _) q1 g1⟩
open Classical in
theorem aBL(_N:Net W side){a b c:V}(hab:side a b)(hac:side a c)(hc:0<ev (lin a b) (pt c))(hs:∀x,side a x->¬(0<ev (lin a b) (pt x)/\0<ev (lin c a) (pt x))):∃h,h<ev (lin a b) (pt c)/\Corner W side a b c h:=by
 have top:∀w∈W,w≠a->0<=ev (lin a b) (pt w)->0<=ev (lin c a) (pt w)->ev (lin b c) (pt w)<ev (lin a b) (pt c):=by
  intro w _ hwa h1 h2;have:=Hj a b c (pt w);rw[show(pt w).d=1 from rfl,Int.mul_one]at this
  refine Int.not_le.1 fun g=>hwa ?_
  have z1:ev (lin a b) (pt w)=0:=by omega
  have z2:ev (lin c a) (pt w)=0:=by omega
  have z3:ev (lin b c) (pt w)=ev (lin a b) (pt c):=by omega
  have q1:=aNc a b c ⟨1,0,0⟩ (pt w);have q2:=aNc a b c ⟨0,1,0⟩ (pt w);rw[z1,z2,z3,Int.zero_mul,Int.zero_mul,Int.add_zero,Int.add_zero]at q1 q2;have r1:=Int.eq_of_mul_eq_mul_left (by omega) q1
  have r2:=Int.eq_of_mul_eq_mul_left (by omega) q2
  simp only[ev,pt]at r1 r2;cases w;cases a;simp only[V.mk.injEq];simp only at r1 r2;omega
 obtain⟨M,hM⟩:∃h,0<=h/\h<ev (lin a b) (pt c)/\∀w∈W,w≠a->0<=ev (lin a b) (pt w)->0<=ev (lin c a) (pt w)->ev (lin b c) (pt w)<=h:=by
  by_cases hl:(W.filter fun w=>decide (w≠a/\0<=ev (lin a b) (pt w)/\0<=ev (lin c a) (pt w)))=[]
  ·refine⟨0,Int.le_refl _,hc,fun w hw h1 h2 h3=> ?_⟩
   have:w∈(W.filter fun w=>decide (w≠a/\0<=ev (lin a b) (pt w)/\0<=ev (lin c a) (pt w))):=List.mem_filter.2 ⟨hw,decide_eq_true ⟨h1,h2,h3⟩⟩
   rw[hl]at this;cases this
  ·obtain⟨w,hw,hm⟩:=No (fun w=>ev (lin b c) (pt w)) hl
   obtain⟨w1,w2⟩:=List.mem_filter.1 hw;have w3:=of_decide_eq_true w2;have:=top w w1 w3.1 w3.2.1 w3.2.2;refine⟨max 0 (ev (lin b c) (pt w)),by omega,by omega,fun u hu h1 h2 h3=> ?_⟩
   have:=hm u (List.mem_filter.2 ⟨hu,decide_eq_true ⟨h1,h2,h3⟩⟩);omega
 exact⟨M,hM.2.1,hab,hac,hc,hs,hM.1,hM.2.2⟩
theorem Lm(H:Calm W side ins){a b c:V}(hab:side a b)(hac:side a c)(hc:0<ev (lin a b) (pt c))(hs:∀x,side a x->x=b\/x=c):Lft ins a b↔Lft ins c a:=by
 obtain⟨h,hh,K⟩:=aBL H.net hab hac hc fun x hx ⟨h1,h2⟩=>by
  rcases hs x hx with rfl|rfl
  ·rw[bQ]at h1;omega
  ·rw[bG]at h2;omega
 exact K.both H hab hac hc hh
end
end Go.Proofs.YtdaeofhdgabhjaaGreat.Geo
namespace Go.Proofs.YtdaeofhdgabhjaaGreat.Geo
structure T3 where
 a:V
 b:V
 c:V
deriving DecidableEq
def T3.sides(t:T3):List S:=[⟨t.a,t.b⟩,⟨t.b,t.c⟩,⟨t.c,t.a⟩]
def T3.rot(t:T3):T3:=⟨t.b,t.c,t.a⟩
section
variable {W:List V} {side:V->V->Prop} {ins:P3->Bool}
structure All3(W:List V)(side:V->V->Prop)(ins:P3->Bool)(TL:List T3):Prop where
 tri:∀t∈TL,Tri W side ins t.a t.b t.c
 all:∀a b c,Tri W side ins a b c->(⟨a,b,c⟩:T3)∈TL\/(⟨b,c,a⟩:T3)∈TL\/(⟨c,a,b⟩:T3)∈TL
 once:TL.Pairwise fun t u=>t≠u/\t≠u.rot/\t≠u.rot.rot
theorem pW{t:T3}{e:S}:e∈t.sides↔(e.a=t.a/\e.b=t.b)\/(e.a=t.b/\e.b=t.c)\/(e.a=t.c/\e.b=t.a):=by
 cases e;unfold T3.sides;simp only[List.mem_cons,List.not_mem_nil,or_false,S.mk.injEq]
theorem All3.perm(H:Filled W side ins){TL:List T3}(A:All3 W side ins TL){DS:List S}(hn:DS.Nodup)(hm:∀e:S,e∈DS↔side e.a e.b/\Lft ins e.a e.b):(TL.flatMap T3.sides).Perm DS:=by
 have N:=H.net;refine(List.perm_ext_iff_of_nodup ?_ hn).2 fun e=> ?_
 ·rw[List.nodup_iff_pairwise_ne,List.flatMap_def,List.pairwise_flatten];refine⟨fun l hl=> ?_,?_⟩
  ·obtain⟨t,ht,rfl⟩:=List.mem_map.1 hl;have h:=A.tri t ht;have n1:=N.ne h.ab;have n2:=N.ne h.bc;have n3:=N.ne h.ca;unfold T3.sides;simp only[List.pairwise_cons,List.mem_cons,List.not_mem_nil,or_false,forall_eq_or_imp,forall_eq,ne_eq,S.mk.injEq,not_and,false_imp_iff,implies_true,List.Pairwise.nil,and_true];refine⟨⟨fun e=>absurd e n1,fun e=>absurd e.symm n3⟩,fun e=>absurd e n2⟩
  ·rw[List.pairwise_map];refine(List.Pairwise.and_mem.1 A.once).imp ?_;rintro t u ⟨ht,hu,h1,h2,h3⟩ e he e' he' rfl;have T:=A.tri t ht;have U:=A.tri u hu;have key:∀{a b c x:V},Tri W side ins a b c->Tri W side ins a b x->c=x:=fun h h'=>Ht N h h'
   cases t;cases u;rw[pW]at he he';dsimp only at*;rcases he with⟨e1,e2⟩|⟨e1,e2⟩|⟨e1,e2⟩<;>rcases he' with⟨f1,f2⟩|⟨f1,f2⟩|⟨f1,f2⟩<;>rw[e1]at f1<;>rw[e2]at f2<;>subst f1<;>subst f2
   ·exact h1 (by rw[key T U])
   ·have:=key T U.rot;subst this;exact h2 rfl
   ·have:=key T U.rot.rot;subst this;exact h3 rfl
   ·have:=key T.rot U;subst this;exact h3 rfl
   ·have:=key T.rot U.rot;subst this;exact h1 rfl
   ·have:=key T.rot U.rot.rot;subst this;exact h2 rfl
   ·have:=key T.rot.rot U;subst this;exact h2 rfl
   ·have:=key T.rot.rot U.rot;subst this;exact h3 rfl
   ·have:=key T.rot.rot U.rot.rot;subst this;exact h1 rfl
 ·rw[hm,List.mem_flatMap];constructor
  ·rintro⟨t,ht,he⟩;have T:=A.tri t ht;rcases pW.1 he with⟨e1,e2⟩|⟨e1,e2⟩|⟨e1,e2⟩<;>rw[e1,e2]
   ·exact⟨T.ab,T.lft H⟩
   ·exact⟨T.bc,T.rot.lft H⟩
   ·exact⟨T.ca,T.rot.rot.lft H⟩
  ·rintro⟨h1,h2⟩;obtain⟨c,T⟩:=An H h1 h2;rcases A.all _ _ _ T with g|g|g
   ·exact⟨_,g,pW.2 (.inl ⟨rfl,rfl⟩)⟩
   ·exact⟨_,g,pW.2 (.inr (.inr ⟨rfl,rfl⟩))⟩
   ·exact⟨_,g,pW.2 (.inr (.inl ⟨rfl,rfl⟩))⟩
theorem Kw(f:S->Int):∀TL:List T3,((TL.flatMap T3.sides).map f).sum=(TL.map fun t=>f ⟨t.a,t.b⟩+f ⟨t.b,t.c⟩+f ⟨t.c,t.a⟩).sum
 |[] =>rfl
 |t::TL=>by
  have:=Kw f TL;rw[List.flatMap_cons,List.map_append,List.sum_append,this,List.map_cons,List.sum_cons];unfold T3.sides;simp only[List.map_cons,List.map_nil,List.sum_cons,List.sum_nil];omega
theorem All3.sum(H:Filled W side ins){TL:List T3}(A:All3 W side ins TL){DS:List S}(hn:DS.Nodup)(hm:∀e:S,e∈DS↔side e.a e.b/\Lft ins e.a e.b)(f:S->Int):
  (TL.map fun t=>f ⟨t.a,t.b⟩+f ⟨t.b,t.c⟩+f ⟨t.c,t.a⟩).sum=(DS.map f).sum:=by
 rw[<-Kw];exact tQ ((A.perm H hn hm).map f)
open Classical in
theorem aBX(N:Net W side)(ins:P3->Bool)(hW:W.Nodup):∃TL,All3 W side ins TL:=by
 refine⟨(W.flatMap fun a=>W.flatMap fun b=>W.map fun c=>(⟨a,b,c⟩:T3)).filter fun t=>decide (Tri W side ins t.a t.b t.c/\bX t.a t.b=true/\bX t.a t.c=true),fun t ht=> ?_,fun a b c h=> ?_,?_⟩
 ·exact(of_decide_eq_true (List.mem_filter.1 ht).2).1
 ·have wa:=N.mem h.ab;have wb:=N.mem h.bc;have wc:=N.mem h.ca;have n1:=N.ne h.ab;have n2:=N.ne h.bc;have n3:=N.ne h.ca;have inl:∀{a b c:V},a∈W->b∈W->c∈W->Tri W side ins a b c->bX a b=true->bX a c=true->(⟨a,b,c⟩:T3)∈(W.flatMap fun a=>W.flatMap fun b=>W.map fun c=>(⟨a,b,c⟩:T3)).filter fun t=>decide (Tri W side ins t.a t.b t.c/\bX t.a t.b=true/\bX t.a t.c=true):=
   fun ha hb hc h h1 h2=>List.mem_filter.2 ⟨List.mem_flatMap.2 ⟨_,ha,List.mem_flatMap.2 ⟨_,hb,List.mem_map.2 ⟨_,hc,rfl⟩⟩⟩,decide_eq_true ⟨h,h1,h2⟩⟩
  by_cases g1:bX a b=true
  ·by_cases g2:bX a c=true
   ·exact .inl (inl wa wb wc h g1 g2)
   ·have g3:=tV (by simpa using g2) n3.symm
    exact .inr (.inr (inl wc wa wb h.rot.rot g3 (mX g3 g1)))
  ·have g3:=tV (by simpa using g1) n1
   by_cases g2:bX b c=true
   ·exact .inr (.inl (inl wb wc wa h.rot g2 g3))
   ·have g4:=tV (by simpa using g2) n2
    exact .inr (.inr (inl wc wa wb h.rot.rot (mX g4 g3) g4))
 ·have nd:(W.flatMap fun a=>W.flatMap fun b=>W.map fun c=>(⟨a,b,c⟩:T3)).Nodup:=by
   rw[List.nodup_iff_pairwise_ne]at hW|-;rw[List.flatMap_def,List.pairwise_flatten];refine⟨fun l hl=> ?_,?_⟩
   ·obtain⟨a,_,rfl⟩:=List.mem_map.1 hl;rw[List.flatMap_def,List.pairwise_flatten];refine⟨fun l hl=> ?_,?_⟩
    ·obtain⟨b,_,rfl⟩:=List.mem_map.1 hl;rw[List.pairwise_map];exact hW.imp fun{c c'} h e=>h (by simpa using e)
    ·rw[List.pairwise_map];refine hW.imp fun{b b'} h x hx y hy e=> ?_
     obtain⟨c,_,rfl⟩:=List.mem_map.1 hx;obtain⟨c',_,rfl⟩:=List.mem_map.1 hy;simp only[T3.mk.injEq]at e;exact h e.2.1
   ·rw[List.pairwise_map];refine hW.imp fun{a a'} h x hx y hy e=> ?_
    obtain⟨b,_,hx⟩:=List.mem_flatMap.1 hx;obtain⟨c,_,rfl⟩:=List.mem_map.1 hx;obtain⟨b',_,hy⟩:=List.mem_flatMap.1 hy;obtain⟨c',_,rfl⟩:=List.mem_map.1 hy;simp only[T3.mk.injEq]at e;exact h e.1
  refine(List.Pairwise.and_mem.1 (List.nodup_iff_pairwise_ne.1 (nd.filter _))).imp ?_;rintro t u ⟨ht,hu,hne⟩;have T:=(of_decide_eq_true (List.mem_filter.1 ht).2).2;have U:=(of_decide_eq_true (List.mem_filter.1 hu).2).2;refine⟨hne,fun e=> ?_,fun e=> ?_⟩
  ·rw[e]at T;have:=mX U.1 T.2;unfold T3.rot at this;rw[nP]at this;cases this
  ·rw[e]at T;have:=mX U.2 T.1;unfold T3.rot at this;rw[nP]at this;cases this
end
end Go.Proofs.YtdaeofhdgabhjaaGreat.Geo
namespace Go.Proofs.YtdaeofhdgabhjaaGreat.Geo
def swp(e:S):S:=⟨e.b,e.a⟩
theorem Yz(e:S):swp (swp e)=e:=rfl
section
variable {W:List V} {side:V->V->Prop} {ins:P3->Bool}
theorem aCM(H:Calm W side ins){a b:V}(hab:side a b):∃N0:Int,1<=N0/\∀n,N0<=n->(∀u v,side u v->iU (thin a b n) ⟨u,v⟩)/\∀q,In (thin a b n) q->(Lft ins a b↔ins q=true):=by
 obtain⟨N0,h1,h2⟩:=H.net.thin hab;refine⟨N0,h1,fun n hn=>⟨h2 n hn,fun q hq=>⟨fun⟨m,hm⟩=> ?_,fun hi=>Gd H hab fun m=> ?_⟩⟩⟩
 ·obtain⟨p,hp⟩:=tI (H.net.ne hab) (max n m);rw[H.const (h2 n hn) hq (mR (by omega) hp)]
  exact hm (max n m) (by omega) p hp
 ·obtain⟨p,hp⟩:=tI (H.net.ne hab) (max n m);exact⟨p,mR (by omega) hp,by rw[<-hi];exact H.const (h2 n hn) (mR (by omega) hp) hq⟩
end
theorem VR.rW{r:aD}(h:VR r):(edges r).Nodup:=by
 unfold edges;rw[if_neg (by have:=h.three;omega),List.nodup_iff_pairwise_ne,List.pairwise_map]
 refine(List.Pairwise.and_mem.1 (List.nodup_iff_pairwise_ne.1 List.nodup_range)).imp ?_;rintro i k ⟨hi,hk,hne⟩ e;exact hne (h.inj (List.mem_range.1 hi) (List.mem_range.1 hk) (congrArg S.a e))
theorem VR.aFE{r:aD}(h:VR r){e:S}(he:e∈edges r):swp e∉edges r:=by
 intro hs;have h3:=h.three;obtain⟨_,i,hi,rfl⟩:=mem_edges.1 he;obtain⟨_,k,hk,e⟩:=mem_edges.1 hs;have e1:nth r ((i+1) % r.length)=nth r k:=congrArg S.a e;have e2:nth r i=nth r ((k+1) % r.length):=congrArg S.b e;have m1:=Nat.mod_lt (i+1) (show 0<r.length by omega)
 have m2:=Nat.mod_lt (k+1) (show 0<r.length by omega)
 have i1:=h.inj m1 hk e1;have i2:=h.inj hi m2 e2;by_cases g1:i+1<r.length
 ·rw[Nat.mod_eq_of_lt g1]at i1;by_cases g2:k+1<r.length
  ·rw[Nat.mod_eq_of_lt g2]at i2;omega
  ·rw[show k+1=r.length by omega,Nat.mod_self]at i2;omega
 ·rw[show i+1=r.length by omega,Nat.mod_self]at i1
  rw[Nat.mod_eq_of_lt (by omega)]at i2;omega
theorem VR.calm{r:aD}(h:VR r):Calm r (sJ (edges r)) (eK r):=by
 refine⟨(Zh (fun v hv=>dQ (vV h.near hv) (by omega)) (fun e he=>⟨(dU he).1,(dU he).2,h.oI he⟩) (fun e he v hv ho=>h.Kv hv he ho) (fun e he d hd=>h.nocross he hd)).net,fun p q hp hq hm=> ?_⟩
 exact sV (by have:=h.three;omega) hp hq fun e he=>hm e.a e.b (.inl he)
theorem VR.flip{r:aD}(h:VR r){a b:V}(he:(⟨a,b⟩:S)∈edges r):Lft (eK r) a b↔¬Lft (eK r) b a:=by
 have C:=h.calm;have hab:sJ (edges r) a b:= .inl he;have hne:=C.net.ne hab;obtain⟨n1,_,h1⟩:=aCM C hab;obtain⟨n2,_,h2⟩:=aCM C (C.net.symm hab);obtain⟨p,q,hp,hq,hpq⟩:=Geo.flip (r:=r) (by have:=h.three;omega) h.rW hne he (N:=max n1 n2) (by omega) fun e he' hn=>by
  have hs:sJ (edges r) e.a e.b:= .inl he';refine⟨?_,(h1 _ (by omega)).1 _ _ hs,(h2 _ (by omega)).1 _ _ hs⟩
  rcases C.net.off hab hs with g|⟨g1,g2⟩|⟨g1,g2⟩
  ·exact g
  ·exact absurd (by cases e;simp only at g1 g2;rw[g1,g2]) hn
  ·exfalso;refine h.aFE he ?_;have:swp ⟨a,b⟩=e:=by cases e;simp only at g1 g2;unfold swp;rw[g1,g2]
   rw[this];exact he'
 rw[(h1 _ (by omega)).2 q hq,(h2 _ (by omega)).2 p hp]
 cases hx:eK r p<;>cases hy:eK r q<;>simp_all
theorem VR.around{r:aD}(h:VR r){i:Nat}(hi:i<r.length){x:V}(hx:sJ (edges r) (nth r ((i+1) % r.length)) x):x=nth r ((i+1+1) % r.length)\/x=nth r i:=by
 have h3:=h.three;have hm:=Nat.mod_lt (i+1) (show 0<r.length by omega)
 rcases hx with hx|hx
 ·obtain⟨_,k,hk,e⟩:=mem_edges.1 hx;have e1:=h.inj hm hk (congrArg S.a e);have e2:x=nth r ((k+1) % r.length):=congrArg S.b e;refine .inl ?_;rw[e2,<-e1,Nat.mod_add_mod]
 ·obtain⟨_,k,hk,e⟩:=mem_edges.1 hx;have e1:=h.inj hm (Nat.mod_lt (k+1) (show 0<r.length by omega)) (congrArg S.b e)
  have e2:x=nth r k:=congrArg S.a e;refine .inr ?_;rw[e2]
  congr 1
  by_cases g1:i+1<r.length<;>by_cases g2:k+1<r.length
  ·rw[Nat.mod_eq_of_lt g1,Nat.mod_eq_of_lt g2]at e1;omega
  ·rw[Nat.mod_eq_of_lt g1,show k+1=r.length by omega,Nat.mod_self]at e1;omega
  ·rw[Nat.mod_eq_of_lt g2,show i+1=r.length by omega,Nat.mod_self]at e1;omega
  ·omega
theorem rM{r:aD}(h:VR r){i:Nat}(hi:i<r.length):cP r i∈edges r:=mem_edges.2 ⟨by have:=h.three;omega,i,hi,rfl⟩
theorem VR.next{r:aD}(h:VR r){i:Nat}(hi:i<r.length):Lft (eK r) (cP r i).a (cP r i).b↔Lft (eK r) (cP r ((i+1) % r.length)).a (cP r ((i+1) % r.length)).b:=by
 have h3:=h.three;have C:=h.calm;have hm:=Nat.mod_lt (i+1) (show 0<r.length by omega)
 have t:=h.turn' i hi;have ei:cP r i=⟨nth r i,nth r ((i+1) % r.length)⟩:=rfl;have ek:cP r ((i+1) % r.length)=⟨nth r ((i+1) % r.length),nth r ((i+1+1) % r.length)⟩:=by
  show(⟨_,nth r (((i+1) % r.length+1) % r.length)⟩:S)=_;rw[Nat.mod_add_mod]
 have m1:=rM h hi;have m2:=rM h hm;have ar:=fun x=>h.around hi (x:=x)
 rw[ei]at m1|-;rw[ek]at m2|-;dsimp only;unfold Geo.turn at t;rw[Ne,lF,<-gE]at t;generalize nth r i=u at*;generalize nth r ((i+1) % r.length)=v at*;generalize nth r ((i+1+1) % r.length)=w at*;rcases Int.lt_or_gt_of_ne t with g|g
 ·have g':0<ev (lin v u) (pt w):=by rw[nJ];omega
  have:=Lm C (.inr m1) (.inl m2) g' fun x hx=>(ar x hx).symm
  rw[h.flip m1,h.flip m2,this]
 ·have g':0<ev (lin v w) (pt u):=by rw[iX];exact g
  exact(Lm C (.inl m2) (.inr m1) g' ar).symm
theorem VR.Hq{r:aD}(h:VR r):∀i,i<r.length->(Lft (eK r) (cP r i).a (cP r i).b↔Lft (eK r) (cP r 0).a (cP r 0).b)
 |0,_=>Iff.rfl
 |i+1,hi=>by
  have:=h.next (i:=i) (by omega)
  rw[Nat.mod_eq_of_lt hi]at this;rw[<-this];exact h.Hq i (by omega)
theorem aAb{s:Shape}{D:List S}(T:Tg s D){a b:V}(hab:sides s D a b)(hi:eI s (cmb 1 (pt a) 1 (pt b))=true)
  (ho:∀e∈aE s,∀x y k:Int,0<=x->0<=y->0<k->cmb x (pt e.a) y (pt e.b)≠cmb k (pt a) k (pt b)):Lft (eI s) a b:=by
 have H:=T.filled;have hne:=H.net.ne hab;have hL:=fO hne;refine Gd H.calm hab fun n=> ?_
 obtain⟨N0,_,h2⟩:=H.net.thin hab;obtain⟨q,hq⟩:=tI hne (max n N0);refine⟨q,mR (by omega) hq,?_⟩
 rw[<-hi];refine Sk T.vs hq.1 (by simp[cmb,pt]) fun e he hm=> ?_
 obtain⟨x,y,t,k,hx,hy,hxy,ht,hk,g⟩:=hm;rcases Int.lt_or_le 0 t with ht'|ht'
 ·obtain⟨f,hf,hle⟩:=h2 (max n N0) (by omega) e.a e.b (.inl (List.mem_append_left _ he)) x y hx hy hxy
  have e1:x*ev f (pt e.a)+y*ev f (pt e.b)=t*ev f q+k*(ev f (pt a)+ev f (pt b)):=by
   rw[<-aK,g,aK,aK,Int.one_mul,Int.one_mul]
  dsimp only at hle;have p1:=Int.mul_pos ht' (hq.2 f hf);have p2:0<=ev f (pt a)+ev f (pt b):=by
   unfold thin at hf;simp only[List.mem_cons,List.not_mem_nil,or_false]at hf;rcases hf with rfl|rfl|rfl
   ·rw[bG,bQ];omega
   ·rw[jF,jF,bG,bQ,iY,oL];omega
   ·rw[mF,mF,bG,bQ,iY,oL,xZ];omega
  have:=mpp hk p2;omega
 ·have:t=0:=by omega
  subst this;have hd:=congrArg P3.d g;simp only[cmb,pt]at hd;refine ho e he x y k hx hy (by omega) ?_
  rw[g];unfold cmb;simp only[P3.mk.injEq];refine⟨?_,?_,?_⟩<;>grind
theorem pZ{s:Shape}{D:List S}(T:Tg s D){d e:S}(hd:d∈D)(he:e∈aE s):e≠d/\e≠swp d:=by
 have h:=T.vs;have hc:=T.chord d hd;obtain⟨d1,d2,d3⟩:=T.ends d hd;have vd:aM d=true:=by unfold aM;rw[dQ (dZ h d1) (by omega),dQ (dZ h d2) (by omega)];rfl
 have ve:=Ed h he;unfold fY at hc;rw[Bool.and_eq_true,List.all_eq_true]at hc;have ht:=hc.1 e he;have k:cB e d e.a->cB e d e.b->False:=fun o1 o2=>by
  have:=(oH e d).over e.a e.b (by simp) (by simp) (h.oI he) o1 o2
  unfold cN at ht;rw[this]at ht;simp at ht
 refine⟨fun g=> ?_,fun g=> ?_⟩
 ·subst g;exact k ⟨hZ ve,hZ ve⟩ ⟨nT ve,nT ve⟩
 ·subst g;exact k ⟨hZ ve,nT vd⟩ ⟨nT ve,hZ vd⟩
theorem Sx{s:Shape}{D:List S}(T:Tg s D){a b:V}(hd:(⟨a,b⟩:S)∈D\/(⟨b,a⟩:S)∈D):∀e∈aE s,∀x y k:Int,0<=x->0<=y->0<k->cmb x (pt e.a) y (pt e.b)≠cmb k (pt a) k (pt b):=by
 intro e he x y k hx hy hk g;have N:=T.segs.net;have hab:sides s D a b:=hd.imp (List.mem_append_right _) (List.mem_append_right _);have hs:sides s D e.a e.b:= .inl (List.mem_append_left _ he);have vt:∀{v:V} {y:Int},v∈aR s->cmb k (pt a) k (pt b)=cmb y (pt v) 0 (pt v)->0<y->False:=fun{v y} hv g hy=>by
  rcases N.clear hab hv k k y (by omega) (by omega) g hy with rfl|rfl
  ·have:=tD (a:=v) (b:=b) (s:=k) hk (by rw[g];have:=congrArg P3.d g;simp only[cmb,pt]at this|-;simp only[P3.mk.injEq];refine⟨?_,?_,?_⟩<;>grind)
   exact N.ne hab this.symm
  ·have:=tD (a:=v) (b:=a) (s:=k) hk (by rw[jG,g];have:=congrArg P3.d g;simp only[cmb,pt]at this|-;simp only[P3.mk.injEq];refine⟨?_,?_,?_⟩<;>grind)
   exact N.ne hab this
 have hd0:=congrArg P3.d g;rw[oD,oD]at hd0;have ev:=zM he;rcases Int.lt_or_le 0 x with hx'|hx'
 ·rcases Int.lt_or_le 0 y with hy'|hy'
  ·rcases N.apart hs hab _ _ _ _ hx' hy' hk hk g with⟨e1,e2⟩|⟨e1,e2⟩<;>rcases hd with hd|hd
   ·exact(pZ T hd he).1 (by cases e;simp only at e1 e2;rw[e1,e2])
   ·exact(pZ T hd he).2 (by cases e;simp only at e1 e2;rw[e1,e2];rfl)
   ·exact(pZ T hd he).2 (by cases e;simp only at e1 e2;rw[e1,e2];rfl)
   ·exact(pZ T hd he).1 (by cases e;simp only at e1 e2;rw[e1,e2])
  ·have:y=0:=by omega
   subst this;exact vt ev.1 (by rw[<-g];unfold cmb;simp) hx'
 ·have:x=0:=by omega
  subst this;exact vt ev.2 (by rw[<-g];unfold cmb;simp) (show 0<y by omega)
theorem mH{s:Shape}{D:List S}(T:Tg s D){d:S}(hd:d∈D):Lft (eI s) d.a d.b/\Lft (eI s) d.b d.a:=by
 obtain⟨d1,d2,_⟩:=T.ends d hd;have hi:=aD9 T.vs d1 d2 (T.chord d hd);refine⟨aAb T (.inl (List.mem_append_right _ hd)) hi (Sx T (.inl hd)),aAb T (.inr (List.mem_append_right _ hd)) ?_ (Sx T (.inr hd))⟩;rw[jG];exact hi
end Go.Proofs.YtdaeofhdgabhjaaGreat.Geo
namespace Go.Proofs.YtdaeofhdgabhjaaGreat.Geo
def Ek(E D:List S):List S:=E++(D++D.map swp)
theorem Nv{l:List S}(h:l.Nodup):(l.map swp).Nodup:=by
 rw[List.nodup_iff_pairwise_ne]at h|-;rw[List.pairwise_map];exact h.imp fun{a b} hne e=>hne (by rw[<-Yz a,e,Yz])
theorem uI{l:List S}{e:S}:e∈l.map swp↔swp e∈l:=by
 rw[List.mem_map];exact⟨fun⟨d,hd,e⟩=>by rw[<-e];exact hd,fun h=>⟨swp e,h,rfl⟩⟩
theorem oB{s:Shape}{D E:List S}(T:Tg s D)(hE:E.Nodup)(hs:∀e∈E,e∈aE s\/swp e∈aE s):(Ek E D).Nodup:=by
 have off:∀e∈E,∀d∈D,e≠d/\e≠swp d:=fun e he d hd=>by
  rcases hs e he with g|g
  ·exact pZ T hd g
  ·have:=pZ T hd g;exact⟨fun h=>this.2 (by rw[h]),fun h=>this.1 (by rw[h];rfl)⟩
 have hD:D.Nodup:=List.nodup_iff_pairwise_ne.2 (T.once.imp fun{a b} h=>h.1)
 unfold Ek;rw[List.nodup_append,List.nodup_append];refine⟨hE,⟨hD,Nv hD,fun a ha b hb e=> ?_⟩,fun a ha b hb e=> ?_⟩
 ·subst e;rw[uI]at hb;rcases Av (R:=fun d e:S=>d≠swp e) (fun a b h e=>h (by rw[e];rfl)) (T.once.imp fun{a b} h=>h.2) _ ha _ hb with g|g
  ·exact(T.ends a ha).2.2 (congrArg S.a g)
  ·exact g rfl
 ·subst e;rcases List.mem_append.1 hb with hb|hb
  ·exact(off a ha a hb).1 rfl
  ·rw[uI]at hb;exact(off a ha _ hb).2 rfl
theorem tE{s:Shape}{D E:List S}(T:Tg s D)(hm:∀e:S,e∈E↔sJ (aE s) e.a e.b/\Lft (eI s) e.a e.b)(e:S):e∈Ek E D↔sides s D e.a e.b/\Lft (eI s) e.a e.b:=by
 unfold Ek;rw[List.mem_append,List.mem_append,uI,hm];constructor
 ·rintro(⟨h1,h2⟩|h|h)
  ·exact⟨h1.imp (List.mem_append_left _) (List.mem_append_left _),h2⟩
  ·exact⟨.inl (List.mem_append_right _ h),(mH T h).1⟩
  ·exact⟨.inr (List.mem_append_right _ h),(mH T h).2⟩
 ·rintro⟨h1,h2⟩;rcases h1 with h|h<;>rcases List.mem_append.1 h with h|h
  ·exact .inl ⟨.inl h,h2⟩
  ·exact .inr (.inl h)
  ·exact .inl ⟨.inr h,h2⟩
  ·exact .inr (.inr h)
theorem Qw(f:S->Int)(E D:List S):((Ek E D).map f).sum=(E.map f).sum+(D.map fun d=>f d+f (swp d)).sum:=by
 unfold Ek;rw[List.map_append,List.map_append,List.sum_append,List.sum_append,List.map_map,Aa];rfl
theorem Ao{α:Type}{f:α->Int}:∀{l:List α},(∀x∈l,f x=0)->(l.map f).sum=0
 |[],_=>rfl
 |x::l,h=>by rw[List.map_cons,List.sum_cons,h x List.mem_cons_self,Ao fun y hy=>h y (List.mem_cons_of_mem _ hy)];rfl
theorem Hw{α:Type}{f:α->Int}:∀{l:List α},(∀x∈l,0<=f x)->0<=(l.map f).sum
 |[],_=>Int.le_refl _
 |x::l,h=>by
  have:=h x List.mem_cons_self;have:=Hw fun y hy=>h y (List.mem_cons_of_mem _ hy)
  rw[List.map_cons,List.sum_cons];omega
theorem aBJ(a b c:V):cross a b+cross b c+cross c a=ev (lin a b) (pt c):=by unfold cross ev lin pt;grind
theorem VR.alone{r:aD}(h:VR r):VS ⟨r,[]⟩:=by
 refine⟨Nat.zero_le _,h,fun i hi=>absurd hi (Nat.not_lt_zero i),?_,fun i hi=>absurd hi (Nat.not_lt_zero i),fun i hi=>absurd hi (Nat.not_lt_zero i),fun i k _ hi=>absurd hi (Nat.not_lt_zero i),fun i k _ hi=>absurd hi (Nat.not_lt_zero i),fun i k _ hi=>absurd hi (Nat.not_lt_zero i)⟩
 have:=h.most;unfold dO aJ;simp only[List.map_cons,List.map_nil,List.sum_cons,List.sum_nil];omega
theorem VR.left{r:aD}(h:VR r){e:S}(he:e∈edges r):Lft (eK r) e.a e.b:=by
 have h3:=h.three;obtain⟨_,i,hi,rfl⟩:=mem_edges.1 he;rw[h.Hq i hi];refine Classical.byContradiction fun hn=> ?_
 have hv:=h.alone;have hvs:aR ⟨r,[]⟩=r:=by unfold aR aJ;simp
 have hes:aE ⟨r,[]⟩=edges r:=by unfold aE aJ;simp
 have T:=Yc hv (v:=r) (fun x=>by rw[hvs]) h.nodup
 have H:=T.filled;have hi':eI ⟨r,[]⟩=eK r:=by funext p;unfold eI;simp
 obtain⟨TL,A⟩:=aBX H.net (eI ⟨r,[]⟩) hv.nodup;have no:∀e∈edges r,¬Lft (eK r) e.a e.b:=fun e he=>by
  obtain⟨_,i,hi,rfl⟩:=mem_edges.1 he;rw[h.Hq i hi];exact hn
 have hm:∀e:S,e∈(edges r).map swp↔sJ (aE ⟨r,[]⟩) e.a e.b/\Lft (eI ⟨r,[]⟩) e.a e.b:=fun e=>by
  rw[uI,hi',hes];constructor
  ·intro g;refine⟨.inr g,Classical.byContradiction fun hx=>no _ g ?_⟩
   exact(h.flip (a:=e.b) (b:=e.a) g).2 hx
  ·rintro⟨g|g,g2⟩
   ·exact absurd g2 (no e g)
   ·exact g
 have nd:=oB T (Nv h.rW) fun e he=> .inr (by rw[hes];exact uI.1 he)
 have S1:=A.sum H nd (tE T hm) (fun e=>cross e.a e.b)
 rw[Qw,Ao (f:=fun d:S=>cross d.a d.b+cross (swp d).a (swp d).b) fun d _=>by unfold cross swp;grind,List.map_map]at S1
 have e1:((edges r).map ((fun e:S=>cross e.a e.b)∘swp)).sum= -Geo.area r:=by
  rw[qX (by omega)]
  have:((edges r).map fun e=>cross e.a e.b+((fun e:S=>cross e.a e.b)∘swp) e).sum=0:=Ao fun d _=>by simp only[Function.comp,cross,swp];grind
  rw[Aa]at this;omega
 have S2:0<=(TL.map fun t=>cross t.a t.b+cross t.b t.c+cross t.c t.a).sum:=Hw fun t ht=>by
  rw[aBJ];have:=(A.tri t ht).left;omega
 have:=h.area;dsimp only at S1;omega
theorem VR.right{r:aD}(h:VR r){e:S}(he:e∈edges r):¬Lft (eK r) e.b e.a:=(h.flip he).1 (h.left he)
end Go.Proofs.YtdaeofhdgabhjaaGreat.Geo
namespace Go.Proofs.YtdaeofhdgabhjaaGreat.Geo
theorem Qn{r:aD}(hr:VR r){v:V}(hw:aO v 2000=true)(h:bR r v≠1):bR r v=if eK r (pt v)then 2 else 0:=by
 have h4:=dQ hw (show(2000:Int)<=4000 by omega)
 have hp:cL (kT v)=true:=by rw[nL];exact h4
 unfold bR at h|-;rw[h4]at h|-;simp only[Bool.not_true,Bool.false_eq_true,if_false]at h|-;rw[xN hr hp fun e he=> ?_]
 ·rfl
 refine Bool.eq_false_iff.2 fun ho=>h ?_
 unfold bH;rw[(cS _).2 hr,hp];exact Ac ⟨e,he,ho⟩
theorem aJl{r:aD}(hr:VR r){v:V}(hw:aO v 2000=true)(h:bR r v=2):eK r (pt v)=true:=by
 have:=Qn hr hw (by omega)
 rw[h]at this;cases hp:eK r (pt v)with
 |true=>rfl
 |false=>rw[hp]at this;simp at this
theorem aFQ{r:aD}(hr:VR r){v:V}(hw:aO v 2000=true)(h:bR r v=0):eK r (pt v)=false:=by
 have:=Qn hr hw (by omega)
 rw[h]at this;cases hp:eK r (pt v)with
 |false=>rfl
 |true=>rw[hp]at this;simp at this
section
variable {s:Shape} {D:List S}
theorem xS{r:aD}(hr:r∈aJ s){v:V}(hv:v∈r):v∈aR s:=List.mem_flatten.2 ⟨r,hr,hv⟩
theorem kH{r:aD}(hr:r∈aJ s){e:S}(he:e∈edges r):sides s D e.a e.b:= .inl (List.mem_append_left _ (List.mem_flatMap.2 ⟨r,hr,he⟩))
theorem uP(T:Tg s D){r q:aD}(hr:r∈aJ s)(hq:q∈aJ s)(hrq:r≠q){v:V}(hv:v∈r){e:S}(he:e∈edges q):v≠e.a/\v≠e.b:=by
 obtain⟨h1,h2⟩:=dU he;have:=lM (aJ s) T.vs.nodup r hr q hq;exact⟨fun g=>hrq (this v hv (by rw[g];exact h1)),fun g=>hrq (this v hv (by rw[g];exact h2))⟩
theorem Cn(T:Tg s D){r q:aD}(hr:r∈aJ s)(hq:q∈aJ s)(hrq:r≠q){a b:V}(ha:a∈r)(hab:sides s D a b):∃N0:Int,∀n,N0<=n->∀p,In (thin a b n) p->eK q p=eK q (pt a):=by
 have N:=T.segs.net;obtain⟨N0,_,h2⟩:=N.thin hab;refine⟨N0,fun n hn p hp=>(sV (by have:=(T.vs.ring hq).three;omega) (show(0:Int)<1 by omega) hp.1 fun e he hm=> ?_).symm⟩
 obtain⟨x,y,k,t,hx,hy,hxy,hk,ht,g⟩:=hm;have hs:sides s D e.a e.b:=kH hq he;rcases Int.lt_or_le 0 t with ht'|ht'
 ·obtain⟨f,hf,hle⟩:=h2 n hn e.a e.b hs x y hx hy hxy;dsimp only at hle;have e1:x*ev f (pt e.a)+y*ev f (pt e.b)=k*ev f (pt a)+t*ev f p:=by rw[<-aK,g,aK]
  have p1:=Int.mul_pos ht' (hp.2 f hf);have p2:0<=ev f (pt a):=by
   have hL:=fO (N.ne hab);unfold thin at hf;simp only[List.mem_cons,List.not_mem_nil,or_false]at hf;rcases hf with rfl|rfl|rfl
   ·rw[bG];omega
   ·rw[jF,bG,iY];omega
   ·rw[mF,bG,oL,xZ];omega
  have:=mpp hk p2;omega
 ·have:t=0:=by omega
  subst this;have hd:=congrArg P3.d g;simp only[cmb,pt]at hd;have hov:=uP T hr hq hrq ha he;rcases N.clear hs (xS hr ha) x y k hx hy (by rw[g];unfold cmb;simp) (by omega)with e1|e1
  ·exact hov.1 e1
  ·exact hov.2 e1
theorem Xy(T:Tg s D){r q:aD}(hr:r∈aJ s)(hq:q∈aJ s)(hrq:r≠q){e:S}(he:e∈edges r):eK q (pt e.a)=eK q (pt e.b):=by
 have N:=T.segs.net;refine sV (by have:=(T.vs.ring hq).three;omega) (show(0:Int)<1 by omega) (show(0:Int)<1 by omega) fun d hd hm=> ?_
 obtain⟨h1,h2⟩:=dU he;have o1:=uP T hr hq hrq h1 hd;have o2:=uP T hr hq hrq h2 hd;rcases N.off (kH hr he) (kH hq hd)with⟨_,g⟩|⟨g,_⟩|⟨g,_⟩
 ·rcases g with g|⟨g,_⟩|⟨g,_⟩|⟨g,_⟩|⟨g,_⟩
  ·exact g hm
  ·exact o1.1 g.symm
  ·exact o1.2 g.symm
  ·exact o2.1 g.symm
  ·exact o2.2 g.symm
 ·exact o1.1 g.symm
 ·exact o2.1 g.symm
theorem Tf(T:Tg s D){r q:aD}(hr:r∈aJ s)(hq:q∈aJ s)(hrq:r≠q):∀i,i<r.length->eK q (pt (nth r i))=eK q (pt (nth r 0))
 |0,_=>rfl
 |i+1,hi=>by
  have:=Xy T hr hq hrq (e:=cP r i) (rM (T.vs.ring hr) (by omega))
  rw[show(cP r i).b=nth r (i+1) by show nth r ((i+1) % r.length)=_;rw[Nat.mod_eq_of_lt hi],show(cP r i).a=nth r i from rfl]at this
  rw[<-this];exact Tf T hr hq hrq i (by omega)
theorem aAk(T:Tg s D){r:aD}(hr:r∈s.holes){v:V}(hv:v∈r):bR s.outer v=2:=by
 obtain⟨i,hi,rfl⟩:=nI hr;have:=T.vs.ins i hi;unfold cX at this;rw[List.all_eq_true]at this;simpa using this v hv
theorem Fb(T:Tg s D){r:aD}(hr:r∈s.holes):r≠s.outer:=by
 intro e;have h:=T.vs;have hv:nth r 0∈r:=fL.2 ⟨0,by have:=(h.ring (List.mem_cons_of_mem _ hr)).three;omega,rfl⟩
 obtain⟨i,hi,rfl⟩:=nI hr;have ap:=h.apo i hi;rw[e]at ap hv;exact lN h.outer ap hv (rM h.outer (i:=0) (by have:=h.outer.three;omega)) (by rw[<-e];exact hZ (dS (h.hole i hi).near 0 (by have:=(h.hole i hi).three;omega)))
theorem aBh(T:Tg s D){q:aD}(hq:q∈s.holes){v:V}(hv:v∈s.outer):eK q (pt v)=false:=by
 have h:=T.vs;have N:=T.segs.net;have hq':q∈aJ s:=List.mem_cons_of_mem _ hq;have ho':s.outer∈aJ s:=List.mem_cons_self;have hne:=(Fb T hq).symm;have h3:=h.outer.three;have all:=Tf T ho' hq' hne;have li:=fZ (r:=s.outer) (by omega)
 have low:eK q (pt (nth s.outer (cH s.outer)))=false:=by
  have hv0:nth s.outer (cH s.outer)∈s.outer:=fK li;have least:∀a∈s.outer,(nth s.outer (cH s.outer)).y<=a.y:=fun a ha=>by
   obtain⟨i,hi,rfl⟩:=fL.1 ha;have:=mO s.outer s.outer.length i hi;unfold leV at this;unfold cH;omega
  have below:∀u∈q,(nth s.outer (cH s.outer)).y<=u.y:=fun u hu=>by
   obtain⟨_,_,⟨a,ha,hay⟩,_⟩:=Wx (by omega) (aAk T hq hu)
   have:=least a ha;omega
  have fr:=Gw h.outer _ hv0;generalize nth s.outer (cH s.outer)=v0 at*;rw[sV (q:=⟨v0.x,v0.y-5000,1⟩) (by have:=(h.ring hq').three;omega) (show(0:Int)<1 by omega) (show(0:Int)<1 by omega) fun e he hm=> ?_]
  ·exact Zq (by have:=(h.ring hq').three;omega) (Gw (h.ring hq')) (show(0:Int)<1 by omega) (.inr (.inr (.inr (by show v0.y-5000< -(2000*1);omega))))
  ·obtain⟨x,y,k,t,hx,hy,hxy,hk,ht,g⟩:=hm;obtain⟨e1,e2⟩:=dU he;have b1:=Int.mul_le_mul_of_nonneg_left (below _ e1) hx;have b2:=Int.mul_le_mul_of_nonneg_left (below _ e2) hy;have hov:=uP T ho' hq' hne hv0 he;have gy:=congrArg P3.y g;have gd:=congrArg P3.d g;simp only[cmb,pt]at gy gd;have t0:t=0:=by
    have m1:x*v0.y+y*v0.y=k*v0.y+t*v0.y:=by rw[<-Int.add_mul,<-Int.add_mul];congr 1;omega
    have m2:t*(v0.y-5000)=t*v0.y-t*5000:=Int.mul_sub _ _ _;omega
   subst t0;rcases N.clear (kH hq' he) (xS ho' hv0) x y k hx hy (by rw[g];unfold cmb;simp) (by omega)with e1|e1
   ·exact hov.1 e1
   ·exact hov.2 e1
 obtain⟨i,hi,rfl⟩:=fL.1 hv;rw[all i hi,<-all _ li,low]
theorem aDR(T:Tg s D){r q:aD}(hr:r∈s.holes)(hq:q∈s.holes)(hrq:r≠q){v:V}(hv:v∈r):eK q (pt v)=false:=by
 have h:=T.vs;have hw:aO v 2000=true:=dZ h (xS (List.mem_cons_of_mem _ hr) hv);refine aFQ (h.ring (List.mem_cons_of_mem _ hq)) hw ?_;obtain⟨i,hi,rfl⟩:=nI hr;obtain⟨k,hk,rfl⟩:=nI hq;have key:cX (aA s.holes i) (aA s.holes k) 0=true:=by
  rcases Nat.lt_trichotomy i k with g|g|g
  ·exact h.out2 k i g hk
  ·exact absurd (by rw[g]) hrq
  ·exact h.out1 i k g hi
 unfold cX at key;rw[List.all_eq_true]at key;simpa using key v hv
theorem Vw{α:Type}{P:α->Int->Prop}:∀{l:List α},(∀x∈l,∃N0:Int,∀n,N0<=n->P x n)->∃N0:Int,∀n,N0<=n->∀x∈l,P x n
 |[],_=>⟨0,fun _ _ _ hx=>by cases hx⟩
 |x::l,h=>by
  obtain⟨n1,h1⟩:=h x List.mem_cons_self;obtain⟨n2,h2⟩:=Vw fun y hy=>h y (List.mem_cons_of_mem _ hy)
  refine⟨max n1 n2,fun n hn y hy=> ?_⟩
  rcases List.mem_cons.1 hy with rfl|hy
  ·exact h1 n (by omega)
  ·exact h2 n (by omega) y hy
theorem Ik(T:Tg s D){a b:V}(ha:a∈s.outer)(hab:sides s D a b):∃N0:Int,∀n,N0<=n->∀p,In (thin a b n) p->eI s p=eK s.outer p:=by
 obtain⟨N0,h0⟩:=Vw (l:=s.holes) (P:=fun q n=>∀p,In (thin a b n) p->eK q p=eK q (pt a)) fun q hq=>Cn T List.mem_cons_self (List.mem_cons_of_mem _ hq) (Fb T hq).symm ha hab
 refine⟨N0,fun n hn p hp=> ?_⟩
 unfold eI;have:(s.holes.all fun h=> !(eK h p))=true:=by
  rw[List.all_eq_true];intro q hq;rw[h0 n hn q hq p hp,aBh T hq ha];rfl
 rw[this,Bool.and_true]
theorem Mb(T:Tg s D){r:aD}(hr:r∈s.holes){a b:V}(ha:a∈r)(hab:sides s D a b):∃N0:Int,∀n,N0<=n->∀p,In (thin a b n) p->eI s p= !(eK r p):=by
 have hr':r∈aJ s:=List.mem_cons_of_mem _ hr;obtain⟨N1,h1⟩:=Cn T hr' List.mem_cons_self (Fb T hr) ha hab;obtain⟨N0,h0⟩:=Vw (l:=s.holes) (P:=fun q n=>r≠q->∀p,In (thin a b n) p->eK q p=eK q (pt a)) fun q hq=>by
  by_cases g:r=q
  ·exact⟨0,fun n _ hn=>absurd g hn⟩
  ·obtain⟨m,hm⟩:=Cn T hr' (List.mem_cons_of_mem _ hq) g ha hab;exact⟨m,fun n hn _=>hm n hn⟩
 refine⟨max N0 N1,fun n hn p hp=> ?_⟩
 unfold eI;rw[h1 n (by omega) p hp,aJl T.vs.outer (dZ T.vs (xS hr' ha)) (aAk T hr ha),Bool.true_and,Bool.eq_iff_iff,List.all_eq_true]
 refine⟨fun g=>g r hr,fun g q hq=> ?_⟩
 by_cases e:r=q
 ·rw[<-e];exact g
 ·rw[h0 n (by omega) q hq e p hp,aDR T hr hq e ha];rfl
theorem xY{ins ins':P3->Bool}{a b:V}(h:∃N0:Int,∀n,N0<=n->∀p,In (thin a b n) p->ins p=ins' p):Lft ins a b↔Lft ins' a b:=by
 obtain⟨N0,h⟩:=h;constructor<;>rintro⟨m,g⟩
 ·exact⟨max N0 m,fun n hn p hp=>by rw[<-h n (by omega) p hp];exact g n (by omega) p hp⟩
 ·exact⟨max N0 m,fun n hn p hp=>by rw[h n (by omega) p hp];exact g n (by omega) p hp⟩
theorem Zw{W:List V}{side:V->V->Prop}{ins:P3->Bool}(H:Calm W side ins){a b:V}(hab:side a b):Lft (fun p=> !ins p) a b↔¬Lft ins a b:=by
 constructor
 ·intro h g;exact g.not (H.net.ne hab) h
 ·intro h;rcases aJk H hab with g|g
  ·exact absurd g h
  ·exact g
theorem mN(T:Tg s D){e:S}(he:e∈edges s.outer):Lft (eI s) e.a e.b/\¬Lft (eI s) e.b e.a:=by
 obtain⟨h1,h2⟩:=dU he;have hs:sides s D e.a e.b:=kH List.mem_cons_self he;rw[xY (Ik T h1 hs),xY (Ik T h2 hs.symm)];exact⟨T.vs.outer.left he,T.vs.outer.right he⟩
theorem nZ(T:Tg s D){r:aD}(hr:r∈s.holes){e:S}(he:e∈edges r):Lft (eI s) e.b e.a/\¬Lft (eI s) e.a e.b:=by
 obtain⟨h1,h2⟩:=dU he;have hs:sides s D e.a e.b:=kH (List.mem_cons_of_mem _ hr) he;have hv:=T.vs.ring (List.mem_cons_of_mem _ hr);have C:=hv.calm;rw[xY (Mb T hr h2 hs.symm),xY (Mb T hr h1 hs),Zw C (.inl he),Zw C (.inr he)];exact⟨hv.right he,fun g=>g (hv.left he)⟩
def zS(s:Shape):List S:=edges s.outer++(s.holes.flatMap edges).map swp
theorem tW(s:Shape):aE s=edges s.outer++s.holes.flatMap edges:=by unfold aE aJ;rw[List.flatMap_cons]
theorem mG(T:Tg s D)(e:S):e∈zS s↔sJ (aE s) e.a e.b/\Lft (eI s) e.a e.b:=by
 unfold zS sJ;rw[List.mem_append,uI,tW,List.mem_append,List.mem_append,List.mem_flatMap,List.mem_flatMap,List.mem_flatMap];constructor
 ·rintro(h|⟨r,hr,h⟩)
  ·exact⟨.inl (.inl h),(mN T h).1⟩
  ·exact⟨.inr (.inr ⟨r,hr,h⟩),(nZ T hr h).1⟩
 ·rintro⟨(h|⟨r,hr,h⟩)|(h|⟨r,hr,h⟩),g⟩
  ·exact .inl h
  ·exact absurd g (nZ T hr h).2
  ·exact absurd g (mN T h).2
  ·exact .inr ⟨r,hr,h⟩
theorem VS.rW(h:VS s):(aE s).Nodup:=by
 have hn:=h.nodup;have e:(aE s).map S.a=aR s:=by
  unfold aE aR;have key:∀l:List aD,(∀r∈l,VR r)->(l.flatMap edges).map S.a=l.flatten:=by
   intro l;induction l with
   |nil=>intro _;rfl
   |cons r l ih=>
    intro hl;rw[List.flatMap_cons,List.map_append,List.flatten_cons,ih fun q hq=>hl q (List.mem_cons_of_mem _ hq),Gu (by have:=(hl r List.mem_cons_self).three;omega)]
  exact key _ fun r hr=>h.ring hr
 rw[List.nodup_iff_pairwise_ne,<-e,List.pairwise_map]at hn;exact List.nodup_iff_pairwise_ne.2 (hn.imp fun{a b} h g=>h (by rw[g]))
theorem qV(T:Tg s D):(zS s).Nodup:=by
 have hn:=T.vs.rW;rw[tW,List.nodup_append]at hn;unfold zS;rw[List.nodup_append];refine⟨hn.1,Nv hn.2.1,fun a ha b hb e=> ?_⟩
 subst e;rw[uI,List.mem_flatMap]at hb;obtain⟨r,hr,hb⟩:=hb;have e1:=(dU ha).1;have e2:=(dU hb).2;exact Fb T hr (lM (aJ s) T.vs.nodup r (List.mem_cons_of_mem _ hr) s.outer List.mem_cons_self _ e2 e1)
theorem Yu(T:Tg s D){TL:List T3}(A:All3 (aR s) (sides s D) (eI s) TL)(f:S->Int):
  (TL.map fun t=>f ⟨t.a,t.b⟩+f ⟨t.b,t.c⟩+f ⟨t.c,t.a⟩).sum=((zS s).map f).sum+(D.map fun d=>f d+f (swp d)).sum:=by
 rw[A.sum T.filled (oB T (qV T) fun e he=>((mG T e).1 he).1) (tE T (mG T)) f,Qw]
end
end Go.Proofs.YtdaeofhdgabhjaaGreat.Geo
namespace Go.Proofs.YtdaeofhdgabhjaaGreat.Geo
def Up(x:V):Prop:=0<x.y\/(x.y=0/\0<x.x)
def Dn(x:V):Prop:=x.y<0\/(x.y=0/\x.x<0)
instance(x:V):Decidable (Up x):=by unfold Up;infer_instance
instance(x:V):Decidable (Dn x):=by unfold Dn;infer_instance
def neg(x:V):V:=⟨-x.x,-x.y⟩
theorem yT(x:V):Up (neg x)↔Dn x:=by unfold Up Dn neg;dsimp only;omega
theorem vS(x:V):Dn (neg x)↔Up x:=by unfold Up Dn neg;dsimp only;omega
theorem Up.not{x:V}(h:Up x):¬Dn x:=by unfold Up Dn at*;omega
theorem aCd(x:V):Up x\/Dn x\/x=⟨0,0⟩:=by
 unfold Up Dn;rcases Int.lt_trichotomy x.y 0 with h|h|h
 ·exact .inr (.inl (.inl h))
 ·rcases Int.lt_trichotomy x.x 0 with g|g|g
  ·exact .inr (.inl (.inr ⟨h,g⟩))
  ·exact .inr (.inr (by cases x;simp only at h g;rw[h,g]))
  ·exact .inl (.inr ⟨h,g⟩)
 ·exact .inl (.inl h)
theorem Fg{y z:V}{α β:Int}(hy:Dn y)(hz:Dn z)(ha:0<=α)(hb:0<β):Dn ⟨α*y.x+β*z.x,α*y.y+β*z.y⟩:=by
 unfold Dn at*;dsimp only;have py:y.y<=0:=by omega
 have pz:z.y<=0:=by omega
 have m1:α*y.y<=0:=Int.mul_nonpos_of_nonneg_of_nonpos ha py;have m2:β*z.y<=0:=Int.mul_nonpos_of_nonneg_of_nonpos (by omega) pz
 by_cases g:α*y.y+β*z.y<0
 ·exact .inl g
 ·have e1:α*y.y=0:=by omega
  have e2:β*z.y=0:=by omega
  have z0:z.y=0:=by rcases Int.mul_eq_zero.1 e2 with h|h<;>omega
  have m3:β*z.x<0:=Int.mul_neg_of_pos_of_neg hb (by omega)
  have m4:α*y.x<=0:=by
   rcases Int.mul_eq_zero.1 e1 with h|h
   ·rw[h,Int.zero_mul];omega
   ·exact Int.mul_nonpos_of_nonneg_of_nonpos ha (by omega)
  exact .inr ⟨by omega,by omega⟩
theorem aCX{x:V}{k:Int}(hk:0<k)(h:Dn ⟨k*x.x,k*x.y⟩):Dn x:=by
 unfold Dn at*;dsimp only at h;rcases h with h|⟨h1,h2⟩
 ·refine .inl (Int.not_le.1 fun g=> ?_)
  have:=Int.mul_nonneg (show 0<=k by omega) g;omega
 ·refine .inr ⟨by rcases Int.mul_eq_zero.1 h1 with h|h<;>omega,Int.not_le.1 fun g=> ?_⟩
  have:=Int.mul_nonneg (show 0<=k by omega) g;omega
def lf(p q:Int)(x:V):Int:=p*x.x+q*x.y
theorem Oa{x y z:V}{p q:Int}(hx:0<lf p q x)(hy:0<lf p q y)(hz:0<lf p q z)(ux:Up x)(dy:Dn y)(dz:Dn z)(h:0<cross x y):0<cross x z:=by
 refine Int.not_le.1 fun g=> ?_
 have e:cross z y*lf p q x= -(cross x z)*lf p q y+cross x y*lf p q z:=by unfold cross lf;grind
 have p1:=Int.mul_nonneg (show 0<= -(cross x z) by omega) (show 0<=lf p q y by omega)
 have p2:=Int.mul_pos h hz;have k:0<cross z y:=Int.not_le.1 fun g'=>by
  have:=Int.mul_nonpos_of_nonpos_of_nonneg g' (show 0<=lf p q x by omega);omega
 refine ux.not (aCX k ?_);have ex:cross z y*x.x= -(cross x z)*y.x+cross x y*z.x:=by unfold cross;grind
 have ey:cross z y*x.y= -(cross x z)*y.y+cross x y*z.y:=by unfold cross;grind
 rw[ex,ey];exact Fg dy dz (by omega) h
theorem Cy(x y:V):cross (neg x) (neg y)=cross x y:=by unfold cross neg;grind
theorem Vr(p q:Int)(x:V):lf (-p) (-q) (neg x)=lf p q x:=by unfold lf neg;grind
theorem Ze{x y z:V}{p q:Int}(hx:0<lf p q x)(hy:0<lf p q y)(hz:0<lf p q z)(ux:Dn x)(dy:Up y)(dz:Up z)(h:0<cross x y):0<cross x z:=by
 rw[<-Cy]at h|-;exact Oa (p:= -p) (q:= -q) (by rw[Vr];exact hx) (by rw[Vr];exact hy) (by rw[Vr];exact hz) ((yT x).2 ux) ((vS y).2 dy) ((vS z).2 dz) h
theorem oC(x y:V):cross y x= -cross x y:=by unfold cross;grind
theorem Bb{x y:V}{p q:Int}(hx:0<lf p q x)(hy:0<lf p q y)(ux:Up x)(dy:Dn y):cross x y≠0:=fun h=>by
 have e1:lf p q y*x.x=lf p q x*y.x:=by unfold cross lf at*;grind
 have e2:lf p q y*x.y=lf p q x*y.y:=by unfold cross lf at*;grind
 refine ux.not (aCX hy ?_);rw[e1,e2];have:=Fg dy dy (Int.le_refl 0) hx;rw[Int.zero_mul,Int.zero_add,Int.zero_mul,Int.zero_add]at this;exact this
def cr(x y:V):Int:=if Up x↔Up y then 0 else sgn (cross x y)
theorem nF{x y:V}(h:Up x↔Up y):cr x y=0:=if_pos h
theorem mJ{x y:V}(h:¬(Up x↔Up y)):cr x y=sgn (cross x y):=if_neg h
theorem Aq(n:Int):sgn (-n)= -sgn n:=by unfold sgn;grind
theorem aCE{m n:Int}(hm:m≠0)(hn:n≠0)(h:0<m↔0<n):sgn m=sgn n:=by unfold sgn;grind
theorem Ov{x y z:V}{p q:Int}(hx:0<lf p q x)(hy:0<lf p q y)(hz:0<lf p q z):cr x y+cr y z=cr x z:=by
 have k:∀{x:V},0<lf p q x->¬Up x->Dn x:=fun{x} h g=>by
  rcases aCd x with e|e|e
  ·exact absurd e g
  ·exact e
  ·rw[e]at h;unfold lf at h;simp at h
 have pair:∀{x y z:V},0<lf p q x->0<lf p q y->0<lf p q z->¬(Up x↔Up y)->(Up y↔Up z)->sgn (cross x y)=sgn (cross x z):=by
  intro x y z hx hy hz h1 h2;by_cases ux:Up x
  ·have dy:Dn y:=k hy fun g=>h1 ⟨fun _=>g,fun _=>ux⟩
   have dz:Dn z:=k hz fun g=>(h2.2 g).not dy
   exact aCE (Bb hx hy ux dy) (Bb hx hz ux dz) ⟨Oa hx hy hz ux dy dz,Oa hx hz hy ux dz dy⟩
  ·have dx:=k hx ux;have uy:Up y:=Classical.byContradiction fun g=>h1 ⟨fun h=>absurd h ux,fun h=>absurd h g⟩
   have uz:=h2.1 uy;refine aCE (fun g=>Bb hy hx uy dx (by rw[oC];omega)) (fun g=>Bb hz hx uz dx (by rw[oC];omega)) ⟨Ze hx hy hz dx uy uz,Ze hx hz hy dx uz uy⟩
 by_cases h1:Up x↔Up y
 ·rw[nF h1,Int.zero_add];by_cases h2:Up y↔Up z
  ·rw[nF h2,nF (h1.trans h2)]
  ·rw[mJ h2,mJ (fun g=>h2 (h1.symm.trans g)),oC z y,oC z x,Aq,Aq,pair hz hy hx (fun g=>h2 g.symm) h1.symm]
 ·by_cases h2:Up y↔Up z
  ·rw[nF h2,Int.add_zero,mJ h1,mJ (fun g=>h1 (g.trans h2.symm)),pair hx hy hz h1 h2]
  ·have h3:Up x↔Up z:=by
    by_cases a:Up x<;>by_cases b:Up y<;>by_cases c:Up z<;>simp_all
   rw[nF h3,mJ h1,mJ h2,oC y x,Aq,pair hy hx hz (fun g=>h1 g.symm) h3]
   omega
theorem Ef{p q:V}(h:cross p q≠0):cr p q=cr p ⟨p.x+q.x,p.y+q.y⟩+cr ⟨p.x+q.x,p.y+q.y⟩ q:=by
 have e1:lf (sgn (cross p q)*(q.y-p.y)) (sgn (cross p q)*(p.x-q.x)) p=sgn (cross p q)*cross p q:=by unfold lf cross;grind
 have e2:lf (sgn (cross p q)*(q.y-p.y)) (sgn (cross p q)*(p.x-q.x)) q=sgn (cross p q)*cross p q:=by unfold lf cross;grind
 have e3:lf (sgn (cross p q)*(q.y-p.y)) (sgn (cross p q)*(p.x-q.x)) ⟨p.x+q.x,p.y+q.y⟩=2*(sgn (cross p q)*cross p q):=by unfold lf cross;grind
 have k:0<sgn (cross p q)*cross p q:=by
  rcases Int.lt_or_gt_of_ne h with g|g
  ·rw[show sgn (cross p q)= -1 by unfold sgn;rw[if_neg (by omega),if_pos g]];omega
  ·rw[show sgn (cross p q)=1 by unfold sgn;rw[if_pos g]];omega
 exact(Ov (by rw[e1];exact k) (by rw[e3];omega) (by rw[e2];exact k)).symm
def iO(f:Nat->Int):Nat->Int
 |0=>0
 |k+1=>iO f k+f k
theorem Ci{f:Nat->Int}:∀k,(∀i,i<k->f i=0)->iO f k=0
 |0,_=>rfl
 |k+1,h=>by unfold iO;rw[Ci k fun i hi=>h i (by omega),h k (by omega)];rfl
theorem uL(f:Nat->Int):∀k,iO f (k+1)=f 0+iO (fun i=>f (i+1)) k
 |0=>by simp[iO]
 |k+1=>by
  rw[iO,uL f k];show f 0+iO (fun i=>f (i+1)) k+f (k+1)=f 0+(iO (fun i=>f (i+1)) k+f (k+1))
  omega
structure Curve(v:Nat->V)(m:Nat):Prop where
 close:v (m+3)=v 0
 least:∀i,0<i->i<m+3->Up (sub (v i) (v 0))
 turn:∀i,i+1<m+3->cross (sub (v (i+1)) (v i)) (sub (v (i+2)) (v (i+1)))≠0
 turn0:cross (sub (v (m+3)) (v (m+2))) (sub (v 1) (v 0))≠0
 apart:∀i j,i+1<j->j<m+3->¬(i=0/\j=m+2)->∃f:P3,ev f (pt (v i))<0/\ev f (pt (v (i+1)))<0/\0<ev f (pt (v j))/\0<ev f (pt (v (j+1)))
section
variable {v:Nat->V} {m:Nat}
theorem Bx(f:P3)(a b:V):lf f.x f.y (sub a b)=ev f (pt a)-ev f (pt b):=by unfold lf sub ev pt;grind
theorem sub_neg(a b:V):neg (sub a b)=sub b a:=by unfold neg sub;simp only[V.mk.injEq];omega
theorem Curve.cell(C:Curve v m){i j:Nat}(h1:i+1<j)(h2:j<m+3)(h3:¬(i=0/\j=m+2)):
  cr (sub (v j) (v i)) (sub (v (j+1)) (v i))+cr (sub (v (j+1)) (v i)) (sub (v (j+1)) (v (i+1)))=cr (sub (v j) (v i)) (sub (v j) (v (i+1)))+cr (sub (v j) (v (i+1))) (sub (v (j+1)) (v (i+1))):=by
 obtain⟨f,f1,f2,f3,f4⟩:=C.apart i j h1 h2 h3;rw[Ov (p:=f.x) (q:=f.y) (by rw[Bx];omega) (by rw[Bx];omega) (by rw[Bx];omega),Ov (p:=f.x) (q:=f.y) (by rw[Bx];omega) (by rw[Bx];omega) (by rw[Bx];omega)]
theorem Curve.col(C:Curve v m){b j:Nat}(hj:j<m+3)(h:b=0->j≠m+2):∀a,b+a<j->
  iO (fun i=>cr (sub (v j) (v (b+i))) (sub (v j) (v (b+i+1)))) a+cr (sub (v j) (v (b+a))) (sub (v (j+1)) (v (b+a)))=
  cr (sub (v j) (v b)) (sub (v (j+1)) (v b))+iO (fun i=>cr (sub (v (j+1)) (v (b+i))) (sub (v (j+1)) (v (b+i+1)))) a
 |0,_=>by simp[iO]
 |a+1,ha=>by
  have ih:=C.col hj h a (by omega)
  have c:=C.cell (i:=b+a) (j:=j) (by omega) hj (by omega)
  rw[iO,iO];show iO _ a+cr (sub (v j) (v (b+a))) (sub (v j) (v (b+a+1)))+cr (sub (v j) (v (b+a+1))) (sub (v (j+1)) (v (b+a+1)))=_+(iO _ a+cr (sub (v (j+1)) (v (b+a))) (sub (v (j+1)) (v (b+a+1))));omega
theorem Curve.diag(C:Curve v m){i:Nat}(hi:i+1<m+3):cr (sub (v (i+1)) (v i)) (sub (v (i+2)) (v (i+1)))=cr (sub (v (i+1)) (v i)) (sub (v (i+2)) (v i))+cr (sub (v (i+2)) (v i)) (sub (v (i+2)) (v (i+1))):=by
 rw[Ef (C.turn i hi)];have e:(⟨(sub (v (i+1)) (v i)).x+(sub (v (i+2)) (v (i+1))).x,(sub (v (i+1)) (v i)).y+(sub (v (i+2)) (v (i+1))).y⟩:V)=sub (v (i+2)) (v i):=by
  unfold sub;simp only[V.mk.injEq];omega
 rw[e]
theorem Curve.part(C:Curve v m):∀k,k<m+2->iO (fun i=>cr (sub (v (i+1)) (v i)) (sub (v (i+2)) (v (i+1)))) k=
  iO (fun j=>cr (sub (v (j+1)) (v 0)) (sub (v (j+2)) (v 0))) k+iO (fun i=>cr (sub (v (k+1)) (v i)) (sub (v (k+1)) (v (i+1)))) k
 |0,_=>by simp[iO]
 |k+1,hk=>by
  have ih:=C.part k (by omega)
  have d:=C.diag (i:=k) (by omega)
  have c:=C.col (b:=0) (j:=k+1) (by omega) (by omega) k (by omega)
  simp only[Nat.zero_add]at c;rw[iO,iO,iO];show _+_=_+cr (sub (v (k+1)) (v 0)) (sub (v (k+1+1)) (v 0))+(_+cr (sub (v (k+1+1)) (v k)) (sub (v (k+1+1)) (v (k+1))));have e2:k+1+1=k+2:=rfl;rw[e2]at c|-;omega
theorem Curve.total(C:Curve v m):iO (fun i=>cr (sub (v (i+1)) (v i)) (sub (v (i+2)) (v (i+1)))) (m+2)+cr (sub (v (m+3)) (v (m+2))) (sub (v 1) (v 0))=2*sgn (cross (sub (v (m+3)) (v (m+2))) (sub (v 1) (v 0))):=by
 have up:=C.least;have dn:∀i,0<i->i<m+3->¬Up (sub (v (m+3)) (v i)):=fun i h1 h2 g=>by
  rw[C.close,<-sub_neg,yT]at g;exact(up i h1 h2).not g
 have p:=C.part (m+1) (by omega)
 have z1:iO (fun j=>cr (sub (v (j+1)) (v 0)) (sub (v (j+2)) (v 0))) (m+1)=0:=Ci _ fun j hj=>nF ⟨fun _=>up _ (by omega) (by omega),fun _=>up _ (by omega) (by omega)⟩
 have c:=C.col (b:=1) (j:=m+2) (by omega) (by omega) m (by omega)
 have z2:iO (fun i=>cr (sub (v (m+2+1)) (v (1+i))) (sub (v (m+2+1)) (v (1+i+1)))) m=0:=Ci _ fun i hi=>nF ⟨fun g=>absurd g (dn _ (by omega) (by omega)),fun g=>absurd g (dn _ (by omega) (by omega))⟩
 have d:=C.diag (i:=m+1) (by omega)
 have z3:cr (sub (v (m+1+2)) (v (m+1))) (sub (v (m+1+2)) (v (m+1+1)))=0:=nF ⟨fun g=>absurd g (dn _ (by omega) (by omega)),fun g=>absurd g (dn _ (by omega) (by omega))⟩
 have f:=uL (fun i=>cr (sub (v (m+1+1)) (v i)) (sub (v (m+1+1)) (v (i+1)))) m
 have sh:iO (fun i=>cr (sub (v (m+2)) (v (1+i))) (sub (v (m+2)) (v (1+i+1)))) m=iO (fun i=>cr (sub (v (m+1+1)) (v (i+1))) (sub (v (m+1+1)) (v (i+1+1)))) m:=by
  congr 1;funext i;rw[show 1+i=i+1 by omega]
 have e0:cross (sub (v (m+2)) (v 0)) (sub (v (m+3)) (v 1))=cross (sub (v (m+3)) (v (m+2))) (sub (v 1) (v 0)):=by rw[C.close];unfold cross sub;grind
 have q:=Ef (p:=sub (v (m+2)) (v 0)) (q:=sub (v (m+3)) (v 1)) (by rw[e0];exact C.turn0)
 have eq:(⟨(sub (v (m+2)) (v 0)).x+(sub (v (m+3)) (v 1)).x,(sub (v (m+2)) (v 0)).y+(sub (v (m+3)) (v 1)).y⟩:V)=sub (v (m+2)) (v 1):=by
  rw[C.close];unfold sub;simp only[V.mk.injEq];omega
 rw[eq]at q;have k1:cr (sub (v (m+2)) (v 0)) (sub (v (m+3)) (v 1))=sgn (cross (sub (v (m+3)) (v (m+2))) (sub (v 1) (v 0))):=by
  rw[mJ (fun g=>dn 1 (by omega) (by omega) (g.1 (up _ (by omega) (by omega)))),e0]
 have k2:cr (sub (v (m+3)) (v (m+2))) (sub (v 1) (v 0))=sgn (cross (sub (v (m+3)) (v (m+2))) (sub (v 1) (v 0))):=
  mJ fun g=>dn (m+2) (by omega) (by omega) (g.2 (up _ (by omega) (by omega)))
 rw[k1]at q;rw[k2,iO,p,z1];rw[z2,sh]at c;rw[show 1+m=m+1 by omega]at c
 rw[f];rw[show m+1+2=m+3 by omega,show m+1+1=m+2 by omega]at*
 rw[show m+2+1=m+3 by omega]at c
 rw[Nat.zero_add];omega
end
end Go.Proofs.YtdaeofhdgabhjaaGreat.Geo
namespace Go.Proofs.YtdaeofhdgabhjaaGreat.Geo
def vv(r:aD)(i:Nat):V:=nth r (i % r.length)
theorem Yt{p q:V}(h:bX p q=true):Up (sub q p):=by
 unfold bX at h;unfold Up sub;simp only[Bool.or_eq_true,decide_eq_true_eq,Bool.and_eq_true,beq_iff_eq]at h;dsimp only;omega
theorem uK{a b c:V}(h:turn a b c≠0):cross (sub b a) (sub c b)≠0:=by
 unfold turn at h;rw[Ne,lF]at h;rwa[show cross (sub b a) (sub c b)=cross (sub b a) (sub c a) by unfold cross sub;grind]
theorem Wl{r:aD}(h:VR r)(h0:∀i,0<i->i<r.length->bX (nth r 0) (nth r i)=true){m:Nat}(hm:r.length=m+3):Curve (vv r) m:=by
 have small:∀i,i<m+3->vv r i=nth r i:=fun i hi=>by unfold vv;rw[hm,Nat.mod_eq_of_lt hi]
 have close:vv r (m+3)=vv r 0:=by unfold vv;rw[hm,Nat.mod_self,Nat.zero_mod]
 have mem:∀i,(⟨vv r i,vv r (i+1)⟩:S)∈edges r:=fun i=>by
  have:=rM h (i:=i % r.length) (Nat.mod_lt _ (by omega))
  unfold cP nxt at this;rw[Nat.mod_add_mod]at this;exact this
 have N:=h.calm.net;refine⟨close,fun i h1 h2=> ?_,fun i hi=> ?_,?_,fun i j h1 h2 h3=> ?_⟩
 ·rw[small i h2,small 0 (by omega)];exact Yt (h0 i h1 (by omega))
 ·have:=h.turn' i (by omega)
  have:=uK this;rw[small i (by omega)]
  exact this
 ·have:=uK (h.turn' (m+2) (by omega))
  rw[show vv r 1=nth r ((m+2+2) % r.length) by unfold vv;congr 1;rw[hm,show m+2+2=1+(m+3) by omega,Nat.add_mod_right],<-close,small (m+2) (by omega)]
  exact this
 ·have ne:∀a b,a<m+3->b<m+3->a≠b->vv r a≠vv r b:=fun a b ha hb hab e=>by
   rw[small a ha,small b hb]at e;exact hab (h.inj (by omega) (by omega) e)
  have ij:vv r i≠vv r j:=ne _ _ (by omega) (by omega) (by omega)
  have i1j:vv r (i+1)≠vv r j:=ne _ _ (by omega) (by omega) (by omega)
  have ij1:vv r i≠vv r (j+1):=by
   by_cases g:j=m+2
   ·rw[g,show m+2+1=m+3 by omega,close];exact ne _ _ (by omega) (by omega) (by omega)
   ·exact ne _ _ (by omega) (by omega) (by omega)
  have i1j1:vv r (i+1)≠vv r (j+1):=by
   by_cases g:j=m+2
   ·rw[g,show m+2+1=m+3 by omega,close];exact ne _ _ (by omega) (by omega) (by omega)
   ·exact ne _ _ (by omega) (by omega) (by omega)
  have mi:=mem i;have mj:=mem j;have hno:¬iF ⟨vv r j,vv r (j+1)⟩ (pt (vv r i)) (pt (vv r (i+1))):=by
   rcases N.off (.inl mi) (.inl mj)with⟨_,g⟩|⟨g,_⟩|⟨g,_⟩
   ·rcases g with g|⟨g,_⟩|⟨g,_⟩|⟨g,_⟩|⟨g,_⟩
    ·exact g
    ·exact absurd g.symm ij
    ·exact absurd g.symm ij1
    ·exact absurd g.symm i1j
    ·exact absurd g.symm i1j1
   ·exact absurd g.symm ij
   ·exact absurd g.symm i1j
  exact sep (show(0:Int)<1 by omega) (show(0:Int)<1 by omega) (N.ne (.inl mj)) hno
def tn(r:aD)(i:Nat):Int:=cr (sub (vv r (i+1)) (vv r i)) (sub (vv r (i+2)) (vv r (i+1)))
theorem Wk{r:aD}(h:VR r)(h0:∀i,0<i->i<r.length->bX (nth r 0) (nth r i)=true):iO (tn r) r.length=2*sgn (cross (sub (nth r 0) (nth r (r.length-1))) (sub (nth r 1) (nth r 0))):=by
 have h3:=h.three;obtain⟨m,hm⟩:∃m,r.length=m+3:=⟨r.length-3,by omega⟩
 have C:=Wl h h0 hm;have t:=C.total;have e1:vv r (m+3)=nth r 0:=by unfold vv;rw[hm,Nat.mod_self]
 have e2:vv r (m+2)=nth r (r.length-1):=by unfold vv;rw[hm,Nat.mod_eq_of_lt (by omega)];rfl
 have e3:vv r 1=nth r 1:=by unfold vv;rw[hm,Nat.mod_eq_of_lt (by omega)]
 have e4:vv r 0=nth r 0:=by unfold vv;rw[Nat.zero_mod]
 have e5:vv r (m+2+2)=nth r 1:=by unfold vv;congr 1;rw[hm,show m+2+2=1+(m+3) by omega,Nat.add_mod_right,Nat.mod_eq_of_lt (by omega)]
 rw[hm,iO];rw[hm]at e2;unfold tn at*;rw[e5,show m+2+1=m+3 by omega,e1,e2]
 rw[e1,e2,e3,e4]at t;exact t
end Go.Proofs.YtdaeofhdgabhjaaGreat.Geo
namespace Go.Proofs.YtdaeofhdgabhjaaGreat.Geo
def On(o:Bool)(v x:V):Prop:=if o=true then Up (sub x v)else Dn (sub x v)
theorem Ki{v x:V}(h:x≠v)(o:Bool):On o v x\/On (!o) v x:=by
 have:Up (sub x v)\/Dn (sub x v):=by
  rcases aCd (sub x v)with g|g|g
  ·exact .inl g
  ·exact .inr g
  ·exact absurd g (Vf h.symm)
 unfold On;cases o
 ·rcases this with g|g
  ·right;simpa using g
  ·left;simpa using g
 ·rcases this with g|g
  ·left;simpa using g
  ·right;simpa using g
theorem On.not{o:Bool}{v x:V}(h:On o v x):¬On (!o) v x:=by
 unfold On at*;cases o<;>simp at h|-
 ·exact fun g=>g.not h
 ·exact h.not
def tv(o:Bool)(v x:V):V:=if o=true then sub x v else neg (sub x v)
theorem zW(o:Bool)(v x:V):On o v x↔Up (tv o v x):=by
 unfold On tv;cases o
 ·simp[yT]
 ·simp
theorem Ba(o:Bool)(v x y:V):cross (tv o v x) (tv o v y)=ev (lin v x) (pt y):=by
 rw[gE];unfold tv;cases o
 ·simp[Cy]
 ·simp
theorem aIo{o:Bool}{v x:V}(h:On (!o) v x):Dn (tv o v x):=by
 unfold On at h;unfold tv;cases o
 ·simp at h;simp[vS,h]
 ·simp at h;simp[h]
theorem Ev{y z:V}{α β:Int}(hy:Up y)(hz:Up z)(ha:0<=α)(hb:0<β):Up ⟨α*y.x+β*z.x,α*y.y+β*z.y⟩:=by
 rw[<-vS];have:=Fg ((vS y).2 hy) ((vS z).2 hz) ha hb;unfold neg at this|-;dsimp only at this|-;rw[show-(α*y.x+β*z.x)=α* -y.x+β* -z.x by grind,show-(α*y.y+β*z.y)=α* -y.y+β* -z.y by grind]
 exact this
theorem My{x:V}{k:Int}(hx:Up x)(h:Up ⟨k*x.x,k*x.y⟩):0<k:=by
 refine Int.not_le.1 fun g=> ?_
 rcases Int.lt_or_le k 0 with g'|g'
 ·refine h.not ?_;have:=Fg ((vS x).2 hx) ((vS x).2 hx) (Int.le_refl 0) (show 0< -k by omega)
  rw[Int.zero_mul,Int.zero_add,Int.zero_mul,Int.zero_add]at this;unfold neg at this;dsimp only at this;rw[Int.neg_mul_neg,Int.neg_mul_neg]at this;exact this
 ·have:k=0:=by omega
  subst this;rw[Int.zero_mul,Int.zero_mul]at h;unfold Up at h;simp at h
theorem aAF{x y z:V}(_hx:Up x)(hy:Up y)(hz:Up z)(h1:0<cross x y)(h2:0<cross y z):0<cross x z:=by
 refine My hy ?_;have:=Ev hz _hx (show 0<=cross x y by omega) h2
 rw[show cross x z*y.x=cross x y*z.x+cross y z*x.x by unfold cross;grind,show cross x z*y.y=cross x y*z.y+cross y z*x.y by unfold cross;grind]
 exact this
theorem aIR{t u z:V}(ht:Dn t)(hu:Up u)(hz:Up z)(h1:0<cross t z)(h2:0<cross u z):0<cross t u:=by
 refine My hz ?_;have:=Ev hu ((yT t).2 ht) (show 0<=cross t z by omega) h2
 unfold neg at this;dsimp only at this;rw[show cross t u*z.x=cross t z*u.x+cross u z* -t.x by unfold cross;grind,show cross t u*z.y=cross t z*u.y+cross u z* -t.y by unfold cross;grind]
 exact this
theorem aFh{x u y:V}(hx:Up x)(hu:Up u)(hy:Dn y)(h1:0<cross x y)(h2:0<cross x u):0<cross u y:=by
 refine My hx ?_;have:=Ev hu ((yT y).2 hy) (show 0<=cross x y by omega) h2
 unfold neg at this;dsimp only at this;rw[show cross u y*x.x=cross x y*u.x+cross x u* -y.x by unfold cross;grind,show cross u y*x.y=cross x y*u.y+cross x u* -y.y by unfold cross;grind]
 exact this
theorem aFi{x y:V}(hx:Up x)(hy:Up y)(h:cross x y=0):0<x.x*y.x+x.y*y.y:=by
 have e1:(x.x*y.x+x.y*y.y)*x.x=(x.x*x.x+x.y*x.y)*y.x:=by unfold cross at h;grind
 have e2:(x.x*y.x+x.y*y.y)*x.y=(x.x*x.x+x.y*x.y)*y.y:=by unfold cross at h;grind
 refine My hx ?_;rw[e1,e2];have k:0<x.x*x.x+x.y*x.y:=by
  have:=xP x.x;have:=xP x.y;unfold Up at hx;rcases hx with g|⟨_,g⟩
  ·have:=Na (show x.y≠0 by omega);omega
  ·have:=Na (show x.x≠0 by omega);omega
 have:=Ev hy hy (Int.le_refl 0) k;rw[Int.zero_mul,Int.zero_add,Int.zero_mul,Int.zero_add]at this;exact this
theorem Vb{α:Type}{R:α->α->Prop}:∀{l:List α},l≠[]->(∀x∈l,∀y∈l,x=y\/R x y\/R y x)->(∀x∈l,∀y∈l,∀z∈l,R x y->R y z->R x z)->∃m∈l,∀y∈l,y=m\/R y m
 |[],h,_,_=>absurd rfl h
 |[x],_,_,_=>⟨x,List.mem_cons_self,fun y hy=> .inl (List.mem_singleton.1 hy)⟩
 |x::y::l,_,ht,hr=>by
  obtain⟨m,hm,h⟩:=Vb (l:=y::l) (by simp) (fun a ha b hb=>ht a (List.mem_cons_of_mem _ ha) b (List.mem_cons_of_mem _ hb)) (fun a ha b hb c hc=>hr a (List.mem_cons_of_mem _ ha) b (List.mem_cons_of_mem _ hb) c (List.mem_cons_of_mem _ hc))
  have hm':=List.mem_cons_of_mem x hm;rcases ht x List.mem_cons_self m hm' with e|e|e
  ·exact⟨m,hm',fun z hz=>by
    rcases List.mem_cons.1 hz with e'|hz
    ·exact .inl (e'.trans e)
    ·exact h z hz⟩
  ·exact⟨m,hm',fun z hz=>by
    rcases List.mem_cons.1 hz with e'|hz
    ·rw[e'];exact .inr e
    ·exact h z hz⟩
  ·exact⟨x,List.mem_cons_self,fun z hz=>by
    rcases List.mem_cons.1 hz with e'|hz'
    ·exact .inl e'
    ·rcases h z hz' with e'|e'
     ·rw[e'];exact .inr e
     ·exact .inr (hr z hz m hm' x List.mem_cons_self e' e)⟩
section
variable {W:List V} {side:V->V->Prop} {ins:P3->Bool}
def Ccw(v x y:V):Prop:=0<ev (lin v x) (pt y)
theorem qN{v x y:V}(h:Ccw v x y):¬Ccw v y x:=by
 unfold Ccw at*;rw[show ev (lin v y) (pt x)= -ev (lin v x) (pt y) by unfold ev lin pt;grind];omega
theorem Fj(N:Net W side){o:Bool}{v x y:V}(hx:side v x)(hy:side v y)(ox:On o v x)(oy:On o v y):x=y\/Ccw v x y\/Ccw v y x:=by
 unfold Ccw;rw[show ev (lin v y) (pt x)= -ev (lin v x) (pt y) by unfold ev lin pt;grind]
 by_cases h:ev (lin v x) (pt y)=0
 ·left;refine(N.ray hx hy h ?_).symm;have d:=aFi ((zW o v x).1 ox) ((zW o v y).1 oy) (by rw[Ba];exact h)
  have:(tv o v x).x*(tv o v y).x+(tv o v x).y*(tv o v y).y=ev (bB v x) (pt y):=by
   unfold tv ev bB pt sub neg;cases o<;>simp<;>grind
  omega
 ·omega
theorem Mk{o:Bool}{v x y z:V}(ox:On o v x)(oy:On o v y)(oz:On o v z)(h1:Ccw v x y)(h2:Ccw v y z):Ccw v x z:=by
 unfold Ccw at*;rw[<-Ba o]at*;exact aAF ((zW o v x).1 ox) ((zW o v y).1 oy) ((zW o v z).1 oz) h1 h2
theorem Tri.sector(N:Net W side){a b c:V}(h:Tri W side ins a b c){x:V}(hx:side a x):¬(Ccw a b x/\Ccw a x c):=by
 unfold Ccw;rintro⟨h1,h2⟩;have h2':0<ev (lin c a) (pt x):=by rw[<-iX c a x];exact h2
 obtain⟨f,hf,hle⟩:=h.free N a x hx (1+(ev (lin b c) (pt x)).natAbs) 1 (by omega) (by omega) (by omega)
 dsimp only at hle;simp only[List.mem_cons,List.not_mem_nil,or_false]at hf;rcases hf with rfl|rfl|rfl
 ·rw[bG,Int.mul_zero]at hle;omega
 ·rw[iX a b c]at hle;have:=Int.mul_le_mul_of_nonneg_left (show 1<=ev (lin a b) (pt c) by have:=h.left;omega) (show 0<=1+((ev (lin b c) (pt x)).natAbs:Int) by omega)
  omega
 ·rw[bQ,Int.mul_zero]at hle;omega
def Mid(W:List V)(side:V->V->Prop)(ins:P3->Bool)(o:Bool)(v x:V):Prop:=On o v x/\∃y,Tri W side ins v x y/\On (!o) v y
theorem Mid.top(N:Net W side){o:Bool}{v x z:V}(h:Mid W side ins o v x)(hz:side v z)(oz:On o v z):z=x\/Ccw v z x:=by
 obtain⟨ox,y,T,oy⟩:=h;rcases Fj N hz T.ab oz ox with e|e|e
 ·exact .inl e
 ·exact .inr e
 ·refine absurd ⟨e,?_⟩ (T.sector N hz);unfold Ccw at*;have hl:=T.left;rw[<-Ba o]at*;exact aFh ((zW o v x).1 ox) ((zW o v z).1 oz) (aIo oy) hl e
theorem Mid.unique(N:Net W side){o:Bool}{v x x':V}(h:Mid W side ins o v x)(h':Mid W side ins o v x'):x=x':=by
 obtain⟨_,T,_⟩:=h.2;obtain⟨_,T',_⟩:=h'.2;rcases h.top N T'.1 h'.1 with e|e
 ·exact e.symm
 ·rcases h'.top N T.1 h.1 with e'|e'
  ·exact e'
  ·exact absurd e' (qN e)
open Classical in
theorem Ja(N:Net W side){o:Bool}{v x:V}{P:V->Prop}(hx:side v x)(ox:On o v x)(px:P x):∃z,side v z/\On o v z/\P z/\∀y,side v y->On o v y->P y->y=z\/Ccw v y z:=by
 have mm:∀{y},y∈W.filter (fun z=>decide (side v z/\On o v z/\P z))↔side v y/\On o v y/\P y:=fun{y}=>
  ⟨fun h=>of_decide_eq_true (List.mem_filter.1 h).2,fun h=>List.mem_filter.2 ⟨N.mem (N.symm h.1),decide_eq_true h⟩⟩
 obtain⟨z,hz,h⟩:=Vb (R:=Ccw v) (List.ne_nil_of_mem (mm.2 ⟨hx,ox,px⟩)) (fun a ha b hb=>Fj N (mm.1 ha).1 (mm.1 hb).1 (mm.1 ha).2.1 (mm.1 hb).2.1)
  (fun a ha b hb c hc=>Mk (mm.1 ha).2.1 (mm.1 hb).2.1 (mm.1 hc).2.1)
 obtain⟨z1,z2,z3⟩:=mm.1 hz;exact⟨z,z1,z2,z3,fun y h1 h2 h3=>h y (mm.2 ⟨h1,h2,h3⟩)⟩
open Classical in
theorem Jb(N:Net W side){o:Bool}{v x:V}{P:V->Prop}(hx:side v x)(ox:On o v x)(px:P x):∃z,side v z/\On o v z/\P z/\∀y,side v y->On o v y->P y->y=z\/Ccw v z y:=by
 have mm:∀{y},y∈W.filter (fun z=>decide (side v z/\On o v z/\P z))↔side v y/\On o v y/\P y:=fun{y}=>
  ⟨fun h=>of_decide_eq_true (List.mem_filter.1 h).2,fun h=>List.mem_filter.2 ⟨N.mem (N.symm h.1),decide_eq_true h⟩⟩
 obtain⟨z,hz,h⟩:=Vb (R:=fun a b=>Ccw v b a) (List.ne_nil_of_mem (mm.2 ⟨hx,ox,px⟩)) (fun a ha b hb=>by
   rcases Fj N (mm.1 ha).1 (mm.1 hb).1 (mm.1 ha).2.1 (mm.1 hb).2.1 with e|e|e
   ·exact .inl e
   ·exact .inr (.inr e)
   ·exact .inr (.inl e))
  (fun a ha b hb c hc h1 h2=>Mk (mm.1 hc).2.1 (mm.1 hb).2.1 (mm.1 ha).2.1 h2 h1)
 obtain⟨z1,z2,z3⟩:=mm.1 hz;exact⟨z,z1,z2,z3,fun y h1 h2 h3=>h y (mm.2 ⟨h1,h2,h3⟩)⟩
structure Vtx(W:List V)(side:V->V->Prop)(ins:P3->Bool)(v u w:V):Prop where
 fill:Filled W side ins
 su:side v u
 sw:side v w
 lw:Lft ins v w
 lu:¬Lft ins v u
 out:∀x,side v x->x≠u->Lft ins v x
 inn:∀x,side v x->x≠w->Lft ins x v
variable {v u w:V}
theorem Yv(X:Vtx W side ins v u w){o:Bool}{x:V}(hx:side v x)(ox:On o v x)(hu:x≠u)(ht:∀y,side v y->On o v y->y=x\/Ccw v y x):Mid W side ins o v x:=by
 have N:=X.fill.net;obtain⟨y,T⟩:=An X.fill hx (X.out x hx hu);refine⟨ox,y,T,?_⟩;have hy:=N.symm T.ca;rcases Ki (N.ne T.ca) o with g|g
 ·rcases ht y hy g with e|e
  ·exact absurd e.symm (N.ne T.bc)
  ·exact absurd e (qN T.left)
 ·exact g
theorem Zz(X:Vtx W side ins v u w){o:Bool}(hu:¬On o v u){x:V}(hx:side v x)(ox:On o v x):∃x,Mid W side ins o v x:=by
 obtain⟨z,z1,z2,_,z3⟩:=Ja X.fill.net (P:=fun _=>True) hx ox trivial
 exact⟨z,Yv X z1 z2 (fun e=>hu (e▸z2)) fun y h1 h2=>z3 y h1 h2 trivial⟩
theorem Lo(X:Vtx W side ins v u w){o:Bool}(hu:On o v u){x:V}(hx:side v x)(ox:On o v x)(h:Ccw v u x):∃x,Mid W side ins o v x:=by
 obtain⟨z,z1,z2,_,z3⟩:=Ja X.fill.net (P:=fun _=>True) hx ox trivial
 refine⟨z,Yv X z1 z2 (fun e=> ?_) fun y h1 h2=>z3 y h1 h2 trivial⟩
 subst e;rcases z3 x hx ox trivial with e|e
 ·subst e;exact qN h h
 ·exact qN h e
theorem Hb(X:Vtx W side ins v u w){o:Bool}(hu:On o v u)(hw:On o v w->Ccw v w u):¬∃x,Mid W side ins o v x:=by
 rintro⟨x,M⟩;have N:=X.fill.net;obtain⟨ox,y,T,oy⟩:=id M;have hxu:x≠u:=fun e=>X.lu (by rw[<-e];exact T.lft X.fill)
 have hux:Ccw v u x:=(M.top N X.su hu).resolve_left fun e=>hxu e.symm
 obtain⟨z,z1,z2,z3,z4⟩:=Jb N (P:=fun z=>Ccw v u z) T.ab ox hux
 have hzw:z≠w:=fun e=>qN (hw (e▸z2)) (e▸z3)
 obtain⟨t,T2⟩:=An X.fill (N.symm z1) (X.inn z z1 hzw);have T3:Tri W side ins v t z:=T2.rot;have htz:Ccw v t z:=T3.left;have st:=T3.ab;by_cases ot:On o v t
 ·rcases Fj N X.su st hu ot with e|e|e
  ·exact X.lu (by rw[e];exact T3.lft X.fill)
  ·rcases z4 t st ot e with e'|e'
   ·exact N.ne T3.bc e'
   ·exact qN htz e'
  ·exact T3.sector N X.su ⟨e,z3⟩
 ·have ot':=(Ki (N.ne (N.symm st)) o).resolve_left ot;refine T3.sector N X.su ⟨?_,z3⟩;unfold Ccw at*;rw[<-Ba o]at*;exact aIR (aIo ot') ((zW o v u).1 hu) ((zW o v z).1 z2) htz z3
theorem aBm(X:Vtx W side ins v u w){o:Bool}(hu:On (!o) v u)(hw:On (!o) v w)(h:Ccw v w u):¬∃x,Mid W side ins o v x:=by
 rintro⟨x,M⟩;have N:=X.fill.net;obtain⟨ox,y,T,oy⟩:=id M;obtain⟨z,z1,z2,_,z4⟩:=Jb N (P:=fun _=>True) T.ab ox trivial
 have hzw:z≠w:=fun e=>z2.not (e▸hw)
 obtain⟨t,T2⟩:=An X.fill (N.symm z1) (X.inn z z1 hzw);have T3:Tri W side ins v t z:=T2.rot;have st:=T3.ab;have ot':On (!o) v t:=by
  refine(Ki (N.ne (N.symm st)) o).resolve_left fun ot=> ?_
  rcases z4 t st ot trivial with e|e
  ·exact N.ne T3.bc e
  ·exact qN T3.left e
 exact Hb X hu (fun _=>h) ⟨t,ot',z,T3,by rw[Bool.not_not];exact z2⟩
theorem Wv(X:Vtx W side ins v u w){o:Bool}(hu:On (!o) v u)(hw:On (!o) v w)(h:Ccw v u w):∃x,Mid W side ins o v x:=by
 have N:=X.fill.net;by_cases hx:∃x,side v x/\On o v x
 ·obtain⟨x,h1,h2⟩:=hx;exact Zz X (fun g=>g.not hu) h1 h2
 ·exfalso;obtain⟨x,ox,y,T,oy⟩:=Lo X hu X.sw hw h;rw[Bool.not_not]at oy;exact hx ⟨y,N.symm T.ca,oy⟩
open Classical in
noncomputable def cnt(W:List V)(side:V->V->Prop)(ins:P3->Bool)(o:Bool)(v:V):Int:=if∃x,Mid W side ins o v x then 1 else 0
theorem Fh{o:Bool}(h:∃x,Mid W side ins o v x):cnt W side ins o v=1:=if_pos h
theorem tG{o:Bool}(h:¬∃x,Mid W side ins o v x):cnt W side ins o v=0:=if_neg h
theorem Kd{x:V}:Up (sub x v)↔On true v x:=by unfold On;simp
theorem Mx{x:V}:Up (sub v x)↔On false v x:=by unfold On;rw[<-sub_neg,yT];simp
theorem Vtx.count(X:Vtx W side ins v u w)(ht:cross (sub v u) (sub w v)≠0):cnt W side ins true v+cnt W side ins false v=1-cr (sub v u) (sub w v):=by
 have N:=X.fill.net;have eu:ev (lin v w) (pt u)=cross (sub v u) (sub w v):=by rw[gE];unfold cross sub;grind
 have ew:ev (lin v u) (pt w)= -cross (sub v u) (sub w v):=by rw[gE];unfold cross sub;grind
 have ou:=Ki (N.ne (N.symm X.su));have ow:=Ki (N.ne (N.symm X.sw));have diff:∀o,On o v u->On (!o) v w->cnt W side ins o v=0/\cnt W side ins (!o) v=1:=fun o h1 h2=>
  ⟨tG (Hb X h1 fun g=>absurd h2 g.not),Fh (Zz X (fun g=>h1.not g) X.sw h2)⟩
 have same:∀o,On o v u->On o v w->cnt W side ins o v+cnt W side ins (!o) v=1-sgn (cross (sub v u) (sub w v)):=fun o h1 h2=>by
  have h1':On (!(!o)) v u:=by rw[Bool.not_not];exact h1
  have h2':On (!(!o)) v w:=by rw[Bool.not_not];exact h2
  rcases Int.lt_or_gt_of_ne ht with g|g
  ·have k:Ccw v u w:=by unfold Ccw;rw[ew];omega
   rw[Fh (Lo X h1 X.sw h2 k),Fh (Wv X h1' h2' k),show sgn (cross (sub v u) (sub w v))= -1 by unfold sgn;rw[if_neg (by omega),if_pos g]];rfl
  ·have k:Ccw v w u:=by unfold Ccw;rw[eu];exact g
   rw[tG (Hb X h1 fun _=>k),tG (aBm X h1' h2' k),show sgn (cross (sub v u) (sub w v))=1 by unfold sgn;rw[if_pos g]];rfl
 by_cases c:Up (sub v u)↔Up (sub w v)
 ·rw[nF c];rw[Mx,Kd]at c;rcases ou true with h1|h1
  ·have h2:On (!true) v w:=(ow true).resolve_left fun g=>h1.not (c.2 g)
   have:=diff true h1 h2;rw[this.1,show(false:Bool)= !true from rfl,this.2];rfl
  ·have h2:=c.1 h1;have:=diff false h1 h2;rw[this.1,show(true:Bool)= !false from rfl,this.2];rfl
 ·rw[mJ c];rw[Mx,Kd]at c;rcases ou true with h1|h1
  ·have h2:On true v w:=(ow true).resolve_right fun g=>c ⟨fun h=>absurd h h1.not,fun h=>absurd g h.not⟩
   have:=same true h1 h2;exact this
  ·have h2:On false v w:=(ow true).resolve_left fun g=>c ⟨fun _=>g,fun _=>h1⟩
   have:=same false h1 h2;rw[show(!false)=true from rfl]at this
   omega
end
end Go.Proofs.YtdaeofhdgabhjaaGreat.Geo
namespace Go.Proofs.YtdaeofhdgabhjaaGreat.Geo
theorem Zb(g:V->Int):∀r:aD,(r.map g).sum=iO (fun i=>g (nth r i)) r.length
 |[] =>rfl
 |x::l=>by
  rw[List.map_cons,List.sum_cons,Zb g l,List.length_cons,uL];rfl
theorem uM{f g:Nat->Int}:∀k,(∀i,i<k->f i=g i)->iO f k=iO g k
 |0,_=>rfl
 |k+1,h=>by unfold iO;rw[uM k fun i hi=>h i (by omega),h k (by omega)]
theorem Rp(g:V->Int)(r:aD):(r.map g).sum=iO (fun i=>g (vv r (i+1))) r.length:=by
 have f:=uL (fun i=>g (vv r i)) r.length
 rw[iO]at f;have e:g (vv r r.length)=g (vv r 0):=by unfold vv;rw[Nat.mod_self,Nat.zero_mod]
 rw[Zb,uM (g:=fun i=>g (vv r i)) _ fun i hi=>by unfold vv;rw[Nat.mod_eq_of_lt hi]]
 omega
theorem Gr(c:Int)(f:Nat->Int)(k:Int):∀n,iO (fun i=>c+k*f i) n=c*n+k*iO f n
 |0=>by simp[iO]
 |n+1=>by rw[iO,Gr c f k n,iO];grind
theorem aJu{x y:V}(hx:x≠⟨0,0⟩)(hy:y≠⟨0,0⟩):cr (neg y) (neg x)= -cr x y:=by
 have k:∀{z:V},z≠⟨0,0⟩->(Up (neg z)↔¬Up z):=fun{z} hz=>by
  rw[yT];rcases aCd z with g|g|g
  ·exact⟨fun h=>absurd h g.not,fun h=>absurd g h⟩
  ·exact⟨fun _ h=>h.not g,fun _=>g⟩
  ·exact absurd g hz
 by_cases h:Up x↔Up y
 ·rw[nF h,nF (by rw[k hx,k hy];exact⟨fun a b=>a (h.1 b),fun a b=>a (h.2 b)⟩)];rfl
 ·rw[mJ h,mJ (by rw[k hx,k hy];intro g;apply h;by_cases a:Up x<;>by_cases b:Up y<;>simp_all),Cy,oC,Aq]
theorem VR.fun_a{r:aD}(h:VR r){e d:S}(he:e∈edges r)(hd:d∈edges r)(g:e.a=d.a):e=d:=by
 obtain⟨_,i,hi,rfl⟩:=mem_edges.1 he;obtain⟨_,k,hk,rfl⟩:=mem_edges.1 hd;rw[h.inj hi hk g]
theorem VR.fun_b{r:aD}(h:VR r){e d:S}(he:e∈edges r)(hd:d∈edges r)(g:e.b=d.b):e=d:=by
 have h3:=h.three;obtain⟨_,i,hi,rfl⟩:=mem_edges.1 he;obtain⟨_,k,hk,rfl⟩:=mem_edges.1 hd;have e1:=h.inj (Nat.mod_lt (i+1) (show 0<r.length by omega)) (Nat.mod_lt (k+1) (show 0<r.length by omega)) g
 congr 1
 by_cases g1:i+1<r.length<;>by_cases g2:k+1<r.length
 ·rw[Nat.mod_eq_of_lt g1,Nat.mod_eq_of_lt g2]at e1;omega
 ·rw[Nat.mod_eq_of_lt g1,show k+1=r.length by omega,Nat.mod_self]at e1;omega
 ·rw[Nat.mod_eq_of_lt g2,show i+1=r.length by omega,Nat.mod_self]at e1;omega
 ·omega
section
variable {s:Shape} {D:List S}
theorem Qe(T:Tg s D){r:aD}(hr:r∈aJ s){e:S}(he:e∈aE s)(h:e.a∈r\/e.b∈r):e∈edges r:=by
 obtain⟨q,hq,he⟩:=List.mem_flatMap.1 he;obtain⟨h1,h2⟩:=dU he;have u:=lM (aJ s) T.vs.nodup q hq r hr;rcases h with h|h
 ·rw[<-u _ h1 h];exact he
 ·rw[<-u _ h2 h];exact he
theorem Lj(T:Tg s D){u v w:V}(h1:(⟨u,v⟩:S)∈edges s.outer)(h2:(⟨v,w⟩:S)∈edges s.outer):Vtx (aR s) (sides s D) (eI s) v u w:=by
 have ho:s.outer∈aJ s:=List.mem_cons_self;have hv:v∈s.outer:=(dU h2).1;have s1:sides s D u v:=kH ho h1;have s2:sides s D v w:=kH ho h2;refine⟨T.filled,s1.symm,s2,(mN T h2).1,(mN T h1).2,fun x hx hu=> ?_,fun x hx hw=> ?_⟩
 ·rcases hx with hx|hx<;>rcases List.mem_append.1 hx with hx|hx
  ·exact(mN T (Qe T ho hx (.inl hv))).1
  ·exact(mH T hx).1
  ·exact absurd (congrArg S.a (T.vs.outer.fun_b (Qe T ho hx (.inr hv)) h1 rfl)) hu
  ·exact(mH T hx).2
 ·rcases hx with hx|hx<;>rcases List.mem_append.1 hx with hx|hx
  ·exact absurd (congrArg S.b (T.vs.outer.fun_a (Qe T ho hx (.inl hv)) h2 rfl)) hw
  ·exact(mH T hx).2
  ·exact(mN T (Qe T ho hx (.inr hv))).1
  ·exact(mH T hx).1
theorem aDP(T:Tg s D){r:aD}(hr:r∈s.holes){u v w:V}(h1:(⟨u,v⟩:S)∈edges r)(h2:(⟨v,w⟩:S)∈edges r):Vtx (aR s) (sides s D) (eI s) v w u:=by
 have ho:r∈aJ s:=List.mem_cons_of_mem _ hr;have hv:v∈r:=(dU h2).1;have s1:sides s D u v:=kH ho h1;have s2:sides s D v w:=kH ho h2;have R:=T.vs.ring ho;refine⟨T.filled,s2,s1.symm,(nZ T hr h1).1,(nZ T hr h2).2,fun x hx hu=> ?_,fun x hx hw=> ?_⟩
 ·rcases hx with hx|hx<;>rcases List.mem_append.1 hx with hx|hx
  ·exact absurd (congrArg S.b (R.fun_a (Qe T ho hx (.inl hv)) h2 rfl)) hu
  ·exact(mH T hx).1
  ·exact(nZ T hr (Qe T ho hx (.inr hv))).1
  ·exact(mH T hx).2
 ·rcases hx with hx|hx<;>rcases List.mem_append.1 hx with hx|hx
  ·exact(nZ T hr (Qe T ho hx (.inl hv))).1
  ·exact(mH T hx).2
  ·exact absurd (congrArg S.a (R.fun_b (Qe T ho hx (.inr hv)) h1 rfl)) hw
  ·exact(mH T hx).1
theorem Eu{r:aD}(h:VR r)(i:Nat):(⟨vv r i,vv r (i+1)⟩:S)∈edges r:=by
 have:=rM h (i:=i % r.length) (Nat.mod_lt _ (by have:=h.three;omega))
 unfold cP nxt at this;rw[Nat.mod_add_mod]at this;exact this
theorem Yr{r:aD}(h:VR r)(i:Nat):cross (sub (vv r (i+1)) (vv r i)) (sub (vv r (i+2)) (vv r (i+1)))≠0:=by
 have:=h.turn' (i % r.length) (Nat.mod_lt _ (by have:=h.three;omega))
 rw[Nat.mod_add_mod,Nat.mod_add_mod]at this;exact uK this
theorem Ww{r:aD}(h:VR r)(h0:∀i,0<i->i<r.length->bX (nth r 0) (nth r i)=true):sgn (cross (sub (nth r 0) (nth r (r.length-1))) (sub (nth r 1) (nth r 0)))=1:=by
 have h3:=h.three;have hvs:aR ⟨r,[]⟩=r:=by unfold aR aJ;simp
 have T:=Yc h.alone (v:=r) (fun x=>by rw[hvs]) h.nodup
 have e1:(⟨nth r (r.length-1),nth r 0⟩:S)∈edges r:=by
  have:=rM h (i:=r.length-1) (by omega)
  unfold cP nxt at this;rw[show r.length-1+1=r.length by omega,Nat.mod_self]at this
  exact this
 have e2:(⟨nth r 0,nth r 1⟩:S)∈edges r:=by
  have:=rM h (i:=0) (by omega)
  unfold cP nxt at this;rw[Nat.mod_eq_of_lt (by omega)]at this
  exact this
 have X:=Lj T (s:=⟨r,[]⟩) e1 e2;have tc:cross (sub (nth r 0) (nth r (r.length-1))) (sub (nth r 1) (nth r 0))≠0:=by
  have:=uK (h.turn' (r.length-1) (by omega))
  rw[show r.length-1+1=r.length by omega,Nat.mod_self,show(r.length-1+2) % r.length=1 by rw[show r.length-1+2=1+r.length by omega,Nat.add_mod_right,Nat.mod_eq_of_lt (by omega)]]at this
  exact this
 have c:=X.count tc;have N:=X.fill.net;have up:∀i,0<i->i<r.length->On true (nth r 0) (nth r i):=fun i hi hl=>Kd.1 (Yt (h0 i hi hl))
 have low:∀x,sides ⟨r,[]⟩ (nU ⟨r,[]⟩ r) (nth r 0) x->¬On false (nth r 0) x:=fun x hx g=>by
  have hm:=N.mem (N.symm hx);rw[hvs]at hm;obtain⟨i,hi,rfl⟩:=fL.1 hm;by_cases g0:i=0
  ·subst g0;exact N.ne hx rfl
  ·exact(up i (by omega) hi).not g
 rw[tG (fun⟨x,M⟩=>by obtain⟨_,y,T,oy⟩:=M;exact low y (N.symm T.ca) oy),tG (fun⟨x,M⟩=>by obtain⟨ox,y,T,_⟩:=M;exact low x T.ab ox)]at c
 rw[mJ (fun g=>by
  rw[Mx,Kd]at g;exact(up (r.length-1) (by omega) (by omega)).not (g.2 (up 1 (by omega) (by omega))))]at c
 omega
theorem aCv{r:aD}(h:VR r):VR (cK r)/\∀i,0<i->i<(cK r).length->bX (nth (cK r) 0) (nth (cK r) i)=true:=by
 have h3:=h.three;have hl:=fZ (r:=r) (by omega)
 have hb:VR (cK r):=h.rot (k:=cH r) (by omega)
 refine⟨hb,fun i h1 h2=> ?_⟩
 have hlen:=dM r;rw[hlen]at h2;have e:=pV (r:=r) (i:=i) h2;rw[xA (by omega),e]
 have le:=mO r r.length ((i+cH r) % r.length) (Nat.mod_lt _ (by omega))
 rw[<-gJ]at le;refine tV le fun g=> ?_
 rw[<-e]at g;have g0:=xA (r:=r) (by omega)
 rw[<-g0]at g;have:=hb.inj (by omega) (by omega) g
 omega
theorem yP{r:aD}(h:VR r):iO (tn (cK r)) (cK r).length=2:=by
 obtain⟨hb,h0⟩:=aCv h;rw[Wk hb h0,Ww hb h0];rfl
noncomputable def Ut(s:Shape)(D:List S)(v:V):Int:=cnt (aR s) (sides s D) (eI s) true v+cnt (aR s) (sides s D) (eI s) false v
theorem aBg(T:Tg s D):(s.outer.map (Ut s D)).sum=s.outer.length-2:=by
 have h:=T.vs.outer;obtain⟨hb,_⟩:=aCv h;rw[<-tQ ((qW s.outer).map _),Rp,uM (g:=fun i=>1+(-1)*tn (cK s.outer) i) _ fun i hi=> ?_,Gr,yP h,dM]
 ·omega
 ·have m1:=(gC s.outer _).1 (Eu hb i);have m2:(⟨vv (cK s.outer) (i+1),vv (cK s.outer) (i+2)⟩:S)∈edges s.outer:=(gC s.outer _).1 (Eu hb (i+1));have:=(Lj T m1 m2).count (Yr hb i);unfold Ut tn;omega
theorem aDQ(T:Tg s D){r:aD}(hr:r∈s.holes):(r.map (Ut s D)).sum=r.length+2:=by
 have h:=T.vs.ring (List.mem_cons_of_mem _ hr);obtain⟨hb,_⟩:=aCv h;rw[<-tQ ((qW r).map _),Rp,uM (g:=fun i=>1+1*tn (cK r) i) _ fun i hi=> ?_,Gr,yP h,dM]
 ·omega
 ·have m1:=(gC r _).1 (Eu hb i);have m2:(⟨vv (cK r) (i+1),vv (cK r) (i+2)⟩:S)∈edges r:=(gC r _).1 (Eu hb (i+1));have t:=Yr hb i;have t':cross (sub (vv (cK r) (i+1)) (vv (cK r) (i+2))) (sub (vv (cK r) i) (vv (cK r) (i+1)))≠0:=by
   rw[show cross (sub (vv (cK r) (i+1)) (vv (cK r) (i+2))) (sub (vv (cK r) i) (vv (cK r) (i+1)))= -cross (sub (vv (cK r) (i+1)) (vv (cK r) i)) (sub (vv (cK r) (i+2)) (vv (cK r) (i+1))) by unfold cross sub;grind]
   omega
  have c:=(aDP T hr m1 m2).count t';have n1:sub (vv (cK r) (i+1)) (vv (cK r) i)≠⟨0,0⟩:=fun g=>t (by rw[g];unfold cross;simp)
  have n2:sub (vv (cK r) (i+2)) (vv (cK r) (i+1))≠⟨0,0⟩:=fun g=>t (by rw[g];unfold cross;simp)
  have k:=aJu n1 n2;rw[sub_neg,sub_neg]at k;rw[k]at c;unfold Ut tn;omega
theorem aAE(T:Tg s D):((aR s).map (Ut s D)).sum=(aR s).length+2*s.holes.length-2:=by
 have key:∀l:List aD,(∀r∈l,r∈s.holes)->(l.flatten.map (Ut s D)).sum=l.flatten.length+2*l.length:=by
  intro l;induction l with
  |nil=>intro _;rfl
  |cons r l ih=>
   intro hl;rw[List.flatten_cons,List.map_append,List.sum_append,aDQ T (hl r List.mem_cons_self),ih fun q hq=>hl q (List.mem_cons_of_mem _ hq),List.length_append,List.length_cons]
   omega
 unfold aR aJ;rw[List.flatten_cons,List.map_append,List.sum_append,aBg T,key s.holes (fun r hr=>hr),List.length_append]
 omega
end
open Classical in
noncomputable def i01(p:Prop):Int:=if p then 1 else 0
theorem xG{p:Prop}(h:p):i01 p=1:=if_pos h
theorem sB{p:Prop}(h:¬p):i01 p=0:=if_neg h
theorem mT{p q:Prop}(h:p↔q):i01 p=i01 q:=by rw[propext h]
open Classical in
theorem Zc{α:Type}(Q:α->Prop)(l:List α):(l.map fun x=>i01 (Q x)).sum=(l.filter fun x=>decide (Q x)).length:=by
 induction l with
 |nil=>rfl
 |cons x l ih=>
  rw[List.map_cons,List.sum_cons,ih];by_cases h:Q x
  ·rw[xG h,List.filter_cons_of_pos (by simpa using h),List.length_cons];omega
  ·rw[sB h,List.filter_cons_of_neg (by simpa using h)];omega
open Classical in
theorem aFn{W:List V}{DS:List S}{P:S->Prop}(hd:DS.Nodup)(hW:W.Nodup)(hm:∀e∈DS,e.a∈W)(hu:∀e∈DS,∀d∈DS,P e->P d->e.a=d.a->e=d):
  (DS.map fun e=>i01 (P e)).sum=(W.map fun v=>i01 (∃e∈DS,P e/\e.a=v)).sum:=by
 obtain⟨Q,hQ⟩:∃Q:V->Prop,∀v,Q v↔∃e∈DS,P e/\e.a=v:=⟨_,fun _=>Iff.rfl⟩
 rw[show(W.map fun v=>i01 (∃e∈DS,P e/\e.a=v))=W.map fun v=>i01 (Q v)from List.map_congr_left fun v _=>mT (hQ v).symm,Zc P DS,Zc Q W]
 have p:((DS.filter fun e=>decide (P e)).map S.a).Perm (W.filter fun v=>decide (Q v)):=by
  refine(List.perm_ext_iff_of_nodup ?_ (hW.filter _)).2 fun v=> ?_
  ·rw[List.nodup_iff_pairwise_ne,List.pairwise_map];refine(List.Pairwise.and_mem.1 (List.nodup_iff_pairwise_ne.1 (hd.filter _))).imp ?_;rintro e d ⟨he,hd,hne⟩ g;obtain⟨e1,e2⟩:=List.mem_filter.1 he;obtain⟨d1,d2⟩:=List.mem_filter.1 hd;exact hne (hu e e1 d d1 (of_decide_eq_true e2) (of_decide_eq_true d2) g)
  ·rw[List.mem_map,List.mem_filter];constructor
   ·rintro⟨e,he,rfl⟩;obtain⟨e1,e2⟩:=List.mem_filter.1 he;exact⟨hm e e1,decide_eq_true ((hQ _).2 ⟨e,e1,of_decide_eq_true e2,rfl⟩)⟩
   ·rintro⟨_,h⟩;obtain⟨e,e1,e2,e3⟩:=(hQ _).1 (of_decide_eq_true h);exact⟨e,List.mem_filter.2 ⟨e1,decide_eq_true e2⟩,e3⟩
 rw[<-p.length_eq,List.length_map]
theorem Nx{α:Type}(f g:α->Int):∀l:List α,(l.map fun x=>f x+g x).sum=(l.map f).sum+(l.map g).sum
 |[] =>rfl
 |x::l=>by simp only[List.map_cons,List.sum_cons,Nx f g l];omega
theorem tL{α:Type}(c:Int):∀l:List α,(l.map fun _=>c).sum=c*l.length
 |[] =>by simp
 |x::l=>by simp only[List.map_cons,List.sum_cons,tL c l,List.length_cons];grind
section
variable {s:Shape} {D:List S}
noncomputable def Br(s:Shape)(D:List S)(o:Bool)(e:S):Int:=i01 (Mid (aR s) (sides s D) (eI s) o e.a e.b)
theorem aCJ(N:Net (aR s) (sides s D)){a b c:V}(h:Tri (aR s) (sides s D) (eI s) a b c)(o:Bool):Mid (aR s) (sides s D) (eI s) o a b↔On o a b/\On (!o) a c:=by
 constructor
 ·rintro⟨h1,y,T,oy⟩;rw[Ht N h T];exact⟨h1,oy⟩
 ·rintro⟨h1,h2⟩;exact⟨h1,c,h,h2⟩
theorem aAJ(N:Net (aR s) (sides s D)){a b c:V}(h:Tri (aR s) (sides s D) (eI s) a b c):(Br s D true ⟨a,b⟩+Br s D false ⟨a,b⟩)+(Br s D true ⟨b,c⟩+Br s D false ⟨b,c⟩)+(Br s D true ⟨c,a⟩+Br s D false ⟨c,a⟩)=1:=by
 have swap:∀{x y:V},On true x y↔On false y x:=fun{x y}=>by rw[<-Kd,Mx]
 have k:∀{x y:V},x≠y->(On false x y↔¬On true x y):=fun{x y} hne=>⟨fun h g=>g.not h,fun h=>(Ki hne.symm true).resolve_left h⟩
 have n1:=N.ne h.ab;have n2:=N.ne h.bc;have n3:=N.ne h.ca;have one:∀{a b c:V},Tri (aR s) (sides s D) (eI s) a b c->a≠b->a≠c->Br s D true ⟨a,b⟩+Br s D false ⟨a,b⟩=i01 (¬(On true a b↔On true a c)):=fun{a b c} h hb hc=>by
  unfold Br;rw[mT (aCJ N h true),mT (aCJ N h false),mT (p:=On true a b/\On (!true) a c) (q:=On true a b/\¬On true a c) (and_congr_right fun _=>k hc),mT (p:=On false a b/\On (!false) a c) (q:=¬On true a b/\On true a c) (and_congr (k hb) Iff.rfl)]
  by_cases p:On true a b<;>by_cases q:On true a c
  ·rw[sB (by simp[p,q]),sB (by simp[p,q]),sB (by simp[p,q])];rfl
  ·rw[xG (by simp[p,q]),sB (by simp[p,q]),xG (by simp[p,q])];rfl
  ·rw[sB (by simp[p,q]),xG (by simp[p,q]),xG (by simp[p,q])];rfl
  ·rw[sB (by simp[p,q]),sB (by simp[p,q]),sB (by simp[p,q])];rfl
 rw[one h n1 n3.symm,one h.rot n2 n1.symm,one h.rot.rot n3 n2.symm];have tr:∀{a b c:V},On true a b->On true b c->On true a c:=fun{a b c} h1 h2=>by
  rw[<-Kd]at*;unfold Up sub at*;dsimp only at*;omega
 have q1:On true b a↔¬On true a b:=by rw[swap,k n1]
 have q2:On true c b↔¬On true b c:=by rw[swap,k n2]
 have q3:On true a c↔¬On true c a:=by rw[swap,k n3]
 have t1:On true a b->On true b c->¬On true c a:=fun h1 h2=>q3.1 (tr h1 h2)
 have t2:¬On true a b->¬On true b c->On true c a:=fun h1 h2=>Classical.byContradiction fun h3=>h1 (tr (q3.2 h3) (q2.2 h2))
 rw[mT (not_congr (iff_congr Iff.rfl q3)),mT (not_congr (iff_congr Iff.rfl q1)),mT (not_congr (iff_congr Iff.rfl q2))];by_cases p:On true a b<;>by_cases q:On true b c<;>by_cases r:On true c a
 ·exact absurd r (t1 p q)
 all_goals first|exact absurd (t2 p q) r|simp[i01,p,q,r]
theorem Ku(T:Tg s D){TL:List T3}(A:All3 (aR s) (sides s D) (eI s) TL):(TL.length:Int)=(aR s).length+2*s.holes.length-2:=by
 have H:=T.filled;have N:=H.net;have nd:=oB T (qV T) fun e he=>((mG T e).1 he).1
 have md:=tE T (mG T);have one:=A.sum H nd md (fun e=>Br s D true e+Br s D false e)
 rw[List.map_congr_left (g:=fun _=>(1:Int)) fun t ht=>aAJ N (A.tri t ht),tL,Nx]at one
 have ind:∀o,((Ek (zS s) D).map (Br s D o)).sum=((aR s).map fun v=>cnt (aR s) (sides s D) (eI s) o v).sum:=fun o=>by
  have:=aFn (P:=fun e=>Mid (aR s) (sides s D) (eI s) o e.a e.b) nd T.vs.nodup (fun e he=>N.mem ((md e).1 he).1) fun e _ d _ h1 h2 g=>by
   cases e;cases d;dsimp only at*;subst g;rw[h1.unique N h2]
  unfold Br;rw[this]
  congr 1
  refine List.map_congr_left fun v _=> ?_
  have key:(∃e∈Ek (zS s) D,Mid (aR s) (sides s D) (eI s) o e.a e.b/\e.a=v)↔∃x,Mid (aR s) (sides s D) (eI s) o v x:=by
   refine⟨fun⟨e,_,h,g⟩=>⟨e.b,by rw[<-g];exact h⟩,fun⟨x,h⟩=> ?_⟩
   obtain⟨ox,y,t,oy⟩:=id h;exact⟨⟨v,x⟩,(md _).2 ⟨t.ab,t.lft H⟩,h,rfl⟩
  by_cases h:∃x,Mid (aR s) (sides s D) (eI s) o v x
  ·rw[Fh h,xG (key.2 h)]
  ·rw[tG h,sB fun g=>h (key.1 g)]
 rw[ind,ind,<-Nx,show((aR s).map fun v=>cnt (aR s) (sides s D) (eI s) true v+cnt (aR s) (sides s D) (eI s) false v)=(aR s).map (Ut s D)from rfl,aAE T]at one
 omega
theorem Uf(T:Tg s D):(zS s).length=(aR s).length:=by
 have key:∀l:List aD,(∀r∈l,VR r)->(l.flatMap edges).length=l.flatten.length:=by
  intro l;induction l with
  |nil=>intro _;rfl
  |cons r l ih=>
   intro hl;rw[List.flatMap_cons,List.length_append,List.flatten_cons,List.length_append,ih fun q hq=>hl q (List.mem_cons_of_mem _ hq)]
   congr 1
   unfold edges;rw[if_neg (by have:=(hl r List.mem_cons_self).three;omega),List.length_map,List.length_range]
 have:=key (aJ s) fun r hr=>T.vs.ring hr
 unfold zS aR;rw[List.length_append,List.length_map,<-List.length_append,<-tW];exact this
theorem Xo(T:Tg s D){TL:List T3}(A:All3 (aR s) (sides s D) (eI s) TL):(D.length:Int)=(aR s).length+3*s.holes.length-3:=by
 have t:=Ku T A;have c:=Yu T A (fun _=>1)
 rw[tL,tL,tL,Uf T]at c;omega
end
end Go.Proofs.YtdaeofhdgabhjaaGreat.Geo
namespace Go.Proofs.YtdaeofhdgabhjaaGreat.Geo
theorem Dr{a b c w:V}(na:aO a 2000=true)(nb:aO b 2000=true)(nc:aO c 2000=true)(nw:aO w 2000=true)(h:0<ev (lin a b) (pt c)):
  bR [a,b,c] w=0↔¬(0<=ev (lin a b) (pt w)/\0<=ev (lin b c) (pt w)/\0<=ev (lin c a) (pt w)):=by
 have m4:∀{x:V},aO x 2000=true->aO x 4000=true:=fun h=>dQ h (by omega)
 have hv:bW [a,b,c] =true:=(yS (Kj na nb nc)).2 (by unfold turn;rw[uH,<-gE];exact h)
 have hp:cL (kT w)=true:=by rw[nL];exact m4 nw
 have e2:bR [a,b,c] w=2↔0<ev (lin a b) (pt w)/\0<ev (lin b c) (pt w)/\0<ev (lin c a) (pt w):=by
  unfold bR;rw[m4 nw];have:=Uy hv (kT w) hp (by rw[<-gE];exact h)
  unfold iG at this;rw[mK]at this;simp only[Bool.not_true,Bool.false_eq_true,if_false];rw[this];simp only[List.map_cons,List.map_nil,List.mem_cons,List.not_mem_nil,or_false,forall_eq_or_imp,forall_eq];exact Iff.rfl
 have on1:(∃e∈edges [a,b,c],onS e w=true)->bR [a,b,c] w=1:=by
  rintro⟨e,he,ho⟩;have ve:aM e=true:=by
   rw[mK]at he;simp only[List.mem_cons,List.not_mem_nil,or_false]at he;rcases he with rfl|rfl|rfl<;>simp[aM,m4 na,m4 nb,m4 nc]
  unfold bR bH;rw[m4 nw,hv,hp];exact Ac ⟨e,he,(Gy e w).2 ((eV ve).1 ho)⟩
 have r1:ev (lin b c) (pt a)=ev (lin a b) (pt c):=iX a b c;have r2:ev (lin c a) (pt b)=ev (lin a b) (pt c):=by unfold ev lin pt;grind
 constructor
 ·rintro h0 ⟨h1,h2,h3⟩;have seg:∀{x y z:V},aO x 4000=true->aO y 4000=true->0<ev (lin x y) (pt z)->ev (lin x y) (pt w)=0->0<=ev (lin y z) (pt w)->0<=ev (lin z x) (pt w)->onS ⟨x,y⟩ w=true:=fun{x y z} hx hy hd h0 h1 h2=>by
   have g:=pJ (c:=z) h0;exact Ll hx hy h1 h2 hd (by rw[g];unfold cmb pt;simp)
  by_cases z1:ev (lin a b) (pt w)=0
  ·have:=on1 ⟨⟨a,b⟩,by rw[mK];simp,seg (m4 na) (m4 nb) h z1 h2 h3⟩;omega
  ·by_cases z2:ev (lin b c) (pt w)=0
   ·have:=on1 ⟨⟨b,c⟩,by rw[mK];simp,seg (m4 nb) (m4 nc) (by rw[r1];exact h) z2 h3 h1⟩;omega
   ·by_cases z3:ev (lin c a) (pt w)=0
    ·have:=on1 ⟨⟨c,a⟩,by rw[mK];simp,seg (m4 nc) (m4 na) (by rw[r2];exact h) z3 h1 h2⟩;omega
    ·have:=e2.2 ⟨by omega,by omega,by omega⟩;omega
 ·intro hno;rcases yL [a,b,c] w with g|g|g
  ·exact g
  ·exfalso;obtain⟨e,he,ho⟩:=Dq g;have comb:∀{x y:V},x≠y->aO x 4000=true->aO y 4000=true->onS ⟨x,y⟩ w=true->∀f:P3,0<=ev f (pt x)->0<=ev f (pt y)->0<=ev f (pt w):=fun{x y} hne hx hy ho f h1 h2=>by
    obtain⟨s,t,k,p1,p2,p3,p4,p5⟩:=Oe (by simp[aM,hx,hy]) hne ho
    have e:=congrArg (ev f) p5;rw[aK,aK]at e;have:=mpp p1 h1;have:=mpp p2 h2;dsimp only at e;refine nnl p3 ?_;rw[Int.mul_comm];omega
   have nab:a≠b:=fun g=>by rw[g,show ev (lin b b) (pt c)=0 by unfold ev lin pt;grind]at h;omega
   have nbc:b≠c:=fun g=>by rw[g,bQ]at h;omega
   have nca:c≠a:=fun g=>by rw[g,bG]at h;omega
   have la:0<=ev (lin a b) (pt a)/\0<=ev (lin b c) (pt a)/\0<=ev (lin c a) (pt a):=⟨by rw[bG];omega,by omega,by rw[bQ];omega⟩
   have lb:0<=ev (lin a b) (pt b)/\0<=ev (lin b c) (pt b)/\0<=ev (lin c a) (pt b):=⟨by rw[bQ];omega,by rw[bG];omega,by omega⟩
   have lc:0<=ev (lin a b) (pt c)/\0<=ev (lin b c) (pt c)/\0<=ev (lin c a) (pt c):=⟨by omega,by rw[bQ];omega,by rw[bG];omega⟩
   rw[mK]at he;simp only[List.mem_cons,List.not_mem_nil,or_false]at he;rcases he with rfl|rfl|rfl
   ·have k:=comb nab (m4 na) (m4 nb) ho;exact hno ⟨k _ la.1 lb.1,k _ la.2.1 lb.2.1,k _ la.2.2 lb.2.2⟩
   ·have k:=comb nbc (m4 nb) (m4 nc) ho;exact hno ⟨k _ lb.1 lc.1,k _ lb.2.1 lc.2.1,k _ lb.2.2 lc.2.2⟩
   ·have k:=comb nca (m4 nc) (m4 na) ho;exact hno ⟨k _ lc.1 la.1,k _ lc.2.1 la.2.1,k _ lc.2.2 la.2.2⟩
  ·exfalso;obtain⟨g1,g2,g3⟩:=e2.1 g;exact hno ⟨by omega,by omega,by omega⟩
theorem aJt(a b c:V):∃k:Int,0<k/\ctr a b c=⟨k*(p3 (cU a b c)).x,k*(p3 (cU a b c)).y,k*(p3 (cU a b c)).d⟩:=by
 unfold cU;split
 ·rename_i h;refine⟨3,by omega,?_⟩
  have h1:=Ke h.1;have h2:=Ke h.2;unfold ctr p3;simp only[P3.mk.injEq];refine⟨?_,?_,?_⟩<;>omega
 ·refine⟨1,by omega,?_⟩
  unfold ctr p3;simp only[P3.mk.injEq];refine⟨?_,?_,?_⟩<;>omega
theorem Jf(a b c:V):0<(cU a b c).den:=by unfold cU;split<;>simp
section
variable {s:Shape} {D:List S}
theorem aAh{k:Int}(hk:0<k)(p:P3):eI s ⟨k*p.x,k*p.y,k*p.d⟩=eI s p:=by
 unfold eI;rw[Ae hk]
 congr 1
 rw[Bool.eq_iff_iff,List.all_eq_true,List.all_eq_true];constructor
 ·intro g r hr;rw[<-Ae hk];exact g r hr
 ·intro g r hr;rw[Ae hk];exact g r hr
theorem Lu(h:VS s){p:Pt}(hp:cL p=true)(ho:∀e∈aE s,onP e p=false):dG s p=2↔eI s (p3 p)=true:=by
 have w:∀r∈aJ s,bH r p=if eK r (p3 p)then 2 else 0:=fun r hr=>xN (h.ring hr) hp fun e he=>ho e (List.mem_flatMap.2 ⟨r,hr,he⟩)
 rw[mV];unfold eI;rw[Bool.and_eq_true,List.all_eq_true,w _ List.mem_cons_self];have hv:=(fU s).2 h;constructor
 ·rintro⟨_,h1,h2⟩;refine⟨by cases g:eK s.outer (p3 p)<;>simp_all,fun q hq=> ?_⟩
  have:=h2 q hq;rw[w q (List.mem_cons_of_mem _ hq)]at this;cases g:eK q (p3 p)<;>simp_all
 ·rintro⟨h1,h2⟩;refine⟨hv,by rw[h1];rfl,fun q hq=> ?_⟩
  rw[w q (List.mem_cons_of_mem _ hq)];have:=h2 q hq;cases g:eK q (p3 p)<;>simp_all
theorem aAB(h:VS s){p:Pt}(hp:cL p=true)(hw:dG s p=2):∀e∈aE s,onP e p=false:=by
 intro e he;obtain⟨r,hr,he⟩:=List.mem_flatMap.1 he;refine Bool.eq_false_iff.2 fun ho=> ?_
 have one:bH r p=1:=by
  unfold bH;rw[(cS _).2 (h.ring hr),hp];exact Ac ⟨e,he,ho⟩
 rw[mV]at hw;rcases List.mem_cons.1 hr with e1|hr
 ·rw[<-e1]at hw;omega
 ·have:=hw.2.2 r hr;omega
def nB(a b c:V):T3:=if turn a b c<0 then⟨a,c,b⟩else⟨a,b,c⟩
theorem Uj(a b c:V):cU a c b=cU a b c:=by
 rw[<-zG,<-zG];exact Pn (List.Perm.cons a (List.Perm.swap b c []))
theorem Cf(T:Tg s D){v:List V}(hv:∀x,x∈v↔x∈aR s){a b c:V}(hab:sides s D a b)(hbc:sides s D b c)(hca:sides s D c a)(hl:0<ev (lin a b) (pt c)):
  ((∀w∈v,w=a\/w=b\/w=c\/bR [a,b,c] w=0)/\dG s (cU a b c)=2)↔Tri (aR s) (sides s D) (eI s) a b c:=by
 have N:=T.filled.net;have near:=fun{x} (hx:x∈aR s)=>dZ T.vs hx
 have na:=near (N.mem hab);have nb:=near (N.mem hbc);have nc:=near (N.mem hca);have hp:=rA na nb nc;obtain⟨k,hk,ek⟩:=aJt a b c;have em:∀g:(∀w∈v,w=a\/w=b\/w=c\/bR [a,b,c] w=0),∀w∈aR s,0<=ev (lin a b) (pt w)->0<=ev (lin b c) (pt w)->0<=ev (lin c a) (pt w)->w=a\/w=b\/w=c:=fun g w hw h1 h2 h3=>by
  rcases g w ((hv w).2 hw)with e|e|e|e
  ·exact .inl e
  ·exact .inr (.inl e)
  ·exact .inr (.inr e)
  ·exact absurd ⟨h1,h2,h3⟩ ((Dr na nb nc (near hw) hl).1 e)
 constructor
 ·rintro⟨g1,g2⟩;refine⟨hab,hbc,hca,hl,em g1,?_⟩;show eI s (ctr a b c)=true;rw[ek,aAh hk];exact(Lu T.vs hp (aAB T.vs hp g2)).1 g2
 ·intro X;refine⟨fun w hw=> ?_,?_⟩
  ·by_cases g:0<=ev (lin a b) (pt w)/\0<=ev (lin b c) (pt w)/\0<=ev (lin c a) (pt w)
   ·rcases X.empty w ((hv w).1 hw) g.1 g.2.1 g.2.2 with e|e|e
    ·exact .inl e
    ·exact .inr (.inl e)
    ·exact .inr (.inr (.inl e))
   ·exact .inr (.inr (.inr ((Dr na nb nc (near ((hv w).1 hw)) hl).2 g)))
  ·refine(Lu T.vs hp fun e he=>Bool.eq_false_iff.2 fun ho=> ?_).2 ?_
   ·obtain⟨x,y,m,h1,h2,h3,h4,h5⟩:=Vp (Jf a b c) (T.vs.oI he) ho;have cd:=Jf a b c;have pm:=Int.mul_pos h3 cd;obtain⟨f,hf,hle⟩:=X.free N e.a e.b (.inl (List.mem_append_left _ he)) x y h1 h2 (by omega)
    dsimp only at hle;have q:=(Nn hl).2 f hf;rw[ek,show ev f ⟨k*(p3 (cU a b c)).x,k*(p3 (cU a b c)).y,k*(p3 (cU a b c)).d⟩=k*ev f (p3 (cU a b c)) by unfold ev;grind]at q
    have q2:0<ev f (p3 (cU a b c)):=eG hk q;have e1:x*ev f (pt e.a)+y*ev f (pt e.b)=m*ev f (p3 (cU a b c)):=by rw[<-aK,h5];unfold ev p3;grind
    have:=Int.mul_pos h3 q2;omega
   ·have:=X.mid;change eI s (ctr a b c)=true at this;rw[ek,aAh hk]at this;exact this
end
end Go.Proofs.YtdaeofhdgabhjaaGreat.Geo
