/- What the statements about triangulations stand on: contracts of functions, plain laws. Part 1 of 5, no condition of its own. (N1 E0 E5 N2 N3 E11 E12 N4 N5 N6 N7 E15 N8 N9 N10 N11 N12 N15 E1 E3) -/
import Derived.WalkKit
import Derived.Below
import Derived.Deep.MidRow
import Derived.Test.YtdaeofhdgabhjaaGreatProg
import Derived.WalkSpells
import Derived.WalkLawsBesides
import Derived.Lib.Hide
import Derived.Deep.QuietTactic
import Derived.BigQuiet
import Derived.WalkSmall
import Derived.Deep.RegionHeld3
import Derived.LoopTactic
import Derived.Orders
import Derived.Deep.AppendLies
import Derived.Laws.OwnMore
import Derived.Maps.AppendAt
import Derived.Laws.Small
namespace Go.Proofs.YtdaeofhdgabhjaaGreat
open Go.RowKit
inductive PV where
 |int (k:IntKind) (n:Int)
 |bool (b:Bool)
 |str (s:ByteArray)
 |agg (l:List PV)
 |tup (l:List PV)
 |sl (n:Nat) (cells:List PV)
 |pro (cells:List PV) (off:Nat)
 |fn (f:Fn) (first caps:List PV)
deriving Inhabited
abbrev cE:=Nat->Nat->Value->Prop
def qE(vs:List Value):Prop:=∀u∈vs,u.oneCell'=true
mutual
def bF(C:cE):PV->Value->Prop
 | .int k n,v=>v= .int k n
 | .bool b,v=>v= .bool b
 | .str s,v=>v= .string s
 | .agg l,v=>∃vs:List Value,v= .agg vs.toArray/\cG C l vs/\qE vs
 | .tup l,v=>∃vs:List Value,v= .tuple vs.toArray/\cG C l vs
 | .sl n cs,v=>∃a c,v= .slice a n c/\n<=c/\(a=none->c=0/\cs=[])/\∀ad,a=some ad->(0<n->ad.spot=none)/\eW C cs ad.block ad.off
 | .pro cs off,v=>∃b o,v= .pointer (some ⟨b,o+off,none⟩)/\eW C cs b o
 | .fn f l1 l2,v=>∃vs1 vs2:List Value,v= .func f vs1.toArray vs2.toArray/\cG C l1 vs1/\cG C l2 vs2
def cG(C:cE):List PV->List Value->Prop
 |[],vs=>vs=[]
 |x::l,vs=>∃v r,vs=v::r/\bF C x v/\cG C l r
def eW(C:cE):List PV->Nat->Nat->Prop
 |[],_,_=>True
 |x::l,b,o=>(∃v,C b o v/\v.oneCell'=true/\bF C x v)/\eW C l b (o+1)
end
section
variable {C C':cE}
mutual
theorem bF.mono(h:∀b o v,C b o v->C' b o v):∀(x:PV) (v:Value),bF C x v->bF C' x v
 | .int ..,v,hx=>by unfold bF at*;exact hx
 | .bool ..,v,hx=>by unfold bF at*;exact hx
 | .str ..,v,hx=>by unfold bF at*;exact hx
 | .agg l,v,hx=>by unfold bF at*;obtain⟨vs,h1,h2,h3⟩:=hx;exact⟨vs,h1,cG.mono h l vs h2,h3⟩
 | .tup l,v,hx=>by unfold bF at*;obtain⟨vs,h1,h2⟩:=hx;exact⟨vs,h1,cG.mono h l vs h2⟩
 | .sl n cs,v,hx=>by
   unfold bF at*;obtain⟨a,c,h1,h2,h3,h4⟩:=hx;exact⟨a,c,h1,h2,h3,fun ad e=>⟨(h4 ad e).1,eW.mono h cs _ _ (h4 ad e).2⟩⟩
 | .pro cs off,v,hx=>by unfold bF at*;obtain⟨b,o,h1,h2⟩:=hx;exact⟨b,o,h1,eW.mono h cs _ _ h2⟩
 | .fn f l1 l2,v,hx=>by unfold bF at*;obtain⟨a,b,h1,h2,h3⟩:=hx;exact⟨a,b,h1,cG.mono h l1 a h2,cG.mono h l2 b h3⟩
theorem cG.mono(h:∀b o v,C b o v->C' b o v):∀(l:List PV) (vs:List Value),cG C l vs->cG C' l vs
 |[],vs,hx=>by unfold cG at*;exact hx
 |x::l,vs,hx=>by unfold cG at*;obtain⟨v,r,h1,h2,h3⟩:=hx;exact⟨v,r,h1,bF.mono h x v h2,cG.mono h l r h3⟩
theorem eW.mono(h:∀b o v,C b o v->C' b o v):∀(l:List PV) (b o:Nat),eW C l b o->eW C' l b o
 |[],b,o,hx=>by unfold eW;trivial
 |x::l,b,o,hx=>by
  unfold eW at*;obtain⟨⟨v,h1,h2,h3⟩,h4⟩:=hx;exact⟨⟨v,h _ _ _ h1,h2,bF.mono h x v h3⟩,eW.mono h l b (o+1) h4⟩
end
theorem cG.length:∀(l:List PV) (vs:List Value),cG C l vs->vs.length=l.length
 |[],vs,h=>by unfold cG at h;subst h;rfl
 |x::l,vs,h=>by unfold cG at h;obtain⟨v,r,rfl,_,h3⟩:=h;simp[cG.length l r h3]
theorem cG.get:∀(l:List PV) (vs:List Value),cG C l vs->∀(i:Nat) x,l[i]? =some x->∃v,vs[i]? =some v/\bF C x v
 |[],vs,h,i,x,hi=>by simp at hi
 |y::l,vs,h,0,x,hi=>by unfold cG at h;obtain⟨v,r,rfl,h2,h3⟩:=h;simp at hi;subst hi;exact⟨v,rfl,h2⟩
 |y::l,vs,h,i+1,x,hi=>by
  unfold cG at h;obtain⟨v,r,rfl,h2,h3⟩:=h;exact cG.get l r h3 i x (by simpa using hi)
theorem cG.of:∀(l:List PV) (vs:List Value),vs.length=l.length->(∀(i:Nat) x,l[i]? =some x->∃v,vs[i]? =some v/\bF C x v)->cG C l vs
 |[],vs,hl,h=>by unfold cG;exact List.length_eq_zero_iff.1 hl
 |y::l,[],hl,h=>by simp at hl
 |y::l,v::r,hl,h=>by
  unfold cG;obtain⟨v',h1,h2⟩:=h 0 y rfl;simp at h1;subst h1;exact⟨v,r,rfl,h2,cG.of l r (by simpa using hl) (fun i x hi=>h (i+1) x (by simpa using hi))⟩
theorem eW.get:∀(l:List PV) (b o:Nat),eW C l b o->∀(i:Nat) x,l[i]? =some x->∃v,C b (o+i) v/\v.oneCell'=true/\bF C x v
 |[],b,o,h,i,x,hi=>by simp at hi
 |y::l,b,o,h,0,x,hi=>by unfold eW at h;simp at hi;subst hi;exact h.1
 |y::l,b,o,h,i+1,x,hi=>by
  unfold eW at h;have:=eW.get l b (o+1) h.2 i x (by simpa using hi)
  rwa[show o+1+i=o+(i+1) by omega]at this
theorem eW.of:∀(l:List PV) (b o:Nat),(∀(i:Nat) x,l[i]? =some x->∃v,C b (o+i) v/\v.oneCell'=true/\bF C x v)->eW C l b o
 |[],b,o,h=>by unfold eW;trivial
 |y::l,b,o,h=>by
  unfold eW;refine⟨h 0 y rfl,eW.of l b (o+1) (fun i x hi=> ?_)⟩
  have:=h (i+1) x (by simpa using hi)
  rwa[show o+(i+1)=o+1+i by omega]at this
theorem eW.drop{l:List PV}{b o:Nat}(h:eW C l b o)(k:Nat):eW C (l.drop k) b (o+k):=
 eW.of _ _ _ fun i x hi=>by
  rw[List.getElem?_drop]at hi;have:=eW.get l b o h (k+i) x hi;rwa[show o+(k+i)=o+k+i by omega]at this
theorem eW.take{l:List PV}{b o:Nat}(h:eW C l b o)(k:Nat):eW C (l.take k) b o:=
 eW.of _ _ _ fun i x hi=>by
  rw[List.getElem?_take]at hi;split at hi
  ·exact eW.get l b o h i x hi
  ·cases hi
end
inductive AV where
 |any
 |undef
 |nil
 |p (x:PV)
 |ptr (s off:Nat)
 |own (s o n:Nat)
 |agg (l:List AV)
 |tup (l:List AV)
 |fn (f:Fn) (first caps:List AV)
deriving Inhabited
abbrev Ren:=Nat->Option (Option Nat×Nat)
mutual
def aO(ρ:Ren)(C:cE):AV->Value->Prop
 | .any,_=>True
 | .undef,v=>v=Go.undef
 | .nil,v=>v= .slice none 0 0
 | .p x,v=>bF C x v
 | .ptr s off,v=>∃b c,ρ s=some (some b,c)/\v= .pointer (some ⟨b,off,none⟩)
 | .own s o n,v=>∃q c,ρ s=some (q,c)/\((q=none/\v= .slice none 0 0/\n=0/\o=0)\/∃b o' c',q=some b/\v= .slice (some ⟨b,o',none⟩) n c'/\n<=c'/\(n≠0->o'=o)/\(o=0->o'=0/\c'=c))
 | .agg l,v=>∃vs:List Value,v= .agg vs.toArray/\aZ ρ C l vs/\qE vs
 | .tup l,v=>∃vs:List Value,v= .tuple vs.toArray/\aZ ρ C l vs
 | .fn f l1 l2,v=>∃vs1 vs2:List Value,v= .func f vs1.toArray vs2.toArray/\aZ ρ C l1 vs1/\aZ ρ C l2 vs2
def aZ(ρ:Ren)(C:cE):List AV->List Value->Prop
 |[],vs=>vs=[]
 |x::l,vs=>∃v r,vs=v::r/\aO ρ C x v/\aZ ρ C l r
end
section
variable {C C':cE} {ρ ρ':Ren}
mutual
theorem aO.mono(hr:∀s q,ρ s=some q->ρ' s=some q)(h:∀b o v,C b o v->C' b o v):∀(x:AV) (v:Value),aO ρ C x v->aO ρ' C' x v
 | .any,v,hx=>by unfold aO;trivial
 | .undef,v,hx=>by unfold aO at*;exact hx
 | .nil,v,hx=>by unfold aO at*;exact hx
 | .p x,v,hx=>by unfold aO at*;exact bF.mono h x v hx
 | .ptr ..,v,hx=>by unfold aO at*;obtain⟨b,c,h1,h2⟩:=hx;exact⟨b,c,hr _ _ h1,h2⟩
 | .own ..,v,hx=>by unfold aO at*;obtain⟨q,c,h1,h2⟩:=hx;exact⟨q,c,hr _ _ h1,h2⟩
 | .agg l,v,hx=>by unfold aO at*;obtain⟨vs,h1,h2,h3⟩:=hx;exact⟨vs,h1,aZ.mono hr h l vs h2,h3⟩
 | .tup l,v,hx=>by unfold aO at*;obtain⟨vs,h1,h2⟩:=hx;exact⟨vs,h1,aZ.mono hr h l vs h2⟩
 | .fn f l1 l2,v,hx=>by unfold aO at*;obtain⟨a,b,h1,h2,h3⟩:=hx;exact⟨a,b,h1,aZ.mono hr h l1 a h2,aZ.mono hr h l2 b h3⟩
theorem aZ.mono(hr:∀s q,ρ s=some q->ρ' s=some q)(h:∀b o v,C b o v->C' b o v):∀(l:List AV) (vs:List Value),aZ ρ C l vs->aZ ρ' C' l vs
 |[],vs,hx=>by unfold aZ at*;exact hx
 |x::l,vs,hx=>by unfold aZ at*;obtain⟨v,r,h1,h2,h3⟩:=hx;exact⟨v,r,h1,aO.mono hr h x v h2,aZ.mono hr h l r h3⟩
end
theorem aZ.length:∀(l:List AV) (vs:List Value),aZ ρ C l vs->vs.length=l.length
 |[],vs,h=>by unfold aZ at h;subst h;rfl
 |x::l,vs,h=>by unfold aZ at h;obtain⟨v,r,rfl,_,h3⟩:=h;simp[aZ.length l r h3]
theorem aZ.get:∀(l:List AV) (vs:List Value),aZ ρ C l vs->∀(i:Nat) x,l[i]? =some x->∃v,vs[i]? =some v/\aO ρ C x v
 |[],vs,h,i,x,hi=>by simp at hi
 |y::l,vs,h,0,x,hi=>by unfold aZ at h;obtain⟨v,r,rfl,h2,h3⟩:=h;simp at hi;subst hi;exact⟨v,rfl,h2⟩
 |y::l,vs,h,i+1,x,hi=>by
  unfold aZ at h;obtain⟨v,r,rfl,h2,h3⟩:=h;exact aZ.get l r h3 i x (by simpa using hi)
theorem aZ.of:∀(l:List AV) (vs:List Value),vs.length=l.length->(∀(i:Nat) x,l[i]? =some x->∃v,vs[i]? =some v/\aO ρ C x v)->aZ ρ C l vs
 |[],vs,hl,h=>by unfold aZ;exact List.length_eq_zero_iff.1 hl
 |y::l,[],hl,h=>by simp at hl
 |y::l,v::r,hl,h=>by
  unfold aZ;obtain⟨v',h1,h2⟩:=h 0 y rfl;simp at h1;subst h1;exact⟨v,r,rfl,h2,aZ.of l r (by simpa using hl) (fun i x hi=>h (i+1) x (by simpa using hi))⟩
end
structure Ob where
 ty:TypeId
 esz:Nat
 cells:List AV
deriving Inhabited
def aY(C0:cE)(B:Nat)(w:World)(ρ:Ren)(g:Nat->Option Ob):cE:=fun b o v=>w.cell? ⟨b,o,none⟩=some v/\(∀s c,ρ s=some (some b,c)->g s=none)/\(B<=b\/C0 b o v)
structure ObRep(ρ:Ren)(C:cE)(w:World)(b c:Nat)(ob:Ob)(arr:Array Value):Prop where
 blk:w.heap[b]? =some (.cells arr ob.ty (0,0))
 box:ob.esz=0->arr.size=ob.cells.length
 row:ob.esz≠0->arr.size=c*ob.esz/\ob.cells.length<=arr.size/\c<=maxLen
 cells:∀(i:Nat) x,ob.cells[i]? =some x->∃v,arr[i]? =some v/\v.oneCell'=true/\aO ρ C x v
structure StR(C0:cE)(ρ:Ren)(g:Nat->Option Ob)(w:World)(B:Nat):Prop where
 ob:∀s o,g s=some o->∃q c,ρ s=some (q,c)/\((q=none/\o.esz≠0/\o.cells=[]/\c=0)\/∃b arr,q=some b/\B<=b/\ObRep ρ (aY C0 B w ρ g) w b c o arr)
 inj:∀s s' o o' b c c',g s=some o->g s'=some o'->ρ s=some (some b,c)->ρ s'=some (some b,c')->s=s'
theorem ObRep.lt{ρ:Ren}{C:cE}{w:World}{b c:Nat}{ob:Ob}{arr:Array Value}(h:ObRep ρ C w b c ob arr):b<w.heap.size:=by
 rcases Nat.lt_or_ge b w.heap.size with hlt|hge
 ·exact hlt
 ·have:=h.blk;rw[Array.getElem?_eq_none hge]at this;cases this
theorem ObRep.cell{ρ:Ren}{C:cE}{w:World}{b c:Nat}{ob:Ob}{arr:Array Value}(h:ObRep ρ C w b c ob arr)(i:Nat):w.cell? ⟨b,i,none⟩=arr[i]? :=cell_of_row w b i arr ob.ty (0,0) h.blk
theorem ObRep.frozen{ρ:Ren}{C:cE}{w:World}{b c:Nat}{ob:Ob}{arr:Array Value}(h:ObRep ρ C w b c ob arr)(i:Nat):w.frozen? ⟨b,i,none⟩=false:=by
 simp[World.frozen?,h.blk]
theorem StR.at{C0:cE}{ρ:Ren}{g:Nat->Option Ob}{w:World}{B s b c:Nat}{o:Ob}(h:StR C0 ρ g w B)(hg:g s=some o)(hr:ρ s=some (some b,c)):B<=b/\∃arr,ObRep ρ (aY C0 B w ρ g) w b c o arr:=by
 obtain⟨q,c',h1,h2⟩:=h.ob s o hg;rw[hr]at h1;cases h1;rcases h2 with⟨h2,_⟩|⟨b',arr,h2,h3,h4⟩
 ·cases h2
 ·cases h2;exact⟨h3,arr,h4⟩
end Go.Proofs.YtdaeofhdgabhjaaGreat
namespace Go.Proofs.YtdaeofhdgabhjaaGreat
open Go.RowKit
structure GrD where
 n:Nat
 os:Array Obj
instance:Nonempty GrD:=⟨⟨0, #[]⟩⟩
def grD(w:World)(n:Nat)(os:Array Obj):World:={w with heap:=w.heap++os,drawn:=n}
theorem Nf{w w':World}(h:Below w.heap.size w w'):∃p:GrD,w'=grD w p.n p.os:=by
 refine⟨⟨w'.drawn,w'.heap.extract w.heap.size w'.heap.size⟩,?_⟩;obtain⟨h1,h2,h3,h4,h5⟩:=h;have hh:w'.heap=w.heap++w'.heap.extract w.heap.size w'.heap.size:=by
  apply Array.ext_getElem?;intro i;by_cases hi:i<w.heap.size
  ·rw[h5 i hi,Array.getElem?_append_left hi]
  ·rw[Array.getElem?_append_right (by omega),Array.getElem?_extract]
   by_cases h6:i<w'.heap.size
   ·rw[if_pos (by omega)];congr 1;omega
   ·rw[if_neg (by omega),Array.getElem?_eq_none (by omega)]
 unfold grD;cases w';cases w;simp only[World.mk.injEq]at*;exact⟨hh,h2,trivial,h1,h3⟩
theorem Below.then_{W w1 w2:World}(h1:Below W.heap.size W w1)(h2:Below w1.heap.size w1 w2):Below W.heap.size W w2:=h1.trans (h2.mono h1.size)
def Blk(w:World)(g:Nat)(t:TypeId)(cs:Array Value):Prop:=w.heap[g]? =some (.cells cs t (0,0))
section
variable {w w':World} {g:Nat} {t:TypeId} {cs:Array Value}
theorem Blk.lt(h:Blk w g t cs):g<w.heap.size:=by
 rcases Nat.lt_or_ge g w.heap.size with hlt|hge
 ·exact hlt
 ·unfold Blk at h;rw[Array.getElem?_eq_none hge]at h;cases h
theorem Blk.cell(h:Blk w g t cs)(i:Nat):w.cell? ⟨g,i,none⟩=cs[i]? :=cell_of_row w g i cs t (0,0) h
theorem Blk.frozen(h:Blk w g t cs)(i:Nat):w.frozen? ⟨g,i,none⟩=false:=by
 unfold Blk at h;simp[World.frozen?,h]
theorem Blk.new(w:World)(t:TypeId)(cs:Array Value):Blk (w.alloc (.cells cs t)) w.heap.size t cs:=heap_alloc_new w _
theorem Blk.drew(h:Blk w g t cs):Blk w.drew g t cs:=h
theorem Blk.alloc(h:Blk w g t cs)(o:Obj):Blk (w.alloc o) g t cs:=(Below.heap_alloc w o g h.lt).trans h
theorem Blk.rE(h:Blk w g t cs)(i:Nat)(u:Value):Blk (w.setCell ⟨g,i,none⟩ u) g t (cs.setIfInBounds i u):=by
 unfold Blk at h|-;simp[World.setCell,Array.getElem?_modify,h]
theorem Blk.far(h:Blk w g t cs){p:Addr}(hp:g≠p.block)(u:Value):Blk (w.setCell p u) g t cs:=(Below.heap_setCell w p u g hp).trans h
theorem Blk.below{B:Nat}(h:Blk w g t cs)(hb:Below B w w')(hg:g<B):Blk w' g t cs:=(hb.block g hg).trans h
theorem Blk.then_(h:Blk w g t cs)(hb:Below w.heap.size w w'):Blk w' g t cs:=h.below hb h.lt
end
end Go.Proofs.YtdaeofhdgabhjaaGreat
namespace Go.Proofs.YtdaeofhdgabhjaaGreat
open Go.RowKit
theorem vF:∀(l:List Bool) (i:Nat),l[i]? =some false->(l.set i true).count false+1=l.count false
 |[],i,h=>by simp at h
 |b::l,0,h=>by
  simp at h;subst h;simp
 |b::l,i+1,h=>by
  have ih:=vF l i (by simpa using h)
  simp only[List.set_cons_succ,List.count_cons];omega
theorem Io{P:Program}{ops:Array Oper}{Q:Exit->Act->World->Prop}
  (hac:∀(i:Nat) (o:Oper),ops[i]? =some o->∀e∈o.after.toList,Region.binds .any e=true->e.on<i)
  (Inv:(Nat->Bool)->Act->World->Prop)
  (hstep:∀(i:Nat) (o:Oper) (D:Nat->Bool) (a:Act) (w:World),ops[i]? =some o->Inv D a w->D i=false->(∀e∈o.after.toList,Region.binds .any e=true->D e.on=true)->
    wpOp P ops Q i (fun a' w'=>Inv (fun j=>if j=i then true else D j) a' w') a w)
  (hend:∀(D:Nat->Bool) (a:Act) (w:World),Inv D a w->(∀i,i<ops.size->D i=true)->Q .normal a w):
  ∀(fuel:Nat) (L:Array Bool) (a:Act) (w:World),L.size=ops.size->L.toList.count false<=fuel->Inv (fun j=>L.getD j false) a w->wpAny P .any ops Q fuel L a w:=by
 have key:∀(L:Array Bool),L.size=ops.size->Region.ready .any ops L=[]->∀i,i<ops.size->L.getD i false=true:=by
  intro L hL hr i;induction i using Nat.strongRecOn with
  |ind i ih=>
   intro hi;rcases Bool.eq_false_or_eq_true (L.getD i false)with h|h
   ·exact h
   ·exfalso;have hmem:i∈Region.ready .any ops L:=by
     unfold Region.ready;rw[List.mem_filter];refine⟨List.mem_range.2 hi,?_⟩;have h1:L.getD i true=false:=by
      rw[Array.getD_eq_getD_getElem?,Array.getElem?_eq_getElem (by omega)]at h|-
      exact h
     obtain⟨o,ho⟩:∃o,ops[i]? =some o:=⟨_,Array.getElem?_eq_getElem hi⟩;rw[h1,ho];simp only[Bool.not_false,Bool.true_and,Option.map_some,Option.getD_some];rw[Array.all_eq_true'];intro e he;rcases Bool.eq_false_or_eq_true (Region.binds .any e)with hb|hb
     ·have:=ih e.on (hac i o ho e (Array.mem_toList_iff.2 he) hb) (by have:=hac i o ho e (Array.mem_toList_iff.2 he) hb;omega)
      rw[hb,this];rfl
     ·rw[hb];rfl
    rw[hr]at hmem;cases hmem
 intro fuel;induction fuel with
 |zero=>
  intro L a w hL hc hI;have hall:∀i,i<ops.size->L.getD i false=true:=by
   intro i hi;rcases Bool.eq_false_or_eq_true (L.getD i false)with h|h
   ·exact h
   ·exfalso;have h0:L.toList.count false=0:=by omega
    rw[List.count_eq_zero]at h0;apply h0;rw[Array.getD_eq_getD_getElem?,Array.getElem?_eq_getElem (by omega)]at h
    simp at h;rw[<-h];exact Array.mem_toList_iff.2 (Array.getElem_mem _)
  refine⟨?_,hend _ a w hI hall⟩;unfold Region.ready;rw[List.filter_eq_nil_iff];intro i hi;have hi':=List.mem_range.1 hi;have:=hall i hi';rw[Array.getD_eq_getD_getElem?,Array.getElem?_eq_getElem (by omega)]at this
  have h2:L.getD i true=true:=by
   rw[Array.getD_eq_getD_getElem?,Array.getElem?_eq_getElem (by omega)];exact this
  rw[h2];simp
 |succ fuel ih=>
  intro L a w hL hc hI;refine⟨fun hr=>hend _ a w hI (key L hL hr),?_⟩
  intro i hi;unfold Region.ready at hi;rw[List.mem_filter]at hi;obtain⟨hi1,hi2⟩:=hi;have hlt:=List.mem_range.1 hi1;obtain⟨o,ho⟩:∃o,ops[i]? =some o:=⟨_,Array.getElem?_eq_getElem hlt⟩;rw[ho]at hi2;simp only[Option.map_some,Option.getD_some,Bool.and_eq_true,Bool.not_eq_true']at hi2;obtain⟨hf,hall⟩:=hi2;have hLi:L[i]? =some false:=by
   rw[Array.getD_eq_getD_getElem?,Array.getElem?_eq_getElem (by omega)]at hf
   rw[Array.getElem?_eq_getElem (by omega)]
   simpa using hf
  have hD:L.getD i false=false:=by rw[Array.getD_eq_getD_getElem?,hLi];rfl
  have hpre:∀e∈o.after.toList,Region.binds .any e=true->L.getD e.on false=true:=by
   intro e he hb;rw[Array.all_eq_true']at hall;have:=hall e (Array.mem_toList_iff.1 he);rw[hb]at this;simpa using this
  refine wpOp_mono ?_ (hstep i o _ a w ho hI hD hpre);intro a' w' hI';refine ih (L.setIfInBounds i true) a' w' (by simpa using hL) ?_ ?_
  ·have:=vF L.toList i (by simpa using hLi)
   rw[Array.toList_setIfInBounds];omega
  ·have e:(fun j=>(L.setIfInBounds i true).getD j false)=(fun j=>if j=i then true else L.getD j false):=by
    funext j
    rw[Array.getD_eq_getD_getElem?,Array.getD_eq_getD_getElem?,Array.getElem?_setIfInBounds];by_cases h:i=j
    ·subst h;rw[if_pos rfl,if_pos (by omega),if_pos rfl];rfl
    ·rw[if_neg h,if_neg (fun h'=>h h'.symm)]
   rw[e];exact hI'
theorem Hu{P:Program}{id:Nat}{ops:Array Oper}{Q:Exit->Act->World->Prop}{a0:Act}{w0:World}(hm:P.follows .mixedOrders=true)
  (hac:∀(i:Nat) (o:Oper),ops[i]? =some o->∀e∈o.after.toList,Region.binds .any e=true->e.on<i)
  (Inv:(Nat->Bool)->Act->World->Prop) (h0:Inv (fun _=>false) a0 w0.drew)
  (hstep:∀(i:Nat) (o:Oper) (D:Nat->Bool) (a:Act) (w:World),ops[i]? =some o->Inv D a w->D i=false->(∀e∈o.after.toList,Region.binds .any e=true->D e.on=true)->
    wpOp P ops Q i (fun a' w'=>Inv (fun j=>if j=i then true else D j) a' w') a w)
  (hend:∀(D:Nat->Bool) (a:Act) (w:World),Inv D a w->(∀i,i<ops.size->D i=true)->Q .normal a w):
  (Code.region id ops true).wp P Q a0 w0:=by
 refine wp_region_any hm (Io hac Inv hstep hend _ _ _ _ (by simp) ?_ ?_)
 ·simp
 ·have e:(fun j=>(Array.replicate ops.size false).getD j false)=(fun _=>false):=by
   funext j
   rw[Array.getD_eq_getD_getElem?,Array.getElem?_replicate];split<;>rfl
  rw[e];exact h0
def bI(V:Nat->Value):Operand->Value
 | .tmp t=>V t
 | .const v=>v
 | .global g=> .pointer (some ⟨g,0,none⟩)
 | .func f=> .func (.func f) #[] #[]
def cC(P:Program)(o:Oper)(V:Nat->Value)(w:World)(K:Value->World->Prop):Prop:=
 match(execOp (bI V) o).run P w with
 | .ok (.value v) w'=>K v w'
 | .ok .skip w'=>K undef w'
 | .ok (.enter f args) w'=>Calls P f args w' fun e w''=>∃v,e= .returned v/\K v w''
 |_=>False
def eL(a0:Act)(dsts:List Nat)(V:Nat->Value):Act:=dsts.foldl (fun a s=>a.put (some s) (V s)) a0
theorem mT(V:Nat->Value):∀(dsts:List Nat) (a0:Act),(∀s∈dsts,s<a0.tmps.size)->
  (eL a0 dsts V).defers=a0.defers/\(eL a0 dsts V).tmps.size=a0.tmps.size/\∀s,s<a0.tmps.size->(eL a0 dsts V).tmps.getD s undef=if s∈dsts then V s else a0.tmps.getD s undef
 |[],a0,_=>⟨rfl,rfl,fun s _=>by simp[eL]⟩
 |d::dsts,a0,h=>by
  have hs:(a0.put (some d) (V d)).tmps.size=a0.tmps.size:=by simp[Act.put]
  obtain⟨h1,h2,h3⟩:=mT V dsts (a0.put (some d) (V d)) (fun s hs'=>by rw[hs];exact h s (List.mem_cons_of_mem _ hs'))
  refine⟨h1,h2.trans hs,?_⟩;intro s hlt;have:=h3 s (by rw[hs];exact hlt)
  show(eL (a0.put (some d) (V d)) dsts V).tmps.getD s undef=_;rw[this];by_cases hm:s∈dsts
  ·rw[if_pos hm,if_pos (List.mem_cons_of_mem _ hm)]
  ·rw[if_neg hm];have hd:=h d List.mem_cons_self;by_cases e:s=d
   ·subst e;rw[if_pos List.mem_cons_self];simp[Act.put,hlt]
   ·rw[if_neg (by simp[e,hm])]
    simp only[Act.put,Array.getD_eq_getD_getElem?,Array.getElem?_setIfInBounds];rw[if_neg (fun e'=>e e'.symm)]
theorem Act.eval_evalV(a:Act):a.eval=bI (fun s=>a.tmps.getD s undef):=by
 funext x
 cases x<;>rfl
def gdV(ops:Array Oper)(V:Nat->Value)(j:Nat):Option Bool:=
 match(ops[j]?).bind (·.dst)with
 |some d=>(match V d with| .bool b=>some b|_=>none)
 |none=>none
theorem qN(ops:Array Oper)(t:Array Value):yielded ops t=gdV ops (fun s=>t.getD s undef):=by
 funext j
 unfold yielded gdV;cases h:(ops[j]?).bind (·.dst)with
 |none=>rfl
 |some d=>
  simp only[Option.bind_some,Array.getD_eq_getD_getElem?];cases ht:t[d]? with
  |none=>rfl
  |some v=>cases v<;>rfl
theorem Bp{P:Program}{id:Nat}{ops:Array Oper}{Q:Exit->Act->World->Prop}{a0:Act}{w0:World}(hm:P.follows .mixedOrders=true)
  (dsts:List Nat)
  (hok:((List.range ops.size).all fun i=>((ops[i]?).map fun o=>(o.after.toList.all fun e=> !Region.binds .any e||decide (e.on<i))&&(match o.dst with|some d=>dsts.contains d|none=>true)).getD true)=true)
  (hds:∀s∈dsts,s<a0.tmps.size)
  (F:(Nat->Bool)->(Nat->Value)->World->Prop) (h0:F (fun _=>false) (fun s=>a0.tmps.getD s undef) w0.drew)
  (hstep:∀(i:Nat) (o:Oper) (D:Nat->Bool) (V:Nat->Value) (w:World),ops[i]? =some o->F D V w->D i=false->(∀e∈o.after.toList,Region.binds .any e=true->D e.on=true)->
    (∀s,s∉dsts->V s=a0.tmps.getD s undef)->
    if Region.wanted o (gdV ops V)=true then
     cC P o V w (fun v w'=>F (fun j=>if j=i then true else D j) (match o.dst with|some d=>fun s=>if s=d then v else V s|none=>V) w')
    else F (fun j=>if j=i then true else D j) (match o.dst with|some d=>fun s=>if s=d then undef else V s|none=>V) w)
  (hend:∀(D:Nat->Bool) (V:Nat->Value) (w:World),F D V w->(∀i,i<ops.size->D i=true)->Q .normal (eL a0 dsts V) w):
  (Code.region id ops true).wp P Q a0 w0:=by
 have hops:∀(i:Nat) (o:Oper),ops[i]? =some o->(∀e∈o.after.toList,Region.binds .any e=true->e.on<i)/\(∀d,o.dst=some d->d∈dsts):=by
  intro i o ho;have hi:i<ops.size:=(Array.getElem?_eq_some_iff.1 ho).1;rw[List.all_eq_true]at hok;have:=hok i (List.mem_range.2 hi);rw[ho]at this;simp only[Option.map_some,Option.getD_some,Bool.and_eq_true]at this;obtain⟨g2,g3⟩:=this;refine⟨?_,?_⟩
  ·intro e he hb;rw[List.all_eq_true]at g2;have:=g2 e he;rw[hb]at this;simpa using this
  ·intro d hd;rw[hd]at g3;simpa using g3
 refine Hu hm (fun i o ho=>(hops i o ho).1) (fun D a w=>a.defers=a0.defers/\a.tmps.size=a0.tmps.size/\(∀s,s∉dsts->a.tmps.getD s undef=a0.tmps.getD s undef)/\F D (fun s=>a.tmps.getD s undef) w) ⟨rfl,rfl,fun _ _=>rfl,h0⟩ ?_ ?_
 ·intro i o D a w ho ⟨i1,i2,i3,i4⟩ hD hpre;obtain⟨_,hdst⟩:=hops i o ho;have hrun:=hstep i o D (fun s=>a.tmps.getD s undef) w ho i4 hD hpre i3
  have hput:∀(v:Value) (w':World),F (fun j=>if j=i then true else D j) (match o.dst with|some d=>fun s=>if s=d then v else a.tmps.getD s undef|none=>fun s=>a.tmps.getD s undef) w'->
    (a.put o.dst v).defers=a0.defers/\(a.put o.dst v).tmps.size=a0.tmps.size/\(∀s,s∉dsts->(a.put o.dst v).tmps.getD s undef=a0.tmps.getD s undef)/\F (fun j=>if j=i then true else D j) (fun s=>(a.put o.dst v).tmps.getD s undef) w':=by
   intro v w' hF;cases hd:o.dst with
   |none=>rw[hd]at hF;exact⟨i1,i2,i3,hF⟩
   |some d=>
    rw[hd]at hF;have hdm:=hdst d hd;have hlt:d<a.tmps.size:=by rw[i2];exact hds d hdm
    have hget:∀s,(a.put (some d) v).tmps.getD s undef=if s=d then v else a.tmps.getD s undef:=by
     intro s;simp only[Act.put,Array.getD_eq_getD_getElem?,Array.getElem?_setIfInBounds];by_cases e:d=s
     ·subst e;rw[if_pos rfl,if_pos hlt,if_pos rfl];rfl
     ·rw[if_neg e,if_neg (fun e'=>e e'.symm)]
    refine⟨i1,by simpa[Act.put]using i2,?_,?_⟩
    ·intro s hs;rw[hget,if_neg (fun e=>hs (by rw[e];exact hdm))]
     exact i3 s hs
    ·have e:(fun s=>(a.put (some d) v).tmps.getD s undef)=(fun s=>if s=d then v else a.tmps.getD s undef):=funext hget
     rw[e];exact hF
  unfold wpOp;rw[ho];simp only[];rw[qN];by_cases hw:Region.wanted o (gdV ops fun s=>a.tmps.getD s undef)=true
  ·rw[if_pos hw]at hrun|-;refine .inl ?_;unfold Oper.wp;rw[Act.eval_evalV];unfold cC at hrun;cases hr:(execOp (bI fun s=>a.tmps.getD s undef) o).run P w with
   |halt x w'=>rw[hr]at hrun;exact hrun.elim
   |ok n w'=>
    rw[hr]at hrun;cases n<;>simp only[]at hrun<;>first|exact hrun.elim|skip
    ·exact hput _ _ hrun
    ·exact hput _ _ hrun
    ·rename_i f args;show Calls P f args w' _;refine hrun.mono ?_;rintro e w'' ⟨v,rfl,hK⟩;exact hput _ _ hK
  ·rw[if_neg hw]at hrun|-;exact hput _ _ hrun
 ·intro D a w ⟨i1,i2,i3,i4⟩ hall;have:=hend D _ w i4 hall;obtain⟨p1,p2,p3⟩:=mT (fun s=>a.tmps.getD s undef) dsts a0 hds
  have e:eL a0 dsts (fun s=>a.tmps.getD s undef)=a:=by
   obtain⟨t,df⟩:=a;have ht:(eL a0 dsts (fun s=>t.getD s undef)).tmps=t:=by
    apply Array.ext
    ·rw[p2];exact i2.symm
    ·intro s h1 h2;have h3:=p3 s (by rw[<-i2];exact h2)
     rw[Array.getD_eq_getD_getElem?,Array.getElem?_eq_getElem h1,Option.getD_some]at h3;rw[h3];by_cases hm:s∈dsts
     ·rw[if_pos hm];simp[Array.getD_eq_getD_getElem?,h2]
     ·rw[if_neg hm,<-i3 s hm];simp[Array.getD_eq_getD_getElem?,h2]
   have hdf:(eL a0 dsts (fun s=>t.getD s undef)).defers=df:=p1.trans i1.symm
   show eL a0 dsts (fun s=>t.getD s undef)={tmps:=t,defers:=df}
   cases hp:eL a0 dsts (fun s=>t.getD s undef)with
   |mk t' df'=>
    rw[hp]at ht hdf;have e1:t'=t:=ht;have e2:df'=df:=hdf;rw[e1,e2]
  rw[e]at this;exact this
end Go.Proofs.YtdaeofhdgabhjaaGreat
namespace Go.Proofs.YtdaeofhdgabhjaaGreat
open Go.RowKit
def eM(g:Nat->Option Ob)(W:List (Nat×Option Ob)):Nat->Option Ob:=fun s=>match W.lookup s with|some x=>x|none=>g s
def jX:Value->AV
 | .int k n=> .p (.int k n)
 | .bool b=> .p (.bool b)
 | .string s=> .p (.str s)
 | .slice none 0 0=> .nil
 |_=> .any
theorem He{ρ:Ren}{C:cE}(v:Value):aO ρ C (jX v) v:=by
 unfold jX;split<;>(unfold aO;try unfold bF)<;>first|rfl|trivial
theorem oC{ρ:Ren}{C:cE}:∀(vs:List Value),aZ ρ C (vs.map jX) vs
 |[] =>by simp only[List.map_nil];unfold aZ;rfl
 |v::vs=>by simp only[List.map_cons];unfold aZ;exact⟨v,vs,rfl,He v,oC vs⟩
def cR:List AV->Option (List PV)
 |[] =>some []
 | .p x::l=>(cR l).map (x:: ·)
 |_::_=>none
def iK(l:List AV):AV:=match cR l with|some q=> .p (.agg q)|none=> .agg l
theorem pT{ρ:Ren}{C:cE}:∀{l:List AV} {q:List PV} {vs:List Value},cR l=some q->aZ ρ C l vs->cG C q vs
 |[],q,vs,h,hr=>by simp[cR]at h;subst h;unfold aZ at hr;unfold cG;exact hr
 |x::l,q,vs,h,hr=>by
  unfold cR at h;split at h
  ·rename_i e;cases e
  ·rename_i y l' e;cases e;simp only[Option.map_eq_some_iff]at h;obtain⟨r,h1,rfl⟩:=h;unfold aZ at hr;obtain⟨v,vs',rfl,h2,h3⟩:=hr;unfold aO at h2;unfold cG;exact⟨v,vs',rfl,h2,pT h1 h3⟩
  ·cases h
theorem vV{ρ:Ren}{C:cE}{l:List AV}{vs:List Value}(h:aZ ρ C l vs)(h1:qE vs):aO ρ C (iK l) (.agg vs.toArray):=by
 unfold iK;split
 ·rename_i q hq;unfold aO bF;exact⟨vs,rfl,pT hq h,h1⟩
 ·unfold aO;exact⟨vs,rfl,h,h1⟩
theorem cG.toA{ρ:Ren}{C:cE}:∀{l:List PV} {vs:List Value},cG C l vs->aZ ρ C (l.map .p) vs
 |[],vs,h=>by unfold cG at h;unfold aZ;exact h
 |x::l,vs,h=>by
  unfold cG at h;obtain⟨v,r,rfl,h2,h3⟩:=h;unfold aZ;exact⟨v,r,rfl,by unfold aO;exact h2,cG.toA h3⟩
def kW:Value->AV
 | .agg cs=>if cs.toList.all (·.oneCell')=true then iK (cs.toList.map jX)else .any
 | .tuple vs=>if vs.toList=[]then .undef else .any
 |v=>jX v
theorem Rl{ρ:Ren}{C:cE}(v:Value):aO ρ C (kW v) v:=by
 unfold kW;split
 ·split
  ·rename_i cs h;have:=vV (oC (ρ:=ρ) (C:=C) cs.toList) (fun u hu=>List.all_eq_true.1 h u hu)
   simpa using this
  ·unfold aO;trivial
 ·split
  ·rename_i vs h;unfold aO Go.undef
   congr 1
   exact Array.toList_inj.1 (by simpa using h)
  ·unfold aO;trivial
 ·exact He v
def eG(F:List AV):Operand->AV
 | .tmp t=>F.getD t .any
 | .const v=>kW v
 | .func f=> .p (.fn (.func f) [] [])
 | .global _=> .any
def aU(P:Program)(t:TypeId):Nat:=((P.info? t).map (·.size)).getD 0
def iT(P:Program)(t:TypeId):Bool:=match P.underlying t with|some (.struct _)|some (.array _ _)=>true|_=>false
def tok(P:Program)(t:TypeId):Bool:=(P.info? t).isSome&&(P.underlying t).isSome
def gD(P:Program)(t:TypeId):Option (List AV):=(P.info? t).bind fun i=>i.zero.map fun z=>z.cells.toList.map jX
def gI(P:Program)(t:TypeId):Bool:=((P.info? t).bind fun i=>i.zero.map fun z=>z.cells.toList.all (·.oneCell')&&z.cells.size==i.size).getD false
def fJ(P:Program)(t:TypeId):Option TypeId:=match P.underlying t with|some (.slice e)=>some e|_=>none
def Hq(P:Program)(t:TypeId):Option (Nat×TypeId):=match P.underlying t with|some (.array n e)=>some (n,e)|_=>none
def Sj(P:Program)(t:TypeId):Option IntKind:=match P.underlying t with|some (.int k)=>some k|_=>none
def sB(P:Program)(t:TypeId)(f:Nat):Option (Nat×TypeId):=match P.underlying t with
 |some (.struct fs)=>(fs[f]?).bind fun x=>if aU P x.type=0 then none else some (x.offset,x.type)
 |_=>none
abbrev Res:=AV->List Nat->List (Nat×Option Ob)->Prop
def cI(P:Program)(o:Oper)(E:Operand->AV)(σ:Nat->Option Ob)(n:Nat)(r:AV)(R:List Nat)(W:List (Nat×Option Ob)):Prop:=
 ∀(C0:cE) (ρ:Ren) (g:Nat->Option Ob) (V:Nat->Value) (w:World) (B:Nat),StR C0 ρ g w B->B<=w.heap.size->(∀s∈R,g s=σ s)->ρ n=none->g n=none->
  (∀x∈o.op.operands.toList,aO ρ (aY C0 B w ρ g) (E x) (bI V x))->
  cC P o V w fun v w'=>∃ρ':Ren,(∀s,s≠n->ρ' s=ρ s)/\(∀b o' x,aY C0 B w ρ g b o' x->aY C0 B w' ρ' (eM g W) b o' x)/\
   StR C0 ρ' (eM g W) w' B/\aO ρ' (aY C0 B w' ρ' (eM g W)) r v/\Below B w w'
theorem cI.pure{P:Program}{o:Oper}{E:Operand->AV}{σ:Nat->Option Ob}{n:Nat}{r:AV}{R:List Nat}
  (h:∀(C0:cE) (ρ:Ren) (g:Nat->Option Ob) (V:Nat->Value) (w:World) (B:Nat),StR C0 ρ g w B->(∀s∈R,g s=σ s)->(∀x∈o.op.operands.toList,aO ρ (aY C0 B w ρ g) (E x) (bI V x))->
    cC P o V w fun v w'=>w'=w/\aO ρ (aY C0 B w ρ g) r v):cI P o E σ n r R [] :=by
 intro C0 ρ g V w B hs hB hR hn hg hE;have:=h C0 ρ g V w B hs hR hE;have hmono':∀(K K':Value->World->Prop),(∀v w,K v w->K' v w)->cC P o V w K->cC P o V w K':=by
  intro K K' hk h;unfold cC at h|-;split at h
  ·exact hk _ _ h
  ·exact hk _ _ h
  ·exact h.mono fun e w'' ⟨v,he,hv⟩=>⟨v,he,hk _ _ hv⟩
  ·exact h.elim
 refine hmono' _ _ ?_ this;rintro v w' ⟨rfl,hr⟩;exact⟨ρ,fun _ _=>rfl,fun _ _ _ h=>h,hs,hr,Below.refl _ _⟩
def Wf(P:Program)(t:TypeId)(cs:List PV)(off:Nat)(K:PV->Prop):Prop:=
 tok P t=true/\if iT P t=true then∃l,(cs.drop off).take (aU P t)=l/\l.length=aU P t/\K (.agg l)else∃x,cs[off]? =some x/\K x
def yA(P:Program)(t:TypeId)(cs:List AV)(off:Nat)(K:AV->Prop):Prop:=
 tok P t=true/\if iT P t=true then∃l,(cs.drop off).take (aU P t)=l/\l.length=aU P t/\K (iK l)else∃x,cs[off]? =some x/\K x
theorem vD{P:Program}(w:World)(b o:Nat)(t:TypeId)(ht:tok P t=true)(vs:List Value)(v:Value)
  (h:if iT P t=true then vs.length=aU P t/\w.rangeAt b o vs/\v= .agg vs.toArray else w.cell? ⟨b,o,none⟩=some v):
  (Instr.loadAt t (.pointer (some ⟨b,o,none⟩))).run P w= .ok v w:=by
 unfold tok at ht;simp only[Bool.and_eq_true,Option.isSome_iff_exists]at ht;obtain⟨⟨i,hi⟩,d,hd⟩:=ht;cases hg:iT P t with
 |true=>
  rw[hg,if_pos rfl]at h;obtain⟨h1,h2,rfl⟩:=h;refine run_loadAt_mid w b o t vs d h2 hd ?_ ?_
  ·unfold iT at hg;rw[hd]at hg;unfold TypeDesc.isRow;split at hg<;>simp_all
  ·rw[h1];unfold aU;rw[hi];rfl
 |false=>
  rw[hg]at h;simp only[Bool.false_eq_true,if_false]at h;have:(isAgg t).run P w= .ok false w:=by
   unfold isAgg;rw[Sem.run_bind,run_underlying hd w];unfold iT at hg;rw[hd]at hg;cases d<;>simp_all
  simp[Instr.loadAt,Instr.sureAddr,loadVar,this,h,load,Sem.run]
theorem aAi{P:Program}{o:Oper}{E:Operand->AV}{σ:Nat->Option Ob}{n:Nat}{t:TypeId}{x:Operand}(ho:o.op= .load t x){cs:List PV}{off:Nat}(hx:E x= .p (.pro cs off)){K:PV->Prop}
  (h:Wf P t cs off K):∃r,cI P o E σ n (.p r) [] []/\K r:=by
 obtain⟨ht,h⟩:=h;have key:∀(r:PV),(∀(C:cE) (w:World) (b oo:Nat),(∀b o v,C b o v->w.cell? ⟨b,o,none⟩=some v)->eW C cs b oo->∃v vs,(if iT P t=true then vs.length=aU P t/\w.rangeAt b (oo+off) vs/\v= .agg vs.toArray else w.cell? ⟨b,oo+off,none⟩=some v)/\bF C r v)->
   cI P o E σ n (.p r) [] [] :=by
  intro r hr;refine cI.pure ?_;intro C0 ρ g V w B hs _ hE;have h1:=hE x (by rw[ho];simp[Op.operands])
  rw[hx]at h1;unfold aO bF at h1;obtain⟨b,oo,he,hc⟩:=h1;obtain⟨v,vs,h2,h3⟩:=hr _ w b oo (fun b o v hh=>hh.1) hc
  have:=vD (P:=P) w b (oo+off) t ht vs v h2;unfold cC execOp;simp only[ho,he,Sem.run_bind,this,Result.andThen_ok,Sem.run_pure];exact⟨trivial,by unfold aO;exact h3⟩
 split at h
 ·rename_i hg;obtain⟨l,hl,hlen,hK⟩:=h;refine⟨_,key _ ?_,hK⟩;intro C w b oo hC hc;rw[hg];have hc2:=(hc.drop off).take (aU P t);rw[hl]at hc2;have:∀m,∀l':List PV,l'.length=m->∀o',eW C l' b o'->∃vs:List Value,vs.length=m/\w.rangeAt b o' vs/\cG C l' vs/\qE vs:=by
   intro m;induction m with
   |zero=>intro l' h0 o' _;refine⟨[],rfl,(fun j v hj=>by simp at hj),?_⟩;rw[List.length_eq_zero_iff.1 h0];exact⟨by unfold cG;rfl,fun u hu=>by cases hu⟩
   |succ m ih=>
    intro l' h1 o' h2;cases l' with
    |nil=>simp at h1
    |cons y l'=>
     unfold eW at h2;obtain⟨⟨v,h3,h6,h4⟩,h5⟩:=h2;obtain⟨vs,g1,g2,g3,g4⟩:=ih l' (by simpa using h1) (o'+1) h5
     refine⟨v::vs,by simp[g1],?_,?_,fun u hu=>by rcases List.mem_cons.1 hu with rfl|hu;exact h6;exact g4 u hu⟩
     ·intro j u hj;cases j with
      |zero=>simp at hj;subst hj;exact hC _ _ _ h3
      |succ j=>have:=g2 j u (by simpa using hj);rwa[show o'+1+j=o'+(j+1) by omega]at this
     ·unfold cG;exact⟨v,vs,rfl,h4,g3⟩
  obtain⟨vs,g1,g2,g3,g4⟩:=this _ l rfl _ hc2;refine⟨_,vs,?_,by unfold bF;exact⟨vs,rfl,g3,g4⟩⟩
  rw[if_pos rfl];exact⟨g1.trans hlen,g2,rfl⟩
 ·rename_i hg;obtain⟨y,hy,hK⟩:=h;refine⟨y,key _ ?_,hK⟩;intro C w b oo hC hc;obtain⟨v,h1,_,h2⟩:=eW.get cs b oo hc off y hy;refine⟨v,[],?_,h2⟩;rw[if_neg hg];exact hC _ _ _ h1
theorem Jr{P:Program}{t:TypeId}{ob:Ob}{off:Nat}{K:AV->Prop}(h:yA P t ob.cells off K):∃r,K r/\∀(ρ:Ren) (C:cE) (w:World) (b c:Nat) (arr:Array Value),ObRep ρ C w b c ob arr->
  ∃v,(Instr.loadAt t (.pointer (some ⟨b,off,none⟩))).run P w= .ok v w/\aO ρ C r v:=by
 obtain⟨ht,h⟩:=h;have key:∀(r:AV),(∀(ρ:Ren) (C:cE) (w:World) (b c:Nat) (arr:Array Value),ObRep ρ C w b c ob arr->∃v vs,(if iT P t=true then vs.length=aU P t/\w.rangeAt b off vs/\v= .agg vs.toArray else w.cell? ⟨b,off,none⟩=some v)/\aO ρ C r v)->
   ∀(ρ:Ren) (C:cE) (w:World) (b c:Nat) (arr:Array Value),ObRep ρ C w b c ob arr->∃v,(Instr.loadAt t (.pointer (some ⟨b,off,none⟩))).run P w= .ok v w/\aO ρ C r v:=by
  intro r hr ρ C w b c arr h3;obtain⟨v,vs,h4,h5⟩:=hr _ _ w b c arr h3;exact⟨v,vD (P:=P) w b off t ht vs v h4,h5⟩
 split at h
 ·rename_i hg;obtain⟨l,hl,hlen,hK⟩:=h;refine⟨_,hK,key _ ?_⟩;intro ρ C w b c arr hc;rw[hg];have:∀m,∀l':List AV,l'.length=m->∀o',(∀(i:Nat) x,l'[i]? =some x->∃v,arr[o'+i]? =some v/\v.oneCell'=true/\aO ρ C x v)->∃vs:List Value,vs.length=m/\w.rangeAt b o' vs/\aZ ρ C l' vs/\qE vs:=by
   intro m;induction m with
   |zero=>intro l' h0 o' _;refine⟨[],rfl,(fun j v hj=>by simp at hj),?_⟩;rw[List.length_eq_zero_iff.1 h0];exact⟨by unfold aZ;rfl,fun u hu=>by cases hu⟩
   |succ m ih=>
    intro l' h1 o' h2;cases l' with
    |nil=>simp at h1
    |cons y l'=>
     obtain⟨v,h3,h6,h4⟩:=h2 0 y rfl;obtain⟨vs,g1,g2,g3,g4⟩:=ih l' (by simpa using h1) (o'+1) (fun i x hi=>by
      have:=h2 (i+1) x (by simpa using hi)
      rwa[show o'+(i+1)=o'+1+i by omega]at this)
     refine⟨v::vs,by simp[g1],?_,?_,fun u hu=>by rcases List.mem_cons.1 hu with rfl|hu;exact h6;exact g4 u hu⟩
     ·intro j u hj;cases j with
      |zero=>simp at hj;subst hj;rw[hc.cell];exact h3
      |succ j=>have:=g2 j u (by simpa using hj);rwa[show o'+1+j=o'+(j+1) by omega]at this
     ·unfold aZ;exact⟨v,vs,rfl,h4,g3⟩
  obtain⟨vs,g1,g2,g3,g4⟩:=this _ l rfl off (fun i x hi=>hc.cells _ x (by
   rw[<-hl,List.getElem?_take]at hi;split at hi
   ·rwa[List.getElem?_drop]at hi
   ·cases hi))
  refine⟨_,vs,?_,vV g3 g4⟩;rw[if_pos rfl];exact⟨g1.trans hlen,g2,rfl⟩
 ·rename_i hg;obtain⟨y,hy,hK⟩:=h;refine⟨y,hK,key _ ?_⟩;intro ρ C w b c arr hc;obtain⟨v,h1,_,h2⟩:=hc.cells off y hy;refine⟨v,[],?_,h2⟩;rw[if_neg hg,hc.cell];exact h1
theorem aAj{P:Program}{o:Oper}{E:Operand->AV}{σ:Nat->Option Ob}{n:Nat}{t:TypeId}{x:Operand}(ho:o.op= .load t x){s off:Nat}(hx:E x= .ptr s off){ob:Ob}(hob:σ s=some ob){K:AV->Prop}
  (h:yA P t ob.cells off K):∃r,cI P o E σ n r [s] []/\K r:=by
 obtain⟨r,hK,hr⟩:=Jr h;refine⟨r,cI.pure ?_,hK⟩;intro C0 ρ g V w B hs hR hE;have h1:=hE x (by rw[ho];simp[Op.operands])
 rw[hx]at h1;unfold aO at h1;obtain⟨b,c,he,hv⟩:=h1;obtain⟨_,arr,h3⟩:=hs.at ((hR s (by simp)).trans hob) he
 obtain⟨v,h4,h5⟩:=hr _ _ w b c arr h3;unfold cC execOp;simp only[ho,hv,Sem.run_bind,h4,Result.andThen_ok,Sem.run_pure];exact⟨trivial,h5⟩
end Go.Proofs.YtdaeofhdgabhjaaGreat
namespace Go.Proofs.YtdaeofhdgabhjaaGreat
open Go.RowKit
section
variable {P:Program} {o:Oper} {E:Operand->AV} {σ:Nat->Option Ob} {n:Nat}
theorem cI.val{r:AV}(h:∀(ρ:Ren) (C:cE) (V:Nat->Value) (w:World),(∀x∈o.op.operands.toList,aO ρ C (E x) (bI V x))->
  ∃v,(execOp (bI V) o).run P w= .ok (.value v) w/\aO ρ C r v):cI P o E σ n r [] [] :=by
 refine cI.pure ?_;intro C0 ρ g V w B _ _ hE;obtain⟨v,h1,h2⟩:=h ρ _ V w hE;unfold cC;rw[h1];exact⟨rfl,h2⟩
theorem Ps{x:Operand}(ho:o.op= .move x\/o.op= .assign x):cI P o E σ n (E x) [] [] :=by
 refine cI.val ?_;intro ρ C V w hE;have h1:=hE x (by rcases ho with ho|ho<;>rw[ho] <;>simp[Op.operands])
 refine⟨bI V x,?_,h1⟩;rcases ho with ho|ho<;>(unfold execOp;rw[ho];rfl)
theorem aAx{x:Operand}(ho:o.op= .move x\/o.op= .assign x)(hx:E x= .nil):cI P o E σ n (.p (.sl 0 [])) [] [] :=by
 refine cI.val ?_;intro ρ C V w hE;have h1:=hE x (by rcases ho with ho|ho<;>rw[ho] <;>simp[Op.operands])
 rw[hx]at h1;unfold aO at h1;refine⟨bI V x,?_,?_⟩
 ·rcases ho with ho|ho<;>(unfold execOp;rw[ho];rfl)
 ·rw[h1];unfold aO bF;exact⟨none,0,rfl,Nat.le_refl _,fun _=>⟨rfl,rfl⟩,fun ad e=>by cases e⟩
def Dk(c a b:AV)(K:AV->Prop):Prop:=match c with
 | .p (.bool t)=>K (if t=true then a else b)
 |_=>False
theorem aCp{c a b:Operand}(ho:o.op= .pick c a b){K:AV->Prop}(h:Dk (E c) (E a) (E b) K):∃r,cI P o E σ n r [] []/\K r:=by
 unfold Dk at h;have key:∀t:Bool,E c= .p (.bool t)->cI P o E σ n (if t=true then E a else E b) [] [] :=by
  intro t ht;refine cI.val ?_;intro ρ C V w hE;have h1:=hE c (by rw[ho];simp[Op.operands])
  have h2:=hE a (by rw[ho];simp[Op.operands])
  have h3:=hE b (by rw[ho];simp[Op.operands])
  rw[ht]at h1;unfold aO bF at h1;refine⟨if t then bI V a else bI V b,?_,?_⟩
  ·unfold execOp;rw[ho];simp[h1,asBool]
  ·cases t<;>assumption
 split at h
 ·rename_i t e;exact⟨_,key t e,h⟩
 ·exact h.elim
def aDR(x:AV):Bool:=match x with
 | .ptr .. =>true
 | .p (.pro ..)=>true
 | .fn (.func _) .. =>true
 | .p (.fn (.func _) ..)=>true
 |_=>false
theorem aEu{x:Operand}(ho:o.op= .nilCheck x)(h:aDR (E x)=true):cI P o E σ n (E x) [] [] :=by
 refine cI.val ?_;intro ρ C V w hE;have h1:=hE x (by rw[ho];simp[Op.operands])
 refine⟨bI V x,?_,h1⟩;unfold execOp;rw[ho];unfold aDR at h;split at h
 ·rename_i e;rw[e]at h1;unfold aO at h1;obtain⟨b,c,_,h1⟩:=h1;simp[h1]
 ·rename_i e;rw[e]at h1;unfold aO bF at h1;obtain⟨b,c,h1,_⟩:=h1;simp[h1]
 ·rename_i e;rw[e]at h1;unfold aO at h1;obtain⟨b,c,h1,_⟩:=h1;simp[h1]
 ·rename_i e;rw[e]at h1;unfold aO bF at h1;obtain⟨b,c,h1,_⟩:=h1;simp[h1]
 ·cases h
def aA0(l:List Int):List PV:=l.map (.int .i64)
def Dz(P:Program)(t:TypeId)(m:Nat):Prop:=∀(xs ys:List Int) (x y:Operand) (w:World),xs.length=m->ys.length=m->
 (do eqGuard .eql t x y (.agg (xs.map (Value.int .i64)).toArray) (.agg (ys.map (Value.int .i64)).toArray);binOp .eql t (.agg (xs.map (Value.int .i64)).toArray) (.agg (ys.map (Value.int .i64)).toArray):Sem Value).run P w= .ok (.bool (xs==ys)) w/\
 (do eqGuard .neq t x y (.agg (xs.map (Value.int .i64)).toArray) (.agg (ys.map (Value.int .i64)).toArray);binOp .neq t (.agg (xs.map (Value.int .i64)).toArray) (.agg (ys.map (Value.int .i64)).toArray):Sem Value).run P w= .ok (.bool (xs !=ys)) w
def aA7(P:Program)(t:TypeId):Bool:=match P.underlying t with|some .bool=>true|_=>false
def pJ:List PV->Option (List Int)
 |[] =>some []
 | .int .i64 k::l=>(pJ l).map (k:: ·)
 |_=>none
theorem xH{C:cE}:∀{l:List PV} {xs:List Int} {vs:List Value},pJ l=some xs->cG C l vs->vs=xs.map (Value.int .i64)
 |[],xs,vs,h,hr=>by simp[pJ]at h;subst h;unfold cG at hr;subst hr;rfl
 |x::l,xs,vs,h,hr=>by
  unfold pJ at h;split at h
  ·rename_i e;cases e
  ·rename_i k l' e;cases e;simp only[Option.map_eq_some_iff]at h;obtain⟨r,h1,rfl⟩:=h;unfold cG at hr;obtain⟨v,vs',rfl,h2,h3⟩:=hr;unfold bF at h2;rw[h2,xH h1 h3];rfl
  ·cases h
theorem vE{t:TypeId}(hu:P.underlying t=some .bool)(a b:Bool)(w:World):(Op.equal t (.bool a) (.bool b)).run P w= .ok (a==b) w:=by
 unfold Op.equal;rw[show Op.maxDepth=9999+1 from rfl]
 generalize 9999=d;unfold Op.equalIn;simp[run_underlying hu]
def wZ(op:BinOp)(k:IntKind)(a b:Int)(K:AV->Prop):Prop:=match op with
 | .add=>K (.p (.int k (k.wrap (a+b))))
 | .sub=>K (.p (.int k (k.wrap (a-b))))
 | .mul=>K (.p (.int k (k.wrap (a*b))))
 | .quo=>b≠0/\K (.p (.int k (k.wrap (a.tdiv b))))
 | .rem=>b≠0/\K (.p (.int k (a.tmod b)))
 | .eql=>K (.p (.bool (a==b)))
 | .neq=>K (.p (.bool (a !=b)))
 | .lss=>K (.p (.bool (decide (a<b))))
 | .leq=>K (.p (.bool (decide (a<=b))))
 | .gtr=>K (.p (.bool (decide (b<a))))
 | .geq=>K (.p (.bool (decide (b<=a))))
 |_=>False
def Sp(P:Program)(op:BinOp)(t:TypeId)(x y:AV)(K:AV->Prop):Prop:=match x,y with
 | .p (.int k a),.p (.int k' b)=>k'=k/\wZ op k a b K
 | .p (.bool a),.p (.bool b)=>aA7 P t=true/\(match op with| .eql=>K (.p (.bool (a==b)))| .neq=>K (.p (.bool (a !=b)))|_=>False)
 | .p (.agg l),.p (.agg m)=>∃xs ys,pJ l=some xs/\pJ m=some ys/\xs.length=ys.length/\Dz P t xs.length/\(match op with| .eql=>K (.p (.bool (xs==ys)))| .neq=>K (.p (.bool (xs !=ys)))|_=>False)
 |_,_=>False
theorem aE1{op:BinOp}{t t':TypeId}{x y:Operand}(ho:o.op= .binOp op t x y t'){K:AV->Prop}(h:Sp P op t (E x) (E y) K):∃r,cI P o E σ n r [] []/\K r:=by
 have hx:x∈o.op.operands.toList:=by rw[ho];simp[Op.operands]
 have hy:y∈o.op.operands.toList:=by rw[ho];simp[Op.operands]
 unfold Sp at h;split at h
 ·rename_i k a k' b ea eb;obtain⟨rfl,h⟩:=h;have key:∀r:AV,(∀ρ C,∃v,(∀w:World,(do eqGuard op t x y (.int k' a) (.int k' b);binOp op t (.int k' a) (.int k' b):Sem Value).run P w= .ok v w)/\aO ρ C r v)->cI P o E σ n r [] [] :=by
   intro r hr;refine cI.val ?_;intro ρ C V w hE;have h1:=hE x hx;have h2:=hE y hy;rw[ea]at h1;rw[eb]at h2;unfold aO bF at h1 h2;obtain⟨v,h3,h4⟩:=hr ρ C;refine⟨v,?_,h4⟩;unfold execOp;rw[ho];simp only[h1,h2,Sem.run_bind (x:=(do eqGuard op t x y (.int k' a) (.int k' b);binOp op t (.int k' a) (.int k' b):Sem Value)),h3,Result.andThen_ok,Sem.run_pure]
  unfold wZ at h;split at h
  ·exact⟨_,key _ fun ρ C=>⟨.int k' _,fun w=>by simp[eqGuard,binOp,Op.intArith];rfl,by unfold aO bF;rfl⟩,h⟩
  ·exact⟨_,key _ fun ρ C=>⟨.int k' _,fun w=>by simp[eqGuard,binOp,Op.intArith];rfl,by unfold aO bF;rfl⟩,h⟩
  ·exact⟨_,key _ fun ρ C=>⟨.int k' _,fun w=>by simp[eqGuard,binOp,Op.intArith];rfl,by unfold aO bF;rfl⟩,h⟩
  ·exact⟨_,key _ fun ρ C=>⟨.int k' _,fun w=>by simp[eqGuard,binOp,Op.intDiv,h.1];rfl,by unfold aO bF;rfl⟩,h.2⟩
  ·exact⟨_,key _ fun ρ C=>⟨.int k' _,fun w=>by simp[eqGuard,binOp,Op.intDiv,h.1];rfl,by unfold aO bF;rfl⟩,h.2⟩
  ·exact⟨_,key _ fun ρ C=>⟨.bool _,fun w=>by simp[eqGuard,binOp,Op.intCmp];rfl,by unfold aO bF;rfl⟩,h⟩
  ·exact⟨_,key _ fun ρ C=>⟨.bool _,fun w=>by simp[eqGuard,binOp,Op.intCmp];rfl,by unfold aO bF;rfl⟩,h⟩
  ·exact⟨_,key _ fun ρ C=>⟨.bool _,fun w=>by simp[eqGuard,binOp,Op.intCmp];rfl,by unfold aO bF;rfl⟩,h⟩
  ·exact⟨_,key _ fun ρ C=>⟨.bool _,fun w=>by simp[eqGuard,binOp,Op.intCmp];rfl,by unfold aO bF;rfl⟩,h⟩
  ·exact⟨_,key _ fun ρ C=>⟨.bool _,fun w=>by simp[eqGuard,binOp,Op.intCmp];rfl,by unfold aO bF;rfl⟩,h⟩
  ·exact⟨_,key _ fun ρ C=>⟨.bool _,fun w=>by simp[eqGuard,binOp,Op.intCmp];rfl,by unfold aO bF;rfl⟩,h⟩
  ·exact h.elim
 ·rename_i a b ea eb;obtain⟨ht,h⟩:=h;unfold aA7 at ht;have hu:P.underlying t=some .bool:=by
   split at ht
   ·assumption
   ·cases ht
  have key:∀r:AV,(∀ρ C,∃v,(∀w:World,(do eqGuard op t x y (.bool a) (.bool b);binOp op t (.bool a) (.bool b):Sem Value).run P w= .ok v w)/\aO ρ C r v)->cI P o E σ n r [] [] :=by
   intro r hr;refine cI.val ?_;intro ρ C V w hE;have h1:=hE x hx;have h2:=hE y hy;rw[ea]at h1;rw[eb]at h2;unfold aO bF at h1 h2;obtain⟨v,h3,h4⟩:=hr ρ C;refine⟨v,?_,h4⟩;unfold execOp;rw[ho];simp only[h1,h2,Sem.run_bind (x:=(do eqGuard op t x y (.bool a) (.bool b);binOp op t (.bool a) (.bool b):Sem Value)),h3,Result.andThen_ok,Sem.run_pure]
  split at h
  ·exact⟨_,key _ fun ρ C=>⟨.bool _,fun w=>by simp only[eqGuard,binOp,vE hu,Sem.run_bind,Result.andThen_ok,Sem.run_pure];rfl,by unfold aO bF;rfl⟩,h⟩
  ·exact⟨_,key _ fun ρ C=>⟨.bool _,fun w=>by simp only[eqGuard,binOp,vE hu,Sem.run_bind,Result.andThen_ok,Sem.run_pure];rfl,by unfold aO bF;rfl⟩,h⟩
  ·exact h.elim
 ·rename_i l m ea eb;obtain⟨xs,ys,hxs,hys,hlen,hEq,h⟩:=h;have key:∀r:AV,(∀ρ C,∃v,(∀w:World,(do eqGuard op t x y (.agg (xs.map (Value.int .i64)).toArray) (.agg (ys.map (Value.int .i64)).toArray);binOp op t (.agg (xs.map (Value.int .i64)).toArray) (.agg (ys.map (Value.int .i64)).toArray):Sem Value).run P w= .ok v w)/\aO ρ C r v)->cI P o E σ n r [] [] :=by
   intro r hr;refine cI.val ?_;intro ρ C V w hE;have h1:=hE x hx;have h2:=hE y hy;rw[ea]at h1;rw[eb]at h2;unfold aO bF at h1 h2;obtain⟨vs1,h1,r1,_⟩:=h1;obtain⟨vs2,h2,r2,_⟩:=h2;rw[xH hxs r1]at h1;rw[xH hys r2]at h2;obtain⟨v,h3,h4⟩:=hr ρ C;refine⟨v,?_,h4⟩;unfold execOp;rw[ho];simp only[h1,h2,Sem.run_bind (x:=(do eqGuard op t x y (.agg (xs.map (Value.int .i64)).toArray) (.agg (ys.map (Value.int .i64)).toArray);binOp op t (.agg (xs.map (Value.int .i64)).toArray) (.agg (ys.map (Value.int .i64)).toArray):Sem Value)),h3,Result.andThen_ok,Sem.run_pure]
  split at h
  ·exact⟨_,key _ fun ρ C=>⟨.bool _,fun w=>(hEq xs ys x y w rfl hlen.symm).1,by unfold aO bF;rfl⟩,h⟩
  ·exact⟨_,key _ fun ρ C=>⟨.bool _,fun w=>(hEq xs ys x y w rfl hlen.symm).2,by unfold aO bF;rfl⟩,h⟩
  ·exact h.elim
 ·exact h.elim
def unA(op:UnOp)(x:AV)(K:AV->Prop):Prop:=match op,x with
 | .not,.p (.bool b)=>K (.p (.bool !b))
 | .neg,.p (.int k a)=>K (.p (.int k (k.wrap (0-a))))
 |_,_=>False
theorem aHG{op:UnOp}{t:TypeId}{x:Operand}(ho:o.op= .unOp op t x){K:AV->Prop}(h:unA op (E x) K):∃r,cI P o E σ n r [] []/\K r:=by
 have hx:x∈o.op.operands.toList:=by rw[ho];simp[Op.operands]
 unfold unA at h;split at h
 ·rename_i b e;refine⟨_,cI.val ?_,h⟩;intro ρ C V w hE;have h1:=hE x hx;rw[e]at h1;unfold aO bF at h1;exact⟨.bool !b,by unfold execOp;rw[ho];simp[h1,Op.unary],by unfold aO bF;rfl⟩
 ·rename_i k a e;refine⟨_,cI.val ?_,h⟩;intro ρ C V w hE;have h1:=hE x hx;rw[e]at h1;unfold aO bF at h1;exact⟨_,by unfold execOp;rw[ho];simp only[h1,Op.unary,Op.intArith];rfl,by unfold aO bF;rfl⟩
 ·exact h.elim
def Wh(P:Program)(src dst:TypeId)(x:AV)(K:AV->Prop):Prop:=match x with
 | .p (.int _ a)=>(P.underlying src).isSome=true/\∃k,Sj P dst=some k/\K (.p (.int k (k.wrap a)))
 |_=>False
theorem aCX{src dst:TypeId}{x:Operand}(ho:o.op= .convert src dst x){K:AV->Prop}(h:Wh P src dst (E x) K):∃r,cI P o E σ n r [] []/\K r:=by
 have hx:x∈o.op.operands.toList:=by rw[ho];simp[Op.operands]
 unfold Wh at h;split at h
 ·rename_i k0 a e;obtain⟨hs,k,hk,h⟩:=h;obtain⟨d,hs⟩:=Option.isSome_iff_exists.1 hs;have hd:P.underlying dst=some (.int k):=by
   unfold Sj at hk;split at hk
   ·cases hk;assumption
   ·cases hk
  refine⟨_,cI.val ?_,h⟩;intro ρ C V w hE;have h1:=hE x hx;rw[e]at h1;unfold aO bF at h1;refine⟨_,?_,by unfold aO bF;rfl⟩
  unfold execOp;rw[ho];simp only[h1,convert,Sem.run_bind,run_underlying hs,run_underlying hd,Result.andThen_ok,Conv.intToInt,Sem.run_pure]
 ·exact h.elim
theorem aCA{f:Fn}{first caps:Array Operand}(ho:o.op= .makeFunc f first caps):cI P o E σ n (.fn f (first.toList.map E) (caps.toList.map E)) [] [] :=by
 refine cI.val ?_;intro ρ C V w hE;refine⟨.func f (first.map (bI V)) (caps.map (bI V)),?_,?_⟩
 ·unfold execOp;rw[ho];rfl
 ·unfold aO;have key:∀l:List Operand,(∀x∈l,aO ρ C (E x) (bI V x))->aZ ρ C (l.map E) (l.map (bI V)):=by
   intro l;induction l with
   |nil=>intro _;simp only[List.map_nil];unfold aZ;rfl
   |cons x l ih=>
    intro h;simp only[List.map_cons];unfold aZ;exact⟨_,_,rfl,h x List.mem_cons_self,ih fun y hy=>h y (List.mem_cons_of_mem _ hy)⟩
  refine⟨first.toList.map (bI V),caps.toList.map (bI V),?_,key _ fun x hx=>hE x ?_,key _ fun x hx=>hE x ?_⟩
  ·congr 1<;>(apply Array.toList_inj.1;simp)
  ·rw[ho];simp only[Op.operands,Array.toList_append,List.mem_append];exact .inl hx
  ·rw[ho];simp only[Op.operands,Array.toList_append,List.mem_append];exact .inr hx
def Le(P:Program)(t:TypeId)(f:Nat)(x:AV)(K:AV->Prop):Prop:=∃q,sB P t f=some q/\match x with
 | .ptr s off=>K (.ptr s (off+q.1))
 | .p (.pro cs off)=>K (.p (.pro cs (off+q.1)))
 |_=>False
theorem Qi{t:TypeId}{f:Nat}{q:Nat×TypeId}(h:sB P t f=some q)(w:World)(b off:Nat):
  (Instr.fieldAt t (.pointer (some ⟨b,off,none⟩)) f).run P w= .ok (.pointer (some ⟨b,off+q.1,none⟩)) w:=by
 unfold sB at h;split at h
 ·rename_i fs hu;simp only[Option.bind_eq_some_iff]at h;obtain⟨x,hx,h⟩:=h;split at h
  ·cases h
  ·rename_i hz;cases h;cases hi:P.info? x.type with
   |none=>simp[aU,hi]at hz
   |some i=>
    have hne:i.size≠0:=by simpa[aU,hi]using hz
    simp[Instr.fieldAt,run_underlying hu,hx,Instr.sureAddr,fieldPlace,sizeOf,typeInfo,hi,hne,Addr.add_mid]
 ·cases h
theorem aAv{t:TypeId}{f:Nat}{x:Operand}(ho:o.op= .fieldAddr t x f){K:AV->Prop}(h:Le P t f (E x) K):∃r,cI P o E σ n r [] []/\K r:=by
 have hx:x∈o.op.operands.toList:=by rw[ho];simp[Op.operands]
 obtain⟨q,hq,h⟩:=h;split at h
 ·rename_i s off e;refine⟨_,cI.val ?_,h⟩;intro ρ C V w hE;have h1:=hE x hx;rw[e]at h1;unfold aO at h1;obtain⟨b,c,h1,h2⟩:=h1;refine⟨.pointer (some ⟨b,off+q.1,none⟩),?_,by unfold aO;exact⟨b,c,h1,rfl⟩⟩
  unfold execOp;rw[ho];simp only[h2,Sem.run_bind,Qi hq,Result.andThen_ok,Sem.run_pure]
 ·rename_i cs off e;refine⟨_,cI.val ?_,h⟩;intro ρ C V w hE;have h1:=hE x hx;rw[e]at h1;unfold aO bF at h1;obtain⟨b,oo,h1,h2⟩:=h1;refine⟨.pointer (some ⟨b,oo+off+q.1,none⟩),?_,by unfold aO bF;exact⟨b,oo,by rw[Nat.add_assoc],h2⟩⟩
  unfold execOp;rw[ho];simp only[h1,Sem.run_bind,Qi hq,Result.andThen_ok,Sem.run_pure]
 ·exact h.elim
def Dl(P:Program)(t:TypeId)(l:List AV)(off:Nat)(K:AV->Prop):Prop:=
 tok P t=true/\if iT P t=true then∃m,(l.drop off).take (aU P t)=m/\K (iK m)else∃x,l[off]? =some x/\K x
def Tn(P:Program)(t:TypeId)(f:Nat)(x:AV)(K:AV->Prop):Prop:=∃q,sB P t f=some q/\match x with
 | .agg l=>Dl P q.2 l q.1 K
 | .p (.agg l)=>Dl P q.2 (l.map .p) q.1 K
 |_=>False
theorem aZ.take{ρ:Ren}{C:cE}{l:List AV}{vs:List Value}(h:aZ ρ C l vs)(k:Nat):aZ ρ C (l.take k) (vs.take k):=
 aZ.of _ _ (by simp[h.length]) fun i x hi=>by
  rw[List.getElem?_take]at hi|-;split at hi
  ·rw[if_pos ‹_›];exact h.get _ _ i x hi
  ·cases hi
theorem aZ.drop{ρ:Ren}{C:cE}{l:List AV}{vs:List Value}(h:aZ ρ C l vs)(k:Nat):aZ ρ C (l.drop k) (vs.drop k):=
 aZ.of _ _ (by simp[h.length]) fun i x hi=>by
  rw[List.getElem?_drop]at hi|-;exact h.get _ _ _ x hi
theorem aCq{t:TypeId}{l:List AV}{off:Nat}{K:AV->Prop}(h:Dl P t l off K):∃r,K r/\∀(ρ:Ren) (C:cE) (vs:List Value) (w:World),aZ ρ C l vs->qE vs->∃v,(part t vs.toArray off).run P w= .ok v w/\aO ρ C r v:=by
 obtain⟨ht,h⟩:=h;unfold tok at ht;simp only[Bool.and_eq_true,Option.isSome_iff_exists]at ht;obtain⟨⟨i,hi⟩,d,hd⟩:=ht;have hag:∀w:World,(isAgg t).run P w= .ok (iT P t) w:=by
  intro w;unfold isAgg iT;rw[Sem.run_bind,run_underlying hd w,hd];cases d<;>rfl
 split at h
 ·rename_i hg;obtain⟨m,hm,hK⟩:=h;refine⟨_,hK,?_⟩;intro ρ C vs w hr h1s;have h2:=(hr.drop off).take (aU P t);rw[hm]at h2;refine⟨_,?_,vV h2 fun u hu=>h1s u (List.mem_of_mem_drop (List.mem_of_mem_take hu))⟩
  have hsz:aU P t=i.size:=by simp[aU,hi]
  simp only[part,Sem.run_bind,hag,hg,Result.andThen_ok,if_true,sizeOf,typeInfo,run_program,hi,Sem.run_pure]
  congr 2
  apply Array.toList_inj.1;rw[hsz];simp
 ·rename_i hg;obtain⟨x,hx,hK⟩:=h;refine⟨x,hK,?_⟩;intro ρ C vs w hr _;obtain⟨v,h1,h2⟩:=hr.get _ _ off x hx;refine⟨v,?_,h2⟩;have hg':iT P t=false:=by simpa using hg
  simp[part,hag,hg',h1]
theorem aAu{t:TypeId}{f:Nat}{x:Operand}(ho:o.op= .field t x f){K:AV->Prop}(h:Tn P t f (E x) K):∃r,cI P o E σ n r [] []/\K r:=by
 have hx:x∈o.op.operands.toList:=by rw[ho];simp[Op.operands]
 obtain⟨q,hq,h⟩:=h;have key:∀l,Dl P q.2 l q.1 K->(∀ρ C v,aO ρ C (E x) v->∃vs:List Value,v= .agg vs.toArray/\aZ ρ C l vs/\qE vs)->∃r,cI P o E σ n r [] []/\K r:=by
  intro l hl hv;obtain⟨r,hK,hr⟩:=aCq hl;refine⟨r,cI.val ?_,hK⟩;intro ρ C V w hE;obtain⟨vs,h1,h2,h2s⟩:=hv ρ C _ (hE x hx);obtain⟨v,h3,h4⟩:=hr ρ C vs w h2 h2s;refine⟨v,?_,h4⟩;unfold sB at hq;split at hq
  ·rename_i fs hu;simp only[Option.bind_eq_some_iff]at hq;obtain⟨y,hy,hq⟩:=hq;split at hq
   ·cases hq
   ·cases hq;unfold execOp;rw[ho];simp[h1,Instr.field,run_underlying hu,hy,asAgg,h3]
  ·cases hq
 split at h
 ·rename_i l e;refine key l h fun ρ C v hv=> ?_
  rw[e]at hv;unfold aO at hv;exact hv
 ·rename_i l e;refine key _ h fun ρ C v hv=> ?_
  rw[e]at hv;unfold aO bF at hv;obtain⟨vs,h1,h2,h3⟩:=hv;exact⟨vs,h1,h2.toA,h3⟩
 ·exact h.elim
def Dw(P:Program)(t:TypeId)(x i:AV)(K:AV->Prop):Prop:=match x,i with
 | .p (.sl n cs),.p (.int _ a)=>∃e,fJ P t=some e/\(P.info? e).isSome=true/\0<=a/\a<n/\K (.p (.pro cs (a.toNat*aU P e)))
 | .own s o n,.p (.int _ a)=>∃e,fJ P t=some e/\(P.info? e).isSome=true/\0<=a/\a<n/\K (.ptr s (o+a.toNat*aU P e))
 | .ptr s off,.p (.int _ a)=>∃q,Hq P t=some q/\(P.info? q.2).isSome=true/\0<=a/\a<q.1/\K (.ptr s (off+a.toNat*aU P q.2))
 | .p (.pro cs off),.p (.int _ a)=>∃q,Hq P t=some q/\(P.info? q.2).isSome=true/\0<=a/\a<q.1/\K (.p (.pro cs (off+a.toNat*aU P q.2)))
 |_,_=>False
theorem Jv{t e:TypeId}(ht:P.underlying t=some (.slice e))(he:(P.info? e).isSome=true){k:IntKind}{a:Int}{n c b off:Nat}(h0:0<=a)(h1:a<n)(w:World):
  (Instr.indexAt t (.slice (some ⟨b,off,none⟩) n c) (.int k a)).run P w= .ok (.pointer (some ⟨b,off+a.toNat*aU P e,none⟩)) w:=by
 obtain⟨i,hi⟩:=Option.isSome_iff_exists.1 he;simp[Instr.indexAt,asIntOf,run_underlying ht,h0,h1,sizeOf,typeInfo,hi,aU,Addr.add_mid]
theorem sU{t e:TypeId}{m:Nat}(ht:P.underlying t=some (.array m e))(he:(P.info? e).isSome=true){k:IntKind}{a:Int}{b off:Nat}(h0:0<=a)(h1:a<m)(w:World):
  (Instr.indexAt t (.pointer (some ⟨b,off,none⟩)) (.int k a)).run P w= .ok (.pointer (some ⟨b,off+a.toNat*aU P e,none⟩)) w:=by
 obtain⟨i,hi⟩:=Option.isSome_iff_exists.1 he;simp[Instr.indexAt,Instr.sureAddr,asIntOf,run_underlying ht,h0,h1,sizeOf,typeInfo,hi,aU,Addr.add_mid]
theorem mN{t e:TypeId}(h:fJ P t=some e):P.underlying t=some (.slice e):=by
 unfold fJ at h;split at h
 ·cases h;assumption
 ·cases h
theorem aBq{t:TypeId}{q:Nat×TypeId}(h:Hq P t=some q):P.underlying t=some (.array q.1 q.2):=by
 unfold Hq at h;split at h
 ·cases h;assumption
 ·cases h
theorem aAo{t:TypeId}{x i:Operand}(ho:o.op= .indexAddr t x i){K:AV->Prop}(h:Dw P t (E x) (E i) K):∃r,cI P o E σ n r [] []/\K r:=by
 have hx:x∈o.op.operands.toList:=by rw[ho];simp[Op.operands]
 have hi:i∈o.op.operands.toList:=by rw[ho];simp[Op.operands]
 unfold Dw at h;split at h
 ·rename_i m cs k a ex ei;obtain⟨e,he,he2,h0,h1,hK⟩:=h;refine⟨_,cI.val ?_,hK⟩;intro ρ C V w hE;have g1:=hE x hx;have g2:=hE i hi;rw[ex]at g1;rw[ei]at g2;unfold aO bF at g1 g2;obtain⟨ad,c,g1,g3,g4,g5⟩:=g1;cases ad with
  |none=>have:=(g4 rfl).1;omega
  |some ad=>
   obtain⟨b,off,sp⟩:=ad;obtain⟨g5,g6⟩:=g5 _ rfl;have g5:sp=none:=g5 (by omega)
   subst g5;refine⟨.pointer (some ⟨b,off+a.toNat*aU P e,none⟩),?_,by unfold aO bF;exact⟨b,off,rfl,g6⟩⟩
   unfold execOp;rw[ho];simp only[g1,g2,Sem.run_bind,Jv (mN he) he2 h0 h1,Result.andThen_ok,Sem.run_pure]
 ·rename_i s oo m k a ex ei;obtain⟨e,he,he2,h0,h1,hK⟩:=h;refine⟨_,cI.val ?_,hK⟩;intro ρ C V w hE;have g1:=hE x hx;have g2:=hE i hi;rw[ex]at g1;rw[ei]at g2;unfold aO at g1 g2;unfold bF at g2;obtain⟨q,c,g1,g3|⟨b,o',c',rfl,g4,g5,g6,g7⟩⟩:=g1
  ·omega
  ·have:=g6 (by omega);subst this
   refine⟨.pointer (some ⟨b,o'+a.toNat*aU P e,none⟩),?_,by unfold aO;exact⟨b,c,g1,rfl⟩⟩
   unfold execOp;rw[ho];simp only[g4,g2,Sem.run_bind,Jv (mN he) he2 h0 h1,Result.andThen_ok,Sem.run_pure]
 ·rename_i s off k a ex ei;obtain⟨q,he,he2,h0,h1,hK⟩:=h;refine⟨_,cI.val ?_,hK⟩;intro ρ C V w hE;have g1:=hE x hx;have g2:=hE i hi;rw[ex]at g1;rw[ei]at g2;unfold aO at g1 g2;unfold bF at g2;obtain⟨b,c,g1,g3⟩:=g1;refine⟨.pointer (some ⟨b,off+a.toNat*aU P q.2,none⟩),?_,by unfold aO;exact⟨b,c,g1,rfl⟩⟩
  unfold execOp;rw[ho];simp only[g3,g2,Sem.run_bind,sU (aBq he) he2 h0 h1,Result.andThen_ok,Sem.run_pure]
 ·rename_i cs off k a ex ei;obtain⟨q,he,he2,h0,h1,hK⟩:=h;refine⟨_,cI.val ?_,hK⟩;intro ρ C V w hE;have g1:=hE x hx;have g2:=hE i hi;rw[ex]at g1;rw[ei]at g2;unfold aO bF at g1 g2;obtain⟨b,oo,g1,g3⟩:=g1;refine⟨.pointer (some ⟨b,oo+off+a.toNat*aU P q.2,none⟩),?_,by unfold aO bF;exact⟨b,oo,by rw[Nat.add_assoc],g3⟩⟩
  unfold execOp;rw[ho];simp only[g1,g2,Sem.run_bind,sU (aBq he) he2 h0 h1,Result.andThen_ok,Sem.run_pure]
 ·exact h.elim
def Ij(x:AV)(i:Nat)(K:AV->Prop):Prop:=match x with
 | .tup l=>∃y,l[i]? =some y/\K y
 | .p (.tup l)=>∃y,l[i]? =some y/\K (.p y)
 |_=>False
theorem aCR{x:Operand}{i:Nat}(ho:o.op= .extract x i){K:AV->Prop}(h:Ij (E x) i K):∃r,cI P o E σ n r [] []/\K r:=by
 have hx:x∈o.op.operands.toList:=by rw[ho];simp[Op.operands]
 unfold Ij at h;split at h
 ·rename_i l e;obtain⟨y,hy,h⟩:=h;refine⟨_,cI.val ?_,h⟩;intro ρ C V w hE;have h1:=hE x hx;rw[e]at h1;unfold aO at h1;obtain⟨vs,h1,h2⟩:=h1;obtain⟨v,h3,h4⟩:=h2.get _ _ i y hy;refine⟨v,?_,h4⟩;unfold execOp;rw[ho];simp[h1,Instr.extract,h3]
 ·rename_i l e;obtain⟨y,hy,h⟩:=h;refine⟨_,cI.val ?_,h⟩;intro ρ C V w hE;have h1:=hE x hx;rw[e]at h1;unfold aO bF at h1;obtain⟨vs,h1,h2⟩:=h1;obtain⟨v,h3,h4⟩:=h2.get _ _ i y hy;refine⟨v,?_,by unfold aO;exact h4⟩
  unfold execOp;rw[ho];simp[h1,Instr.extract,h3]
 ·exact h.elim
end
end Go.Proofs.YtdaeofhdgabhjaaGreat
namespace Go.Proofs.YtdaeofhdgabhjaaGreat
open Go.RowKit
end Go.Proofs.YtdaeofhdgabhjaaGreat
namespace Go.Proofs.YtdaeofhdgabhjaaGreat
open Go.RowKit
def cP(l:List Oper)(j:Nat):Nat:=((l[j]?).bind (·.dst)).getD 1000000
def fA(anc:List (List Nat))(i:Nat):List Nat:=anc.getD i []
def gH(l:List Oper)(V:Nat->Value)(j:Nat):Value:=if cP l j=1000000 then undef else V (cP l j)
def Ld(l:List Oper)(anc:List (List Nat))(i s:Nat):Bool:=(List.range l.length).all fun j=>cP l j !=s||(fA anc j).contains i||j==i
def okF(l:List Oper)(anc:List (List Nat)):Bool:=
 (List.range l.length).all fun i=>
  (((l[i]?).map fun o=>(o.after.toList.all fun e=> !Region.binds .any e||(decide (e.on<i)&&(fA anc i).contains e.on))&&o.guard.isNone&&o.dst !=some 1000000).getD false)&&
  ((fA anc i).all fun j=>decide (j<i)&&(((l[i]?).map fun o=>o.after.toList.any fun e=>Region.binds .any e&&(e.on==j||(fA anc e.on).contains j)).getD false))&&
  ((List.range l.length).all fun j=>j==i||cP l j !=cP l i||cP l i==1000000)
def rU(S:Nat->Oper->Prop):List Oper->Nat->Prop
 |[],_=>True
 |o::r,k=>S k o/\rU S r (k+1)
theorem oR{S:Nat->Oper->Prop}:∀(l:List Oper) (k:Nat),rU S l k->∀i o,l[i]? =some o->S (k+i) o
 |[],_,_,i,o,h=>by simp at h
 |o'::r,k,h,0,o,ho=>by simp at ho;subst ho;exact h.1
 |o'::r,k,h,i+1,o,ho=>by
  have:=oR r (k+1) h.2 i o (by simpa using ho)
  rwa[show k+1+i=k+(i+1) by omega]at this
def gY(D:Nat->Bool)(i:Nat):Nat->Bool:=fun j=>if j=i then true else D j
def Vz(P:Program)(l:List Oper)(anc:List (List Nat))(a0:Act)(WR:(Nat->Bool)->World->Prop)(fact:Nat->Value->World->Prop)(i:Nat)(o:Oper):Prop:=
 ∀(D:Nat->Bool) (V:Nat->Value) (w:World),D i=false->(∀j,(fA anc i).contains j=true->D j=true/\fact j (gH l V j) w)->(∀j,(fA anc j).contains i=true->D j=false)->
  (∀s,Ld l anc i s=true->V s=a0.tmps.getD s undef)->WR D w->
  cC P o V w fun v w'=>fact i (if cP l i=1000000 then undef else v) w'/\WR (gY D i) w'/\(w'=w\/Below w.heap.size w w'\/∀j,D j=true->fact j (gH l V j) w->fact j (gH l V j) w')
theorem opK{P:Program}{o:Oper}{V:Nat->Value}{w:World}{K:Value->World->Prop}(h:∀K':Value->World->Prop,(∀v w',K v w'->K' v w')->cC P o V w K'):cC P o V w K:=h K fun _ _ h=>h
theorem uL{P:Program}{id:Nat}{l:List Oper}{Q:Exit->Act->World->Prop}{a0:Act}{w0:World}(hm:P.follows .mixedOrders=true)
  (dsts:List Nat) (anc:List (List Nat)) (hok:okF l anc=true) (hdst:((List.range l.length).all fun i=>cP l i==1000000||dsts.contains (cP l i))=true) (hds:∀s∈dsts,s<a0.tmps.size)
  (WR:(Nat->Bool)->World->Prop) (fact:Nat->Value->World->Prop) (h0:WR (fun _=>false) w0.drew)
  (hmono:∀j v w w',fact j v w->Below w.heap.size w w'->fact j v w')
  (hstep:rU (Vz P l anc a0 WR fact) l 0)
  (hend:∀(D:Nat->Bool) (V:Nat->Value) (w:World),(∀i,i<l.length->D i=true)->(∀i,i<l.length->fact i (gH l V i) w)->WR D w->Q .normal (eL a0 dsts V) w):
  (Code.region id l.toArray true).wp P Q a0 w0:=by
 unfold okF at hok;rw[List.all_eq_true]at hok;have hget:∀i o,l[i]? =some o->i<l.length:=fun i o h=>(List.getElem?_eq_some_iff.1 h).1
 have hop:∀i o,l[i]? =some o->(∀e∈o.after.toList,Region.binds .any e=true->e.on<i/\(fA anc i).contains e.on=true)/\o.guard=none/\
   (∀j,(fA anc i).contains j=true->j<i/\∃e∈o.after.toList,Region.binds .any e=true/\(e.on=j\/(fA anc e.on).contains j=true))/\(∀d,o.dst=some d->cP l i=d/\d≠1000000)/\(o.dst=none->cP l i=1000000):=by
  intro i o ho;have h1:=hok i (List.mem_range.2 (hget i o ho));simp only[Bool.and_eq_true]at h1;obtain⟨⟨h2,h3⟩,_⟩:=h1;rw[ho]at h2;simp only[Option.map_some,Option.getD_some,Bool.and_eq_true,Option.isNone_iff_eq_none,bne_iff_ne,ne_eq]at h2;refine⟨?_,h2.1.2,?_,?_,?_⟩
  ·intro e he hb;have:=List.all_eq_true.1 h2.1.1 e he;rw[hb]at this;simpa using this
  ·intro j hj;rw[List.all_eq_true]at h3;have:=h3 j (by simpa using hj)
   simp only[Bool.and_eq_true,decide_eq_true_eq]at this;obtain⟨h4,h5⟩:=this;refine⟨h4,?_⟩;rw[ho]at h5;simp only[Option.map_some,Option.getD_some,List.any_eq_true,Bool.and_eq_true,Bool.or_eq_true,beq_iff_eq]at h5;exact h5
  ·intro d hd;refine⟨by unfold cP;rw[ho];simp[hd],?_⟩
   rintro rfl;exact h2.2 hd
  ·intro hd;unfold cP;rw[ho];simp[hd]
 have huniq:∀i j,i<l.length->j<l.length->j≠i->cP l j=cP l i->cP l i=1000000:=by
  intro i j hi hj hne he;have h1:=hok i (List.mem_range.2 hi);simp only[Bool.and_eq_true]at h1;obtain⟨_,h3⟩:=h1;rw[List.all_eq_true]at h3;have:=h3 j (List.mem_range.2 hj);simp only[Bool.or_eq_true,beq_iff_eq,bne_iff_ne,ne_eq]at this;rcases this with(h|h)|h
  ·exact absurd h hne
  ·exact absurd he h
  ·exact h
 let G:(Nat->Bool)->(Nat->Value)->World->Prop:=fun D V w=>
  (∀i j,D i=true->(fA anc i).contains j=true->D j=true)/\(∀i,i<l.length->D i=true->fact i (gH l V i) w)/\
  (∀s,(∀j,j<l.length->cP l j=s->D j=false)->V s=a0.tmps.getD s undef)/\WR D w
 refine Bp hm dsts ?_ hds G ?_ ?_ ?_
 ·rw[List.all_eq_true];intro i hi;have hi':=List.mem_range.1 hi;simp only[List.size_toArray]at hi';have ho:l[i]? =some l[i] :=List.getElem?_eq_getElem hi';obtain⟨q1,q2,q3,q4,q5⟩:=hop i _ ho;simp only[List.getElem?_toArray,ho,Option.map_some,Option.getD_some,Bool.and_eq_true];refine⟨?_,?_⟩
  ·rw[List.all_eq_true];intro e he;cases hb:Region.binds .any e with
   |false=>simp
   |true=>simpa using(q1 e he hb).1
  ·cases hd:l[i].dst with
   |none=>rfl
   |some d=>
    have e1:=(q4 d hd).1;rw[List.all_eq_true]at hdst;have:=hdst i (List.mem_range.2 hi');rw[e1]at this;simp only[Bool.or_eq_true,beq_iff_eq]at this;rcases this with h|h
    ·exact absurd h (q4 d hd).2
    ·simpa using h
 ·exact⟨(fun i j h=>by cases h),(fun i _ h=>by cases h),(fun s _=>rfl),h0⟩
 ·intro i o D V w ho ⟨g1,g2,g3,g4⟩ hD hpre hV;have ho':l[i]? =some o:=by simpa using ho
  obtain⟨q1,q2,q3,q4,q5⟩:=hop i o ho';have hi:=hget i o ho';have hanc:∀j,(fA anc i).contains j=true->D j=true:=by
   intro j hj;obtain⟨_,e,he,hb,h⟩:=q3 j hj;have:=hpre e he hb;rcases h with rfl|h
   ·exact this
   ·exact g1 _ _ this h
  have hdesc:∀j,(fA anc j).contains i=true->D j=false:=by
   intro j hj;cases hx:D j with
   |false=>rfl
   |true=>rw[g1 _ _ hx hj]at hD;cases hD
  have hs:=oR l 0 hstep i o ho';rw[Nat.zero_add]at hs;have hrun:=hs D V w hD (fun j hj=>⟨hanc j hj,g2 j (Nat.lt_trans (q3 j hj).1 hi) (hanc j hj)⟩) hdesc (fun s hsl=>g3 s (fun j hj hjs=>by
   unfold Ld at hsl;rw[List.all_eq_true]at hsl;have:=hsl j (List.mem_range.2 hj);simp only[Bool.or_eq_true,bne_iff_ne,ne_eq,beq_iff_eq]at this;rcases this with(h|h)|h
   ·exact absurd hjs h
   ·exact hdesc j h
   ·rw[h];exact hD)) g4
  rw[if_pos (by unfold Region.wanted;rw[q2])]
  have hmono':∀(K K':Value->World->Prop),(∀v w,K v w->K' v w)->cC P o V w K->cC P o V w K':=by
   intro K K' hk h;unfold cC at h|-;split at h
   ·exact hk _ _ h
   ·exact hk _ _ h
   ·exact h.mono fun e w'' ⟨v,he,hv⟩=>⟨v,he,hk _ _ hv⟩
   ·exact h.elim
  have key:∀(U:Nat->Value) (v:Value) (w':World),(∀s,s≠cP l i->U s=V s)->(cP l i≠1000000->U (cP l i)=v)->
    (fact i (if cP l i=1000000 then undef else v) w'/\WR (gY D i) w'/\(w'=w\/Below w.heap.size w w'\/∀j,D j=true->fact j (gH l V j) w->fact j (gH l V j) w'))->G (gY D i) U w':=by
   rintro U v w' hVd hVv ⟨k1,k2,k3⟩;refine⟨?_,?_,?_,k2⟩
   ·intro i' j h1 h2;by_cases e:j=i
    ·simp[gY,e]
    ·by_cases e':i'=i
     ·subst e';simp only[gY,e,if_false];exact hanc j h2
     ·simp only[gY,e',if_false]at h1;simp only[gY,e,if_false];exact g1 _ _ h1 h2
   ·intro i' hi' h1;by_cases e:i'=i
    ·subst e;have:gH l U i'=if cP l i'=1000000 then undef else v:=by
      unfold gH;by_cases h6:cP l i'=1000000
      ·rw[if_pos h6,if_pos h6]
      ·rw[if_neg h6,if_neg h6,hVv h6]
     rw[this];exact k1
    ·simp only[gY,e,if_false]at h1;have:gH l U i'=gH l V i':=by
      unfold gH;by_cases h6:cP l i'=1000000
      ·rw[if_pos h6,if_pos h6]
      ·rw[if_neg h6,if_neg h6,hVd];intro h7;exact h6 (by rw[h7];exact huniq i i' hi hi' e h7)
     rw[this];have h8:=g2 i' hi' h1;rcases k3 with rfl|k3|k3
     ·exact h8
     ·exact hmono _ _ _ _ h8 k3
     ·exact k3 i' h1 h8
   ·intro s hs;have hne:s≠cP l i:=by
     intro h;have:=hs i hi h.symm;simp[gY]at this
    rw[hVd s hne];refine g3 s (fun j hj hjs=> ?_)
    have:=hs j hj hjs;by_cases e:j=i
    ·subst e;exact hD
    ·simpa[gY,e]using this
  refine hmono' _ _ ?_ hrun;intro v w' hk;show G (gY D i) _ w';cases hd:o.dst with
  |none=>
   have e1:=q5 hd;refine key _ v w' ?_ (fun h=>absurd e1 h) hk
   intro s _;rfl
  |some d=>
   have e1:=(q4 d hd).1;refine key _ v w' ?_ ?_ hk
   ·intro s hs;rw[e1]at hs;simp only[];rw[if_neg hs]
   ·intro _;rw[e1];simp
 ·intro D V w ⟨g1,g2,g3,g4⟩ hall;simp only[List.size_toArray]at hall;exact hend D V w hall (fun i hi=>g2 i hi (hall i hi)) g4
def Rd(w:World)(a:Option Addr)(cs:List Value):Prop:=∀i u,cs[i]? =some u->∃b off,a=some ⟨b,off,none⟩/\b<w.heap.size/\w.cell? ⟨b,off+i,none⟩=some u
theorem Rd.below{w w':World}{a:Option Addr}{cs:List Value}(h:Rd w a cs)(hb:Below w.heap.size w w'):Rd w' a cs:=by
 intro i u hi;obtain⟨b,off,ha,hlt,h1⟩:=h i u hi;exact⟨b,off,ha,Nat.lt_of_lt_of_le hlt hb.size,(hb.cell (p:=⟨b,_,none⟩) hlt).trans h1⟩
def nS(base:Nat)(a:Option Addr):Prop:=∀b,a=some b->base<=b.block
theorem nS.mono{m n:Nat}{a:Option Addr}(h:nS n a)(hm:m<=n):nS m a:=fun b hb=>Nat.le_trans hm (h b hb)
theorem Rd.Tk{w:World}{base:Nat}{e:TypeId}{size:Nat}{v:Value}{n:Nat}{cs:List Value}(h:w.ownsRow base e size v n cs):∃a c,v= .slice a n c/\Rd w a cs/\nS base a/\(a=none->c=0):=by
 rcases h.2 with⟨h1,h2⟩|⟨g,cap,cur,h1,h2,h3,h4,h5,h6,h7⟩
 ·have:cs=[] :=List.length_eq_zero_iff.1 (by rw[h.1,h2];simp)
  exact⟨none,0,by rw[h1,h2],by rw[this];intro i u hi;simp at hi,(fun b hb=>by cases hb),fun _=>rfl⟩
 ·refine⟨some ⟨g,0,none⟩,cap,h1,?_,(fun b hb=>by cases hb;exact h2),(fun h=>by cases h)⟩
  intro i u hi;refine⟨g,0,rfl,Blk.lt h3,?_⟩;rw[Nat.zero_add,cell_of_row w g i cur e (0,0) h3];rw[<-h7,List.getElem?_take]at hi;split at hi
  ·simpa using hi
  ·cases hi
theorem iB{w w':World}{base:Nat}{e:TypeId}{size:Nat}{v:Value}{n:Nat}{xs:List Value}(h:w.ownsRow base e size v n xs)(hb:Below w.heap.size w w'):w'.ownsRow base e size v n xs:=by
 refine⟨h.1,?_⟩;rcases h.2 with h1|⟨g,cap,cur,h1,h2,h3,h4⟩
 ·exact .inl h1
 ·exact .inr ⟨g,cap,cur,h1,h2,Blk.then_ h3 hb,h4⟩
theorem gE{w:World}{base:Nat}{e:TypeId}{size:Nat}{v:Value}{n:Nat}{xs:List Value}(h:w.ownsRow base e size v n xs):∀k,v.ownBlock=some k->base<=k/\k<w.heap.size:=by
 intro k hk;rcases h.2 with⟨rfl,_⟩|⟨g,cap,cur,rfl,h2,h3,_⟩
 ·simp[Value.ownBlock]at hk
 ·simp[Value.ownBlock]at hk;subst hk;exact⟨h2,Blk.lt h3⟩
theorem vS{P:Program}{o:Oper}{V:Nat->Value}{w:World}{K:Value->World->Prop}(s x:Operand)(t:TypeId)
  (ho:o.op= .call {callee:= .builtin .append,args:= #[s,x],argTypes:= #[t,t]})
  (base:Nat) (e:TypeId) (z:Value) (size bytes:Nat) (ht:P.underlying t=some (.slice e)) (hi:(P.info? e).map (fun i=>(i.zero,i.size,i.bytes))=some (some z,size,bytes)) (hzs:z.cells.size=size) (hsz:0<size)
  (v:Value) (n:Nat) (xs:List Value) (hs:bI V s=v) (hown:w.ownsRow base e size v n xs)
  (a:Option Addr) (m c:Nat) (cs:List Value) (hx:bI V x= .slice a m c) (hl:cs.length=m*size) (hg:Rd w a cs) (hn:a=none->c=0) (h1:∀u∈cs,u.oneCell'=true)
  (h63:n+m<=1000000) (hbytes:bytes<=1000000) (hbase:base<=w.heap.size)
  (h:∀v' w',w'.ownsRow base e size v' (n+m) (xs++cs)->Below base w w'->w.grownBy w' v.ownBlock->(∀k,v'.ownBlock=some k->v.ownBlock=some k\/w.heap.size<=k)->K v' w'):cC P o V w K:=by
 obtain⟨i,hi1,hi2⟩:=Option.map_eq_some_iff.1 hi;simp only[Prod.mk.injEq]at hi2;obtain⟨i1,i2,i3⟩:=hi2;have hb:∀k,v.ownBlock=some k->base<=k:=fun k hk=>(gE hown k hk).1
 by_cases hm:m=0
 ·subst hm;have hcs:cs=[] :=List.length_eq_zero_iff.1 (by omega)
  subst hcs;by_cases ha:a=none
  ·subst ha;have hc:=hn rfl;subst hc;have hr:=run_append_owned_none (P:=P) (w:=w) base t o.type e i size ht hi1 v n xs hown;unfold cC execOp;simp only[ho,resolve,invoke,builtin,Sem.run_bind,Sem.run_pure,Result.andThen_ok,List.map_toArray,List.map_cons,List.map_nil,hs,hx,hr];exact h v w (by simpa using hown) (Below.refl _ _) ⟨rfl,rfl,rfl,Nat.le_refl _,fun _ _ _=>rfl⟩ (fun k hk=> .inl hk)
  ·obtain⟨a',rfl⟩:=Option.ne_none_iff_exists'.1 ha;obtain⟨v',w',hr,h2,h3,_,h5⟩:=run_append_own_at (P:=P) (w:=w) base t o.type e i z size bytes ht hi1 i1 i2 i3 hzs hsz v n xs hown a' 0 c [] (by simp) (by simp) (by simp) (by simp only[maxLen];omega) (Nat.le_trans (Nat.mul_le_mul h63 hbytes) (by decide)) hbase
   unfold cC execOp;simp only[ho,resolve,invoke,builtin,Sem.run_bind,Sem.run_pure,Result.andThen_ok,List.map_toArray,List.map_cons,List.map_nil,hs,hx,hr];exact h v' w' h2 ((Below.refl base w).grown h3 hbase hb) h3 (fun k hk=>by rcases h5 with h5|h5<;>rw[h5]at hk;exact .inl hk;cases hk;exact .inr (Nat.le_refl _))
 ·obtain⟨u0,hu0⟩:∃u,cs[0]? =some u:=by
   have:0<cs.length:=by rw[hl];exact Nat.mul_pos (by omega) hsz
   exact⟨_,List.getElem?_eq_getElem this⟩
  obtain⟨b,off,rfl,hbl,_⟩:=hg 0 u0 hu0;have hnews:∀j u,cs[j]? =some u->w.cell? ((⟨b,off,none⟩:Addr).add j)=some u:=by
   intro j u hj;obtain⟨b',off',he,_,hc⟩:=hg j u hj;simp only[Option.some.injEq,Addr.mk.injEq,and_true]at he;obtain⟨rfl,rfl⟩:=he;unfold Addr.add;by_cases hj0:j=0
   ·subst hj0;simpa using hc
   ·rw[if_neg hj0];exact hc
  obtain⟨v',w',hr,h2,h3,_,h5⟩:=run_append_own_at (P:=P) (w:=w) base t o.type e i z size bytes ht hi1 i1 i2 i3 hzs hsz v n xs hown ⟨b,off,none⟩ m c cs hl hnews h1 (by simp only[maxLen];omega) (Nat.le_trans (Nat.mul_le_mul h63 hbytes) (by decide)) hbase
  unfold cC execOp;simp only[ho,resolve,invoke,builtin,Sem.run_bind,Sem.run_pure,Result.andThen_ok,List.map_toArray,List.map_cons,List.map_nil,hs,hx,hr];exact h v' w' h2 ((Below.refl base w).grown h3 hbase hb) h3 (fun k hk=>by rcases h5 with h5|h5<;>rw[h5]at hk;exact .inl hk;cases hk;exact .inr (Nat.le_refl _))
theorem Rd.aH2{w:World}{g:Nat}{t:TypeId}{cs:Array Value}(h:Blk w g t cs):Rd w (some ⟨g,0,none⟩) cs.toList:=by
 intro i u hi;refine⟨g,0,rfl,h.lt,?_⟩;rw[Nat.zero_add,h.cell i];simpa using hi
def WR2(m:Nat)(A B:World->Prop)(D:Nat->Bool)(wx:World):Prop:=if D m=true then B wx else A wx
section
variable {m i:Nat} {A B:World->Prop} {D:Nat->Bool} {wx:World}
theorem WR2.start(h:A wx):WR2 m A B (fun _=>false) wx:=h
theorem WR2.lo(h:WR2 m A B D wx)(hD:D m=false):A wx:=by unfold WR2 at h;rw[hD]at h;exact h
theorem WR2.hi(h:WR2 m A B D wx)(hD:D m=true):B wx:=by unfold WR2 at h;rw[if_pos hD]at h;exact h
theorem WR2.mkLo(hD:D m=false)(hi:m≠i)(h:A wx):WR2 m A B (gY D i) wx:=by unfold WR2 gY;rw[if_neg hi,hD];exact h
theorem WR2.mkHi(h:B wx):WR2 m A B (gY D m) wx:=by unfold WR2 gY;rw[if_pos (if_pos rfl)];exact h
theorem WR2.keep(hi:m≠i)(h:WR2 m A B D wx):WR2 m A B (gY D i) wx:=by unfold WR2 gY at*;rw[if_neg hi];exact h
end
def WR3(m n:Nat)(A B C:World->Prop)(D:Nat->Bool)(wx:World):Prop:=if D n=true then C wx else if D m=true then B wx else A wx
section
variable {m n i:Nat} {A B C:World->Prop} {D:Nat->Bool} {wx:World}
theorem WR3.start(h:A wx):WR3 m n A B C (fun _=>false) wx:=h
theorem WR3.lo(h:WR3 m n A B C D wx)(hD:D m=false)(hn:D n=false):A wx:=by unfold WR3 at h;rw[hD,hn]at h;exact h
theorem WR3.mid(h:WR3 m n A B C D wx)(hD:D m=true)(hn:D n=false):B wx:=by unfold WR3 at h;rw[hn,if_pos hD]at h;exact h
theorem WR3.hi(h:WR3 m n A B C D wx)(hn:D n=true):C wx:=by unfold WR3 at h;rw[if_pos hn]at h;exact h
theorem WR3.mkLo(hD:D m=false)(hn:D n=false)(hi:m≠i)(hi2:n≠i)(h:A wx):WR3 m n A B C (gY D i) wx:=by unfold WR3 gY;rw[if_neg hi,if_neg hi2,hD,hn];exact h
theorem WR3.mkMid(hn:D n=false)(hmn:n≠m)(h:B wx):WR3 m n A B C (gY D m) wx:=by unfold WR3 gY;rw[if_neg hmn,hn,if_pos (if_pos rfl)];exact h
theorem WR3.mkHi(h:C wx):WR3 m n A B C (gY D n) wx:=by unfold WR3 gY;rw[if_pos (if_pos rfl)];exact h
theorem WR3.keep(hi:m≠i)(hi2:n≠i)(h:WR3 m n A B C D wx):WR3 m n A B C (gY D i) wx:=by unfold WR3 gY at*;rw[if_neg hi,if_neg hi2];exact h
end
theorem oB{w w':World}{row:Option Nat}{g:Nat}{t:TypeId}{cs:Array Value}(h:w.grownBy w' row)(hb:Blk w g t cs)(hne:row≠some g):Blk w' g t cs:=(h.block g hb.lt (fun e=>hne e.symm)).trans hb
theorem yZ{w:World}{base:Nat}{e:TypeId}{size:Nat}{v:Value}{n:Nat}{xs:List Value}(h:w.ownsRow base e size v n xs){g:Nat}(hg:g<base):v.ownBlock≠some g:=fun hx=>by have:=(gE h g hx).1;omega
end Go.Proofs.YtdaeofhdgabhjaaGreat
namespace Go.Proofs.YtdaeofhdgabhjaaGreat
open Go.RowKit
section
variable {P:Program} {o:Oper} {E:Operand->AV} {σ:Nat->Option Ob} {n:Nat}
def aDS:AV->Option Int
 | .p (.int _ a)=>some a
 |_=>none
theorem Qa{ρ:Ren}{C:cE}{x:AV}{a:Int}{v:Value}(h:aDS x=some a)(hr:aO ρ C x v):∃k,v= .int k a:=by
 unfold aDS at h;split at h
 ·cases h;unfold aO bF at hr;exact⟨_,hr⟩
 ·cases h
def loA(E:Operand->AV)(lo:Option Operand)(d:Int):Option Int:=match lo with|none=>some d|some x=>aDS (E x)
def zZ(P:Program)(t:TypeId)(x:AV)(lo hi:Option Int)(K:AV->Prop):Prop:=∃e l h,fJ P t=some e/\(P.info? e).isSome=true/\aU P e≠0/\lo=some l/\hi=some h/\0<=l/\l<=h/\match x with
 | .p (.sl m cs)=>h<=m/\K (.p (.sl (h.toNat-l.toNat) ((cs.take (h.toNat*aU P e)).drop (l.toNat*aU P e))))
 | .own s oo m=>h<=m/\K (.own s (oo+l.toNat*aU P e) (h.toNat-l.toNat))
 |_=>False
def Lb:AV->Int
 | .p (.sl m _)=>m
 | .own _ _ m=>m
 |_=>0
theorem Al{t e:TypeId}(ht:P.underlying t=some (.slice e))(he:(P.info? e).isSome=true)(a:Option Addr)(m c:Nat)(hmc:m<=c)(lo hi:Option Value)(l h:Int)(h0:0<=l)(h1:l<=h)(h2:h<=m)
  (hlo:(lo=none/\l=0)\/∃k,lo=some (.int k l)) (hhi:(hi=none/\h=m)\/∃k,hi=some (.int k h)) (w:World):
  (Instr.sliceAt t (.slice a m c) lo hi none).run P w= .ok (.slice (if c=l.toNat then a else a.map (·.add (l.toNat*aU P e))) (h.toNat-l.toNat) (c-l.toNat)) w:=by
 obtain⟨i,hi'⟩:=Option.isSome_iff_exists.1 he;have hsz:aU P e=i.size:=by simp[aU,hi']
 have hb:(Instr.sliceBounds true m c lo hi none).run P w= .ok (l.toNat,h.toNat,c) w:=by
  rcases hlo with⟨rfl,rfl⟩|⟨k,rfl⟩<;>rcases hhi with⟨rfl,rfl⟩|⟨k',rfl⟩
  ·simp[Instr.sliceBounds]
  ·simp[Instr.sliceBounds,Instr.sliceBound,asIntOf,show 0<=h by omega,show h<=(c:Int) by omega]
  ·simp[Instr.sliceBounds,Instr.sliceBound,asIntOf,h0,h1]
  ·simp[Instr.sliceBounds,Instr.sliceBound,asIntOf,h0,show 0<=h by omega,show h<=(c:Int) by omega,show l<=max h 0 by omega]
 simp only[Instr.sliceAt,Sem.run_bind,run_underlying ht,Result.andThen_ok,Instr.slice,hb,sizeOf,typeInfo,run_program,hi',Sem.run_pure,hsz]
theorem Zf{t:TypeId}{x:Operand}{lo hi:Option Operand}(ho:o.op= .slice t x lo hi none){K:AV->Prop}(h:zZ P t (E x) (loA E lo 0) (loA E hi (Lb (E x))) K):∃r,cI P o E σ n r [] []/\K r:=by
 have hx:x∈o.op.operands.toList:=by rw[ho];simp[Op.operands]
 have hl:∀y,lo=some y->y∈o.op.operands.toList:=by intro y hy;rw[ho];simp[Op.operands,hy]
 have hh:∀y,hi=some y->y∈o.op.operands.toList:=by intro y hy;rw[ho];simp[Op.operands,hy]
 obtain⟨e,l,hv,he,he2,hez,hlo,hhi,h0,h1,h⟩:=h;have klo:∀(ρ:Ren) (C:cE) (V:Nat->Value),(∀x∈o.op.operands.toList,aO ρ C (E x) (bI V x))->(lo.map (bI V)=none/\l=0)\/∃k,lo.map (bI V)=some (.int k l):=by
  intro ρ C V hE;unfold loA at hlo;cases lo with
  |none=>simp at hlo;exact .inl ⟨rfl,hlo.symm⟩
  |some y=>obtain⟨k,hk⟩:=Qa hlo (hE y (hl y rfl));exact .inr ⟨k,by simp[hk]⟩
 have khi:∀(m:Nat),Lb (E x)=m->∀(ρ:Ren) (C:cE) (V:Nat->Value),(∀x∈o.op.operands.toList,aO ρ C (E x) (bI V x))->(hi.map (bI V)=none/\hv=m)\/∃k,hi.map (bI V)=some (.int k hv):=by
  intro m hm ρ C V hE;unfold loA at hhi;cases hi with
  |none=>simp at hhi;exact .inl ⟨rfl,by rw[<-hhi,hm]⟩
  |some y=>obtain⟨k,hk⟩:=Qa hhi (hE y (hh y rfl));exact .inr ⟨k,by simp[hk]⟩
 split at h
 ·rename_i m cs ex;obtain⟨h2,hK⟩:=h;refine⟨_,cI.val ?_,hK⟩;intro ρ C V w hE;have g1:=hE x hx;rw[ex]at g1;unfold aO bF at g1;obtain⟨a,c,g1,g2,g3,g4⟩:=g1;have hrun:=Al (mN he) he2 a m c g2 _ _ l hv h0 h1 h2 (klo ρ C V hE) (khi m (by rw[ex];rfl) ρ C V hE) w
  refine⟨.slice (if c=l.toNat then a else a.map (·.add (l.toNat*aU P e))) (hv.toNat-l.toNat) (c-l.toNat),?_,?_⟩
  ·unfold execOp;rw[ho];simp only[g1,Option.map_none,Sem.run_bind,hrun,Result.andThen_ok,Sem.run_pure]
  ·unfold aO bF;refine⟨_,_,rfl,by omega,?_,?_⟩
   ·intro hn;have:a=none:=by
     split at hn
     ·exact hn
     ·simpa using hn
    obtain⟨rfl,rfl⟩:=g3 this;simp
   ·intro ad had;split at had
    ·rename_i hc;subst had;refine⟨fun hpos=>(g4 ad rfl).1 (by omega),?_⟩
     have:((cs.take (hv.toNat*aU P e)).drop (l.toNat*aU P e))=[] :=by
      apply List.drop_eq_nil_of_le;rw[List.length_take];have:hv.toNat=l.toNat:=by omega
      rw[this];omega
     rw[this];unfold eW;trivial
    ·cases a with
     |none=>simp at had
     |some ad'=>
      simp at had;subst had;obtain⟨g5,g6⟩:=g4 ad' rfl;rcases Nat.eq_zero_or_pos m with hm0|hm0
      ·have e0:hv.toNat=0:=by omega
       refine⟨fun hpos=>by omega,?_⟩
       rw[e0];simp;unfold eW;trivial
      ·have g5:=g5 hm0;obtain⟨b,off,sp⟩:=ad';dsimp only at g5 g6;subst g5;rw[Addr.add_mid];exact⟨fun _=>rfl,(g6.take _).drop _⟩
 ·rename_i s oo m ex;obtain⟨h2,hK⟩:=h;refine⟨_,cI.val ?_,hK⟩;intro ρ C V w hE;have g1:=hE x hx;rw[ex]at g1;unfold aO at g1;obtain⟨q,c,g1,⟨rfl,g2,g3,g4⟩|⟨b,o',c',rfl,g2,g3,g4,g5⟩⟩:=g1
  ·have hrun:=Al (mN he) he2 none m 0 (by omega) _ _ l hv h0 h1 h2 (klo ρ C V hE) (khi m (by rw[ex];rfl) ρ C V hE) w
   subst g3 g4;have e1:l=0:=by omega
   have e2:hv=0:=by omega
   subst e1 e2;refine⟨.slice none 0 0,?_,?_⟩
   ·unfold execOp;rw[ho];simp only[g2,Option.map_none,Sem.run_bind,hrun,Result.andThen_ok,Sem.run_pure];simp
   ·unfold aO;exact⟨none,c,g1,.inl ⟨rfl,rfl,by simp,by simp⟩⟩
  ·have hrun:=Al (mN he) he2 (some ⟨b,o',none⟩) m c' g3 _ _ l hv h0 h1 h2 (klo ρ C V hE) (khi m (by rw[ex];rfl) ρ C V hE) w
   refine⟨.slice (if c'=l.toNat then some ⟨b,o',none⟩else(some (⟨b,o',none⟩:Addr)).map (·.add (l.toNat*aU P e))) (hv.toNat-l.toNat) (c'-l.toNat),?_,?_⟩
   ·unfold execOp;rw[ho];simp only[g2,Option.map_none,Sem.run_bind,hrun,Result.andThen_ok,Sem.run_pure]
   ·unfold aO;refine⟨some b,c,g1,.inr ⟨b,if c'=l.toNat then o' else o'+l.toNat*aU P e,c'-l.toNat,rfl,?_,by omega,?_,?_⟩⟩
    ·split<;>simp[Addr.add_mid]
    ·intro hne;have:c'≠l.toNat:=by omega
     rw[if_neg this,g4 (by omega)]
    ·intro hz;have h3:oo=0:=by omega
     have h4:l.toNat*aU P e=0:=by omega
     obtain⟨g6,g7⟩:=g5 h3;rcases Nat.mul_eq_zero.1 h4 with h5|h5
     ·rw[h5];simp[g6,g7]
     ·exact absurd h5 hez
 ·exact h.elim
def aAZ(P:Program)(t:TypeId)(x:AV)(K:AV->Prop):Prop:=match x with
 | .p (.sl m _)=>(fJ P t).isSome=true/\K (.p (.int .i64 m))
 | .own _ _ m=>(fJ P t).isSome=true/\K (.p (.int .i64 m))
 | .nil=>(fJ P t).isSome=true/\K (.p (.int .i64 0))
 | .p (.str s)=>(match P.underlying t with|some .string=>true|_=>false)=true/\K (.p (.int .i64 s.size))
 |_=>False
theorem aEC{x:Operand}{t:TypeId}(ho:o.op= .call {callee:= .builtin .len,args:= #[x],argTypes:= #[t]}) {K:AV->Prop} (h:aAZ P t (E x) K):∃r,cI P o E σ n r [] []/\K r:=by
 have hx:x∈o.op.operands.toList:=by rw[ho];simp[Op.operands,Call.operands]
 have key:∀(m:Nat),(fJ P t).isSome=true->(∀ρ C v,aO ρ C (E x) v->∃a c,v= .slice a m c)->cI P o E σ n (.p (.int .i64 m)) [] [] :=by
  intro m ht hv;obtain⟨e,he⟩:=Option.isSome_iff_exists.1 ht;have hu:=mN he;refine cI.val ?_;intro ρ C V w hE;obtain⟨a,c,h1⟩:=hv ρ C _ (hE x hx);refine⟨.int .i64 m,?_,by unfold aO bF;rfl⟩
  unfold execOp;rw[ho];simp[resolve,invoke,builtin,Builtin.len_,h1,run_underlying hu,goInt]
 unfold aAZ at h;split at h
 ·rename_i m cs e;refine⟨_,key m h.1 fun ρ C v hv=> ?_,h.2⟩
  rw[e]at hv;unfold aO bF at hv;obtain⟨a,c,h1,_⟩:=hv;exact⟨a,c,h1⟩
 ·rename_i s oo m e;refine⟨_,key m h.1 fun ρ C v hv=> ?_,h.2⟩
  rw[e]at hv;unfold aO at hv;obtain⟨q,c,_,⟨_,h2,rfl,_⟩|⟨b,o',c',_,h2,_⟩⟩:=hv
  ·exact⟨none,0,h2⟩
  ·exact⟨_,_,h2⟩
 ·rename_i e;refine⟨_,key 0 h.1 fun ρ C v hv=> ?_,h.2⟩
  rw[e]at hv;unfold aO at hv;exact⟨none,0,hv⟩
 ·rename_i s e;obtain⟨ht,hK⟩:=h;refine⟨_,cI.val ?_,hK⟩;intro ρ C V w hE;have h1:=hE x hx;rw[e]at h1;unfold aO bF at h1;have hu:P.underlying t=some .string:=by
   split at ht
   ·assumption
   ·cases ht
  refine⟨.int .i64 s.size,?_,by unfold aO bF;rfl⟩
  unfold execOp;rw[ho];simp[resolve,invoke,builtin,Builtin.len_,h1,run_underlying hu,goInt]
 ·exact h.elim
def gL:AV->Option (List AV)
 | .agg l=>some l
 | .p (.agg l)=>some (l.map .p)
 | .p (.tup _)=>none
 | .p x=>some [.p x]
 | .nil=>some [.nil]
 | .ptr s off=>some [.ptr s off]
 | .own s o n=>some [.own s o n]
 | .fn f a b=>some [.fn f a b]
 |_=>none
theorem xM{ρ:Ren}{C:cE}{x:AV}{l:List AV}{v:Value}(h:gL x=some l)(hr:aO ρ C x v):aZ ρ C l v.cells.toList/\qE v.cells.toList:=by
 have key:∀(y:AV),l=[y]->aO ρ C y v->v.oneCell'=true->aZ ρ C l v.cells.toList/\qE v.cells.toList:=by
  intro y hl hy h1;have hc:v.cells.toList=[v] :=by cases v<;>first|rfl|(simp[Value.oneCell']at h1;done)
  rw[hc,hl];refine⟨?_,fun u hu=>by simp at hu;subst hu;exact h1⟩
  unfold aZ;exact⟨v,[],rfl,hy,by unfold aZ;rfl⟩
 unfold gL at h;split at h
 ·cases h;unfold aO at hr;obtain⟨vs,rfl,h1,h2⟩:=hr;exact⟨by simpa[Value.cells]using h1,by simpa[Value.cells]using h2⟩
 ·cases h;unfold aO bF at hr;obtain⟨vs,rfl,h1,h2⟩:=hr;exact⟨by simpa[Value.cells]using h1.toA,by simpa[Value.cells]using h2⟩
 ·cases h
 ·rename_i y hn1 hn2;cases h;refine key _ rfl hr ?_;unfold aO at hr;cases y<;>unfold bF at hr
  ·rw[hr];rfl
  ·rw[hr];rfl
  ·rw[hr];rfl
  ·exact absurd rfl (hn1 _)
  ·exact absurd rfl (hn2 _)
  ·obtain⟨a,c,h1,_⟩:=hr;rw[h1];rfl
  ·obtain⟨a,c,h1,_⟩:=hr;rw[h1];rfl
  ·obtain⟨a,c,h1,_⟩:=hr;rw[h1];rfl
 ·cases h;refine key _ rfl hr ?_;unfold aO at hr;rw[hr];rfl
 ·cases h;refine key _ rfl hr ?_;unfold aO at hr;obtain⟨b,c,_,h2⟩:=hr;rw[h2];rfl
 ·cases h;refine key _ rfl hr ?_;unfold aO at hr;obtain⟨q,c,_,⟨_,h2,_⟩|⟨b,o',c',_,h2,_⟩⟩:=hr<;>(rw[h2];rfl)
 ·cases h;refine key _ rfl hr ?_;unfold aO at hr;obtain⟨a,b,h2,_⟩:=hr;rw[h2];rfl
 ·cases h
def kR(cs:List AV)(off:Nat):List AV->List AV
 |[] =>cs
 |x::l=>kR (cs.set off x) (off+1) l
theorem qO:∀(l:List AV) (cs:List AV) (off:Nat),(kR cs off l).length=cs.length
 |[],cs,off=>rfl
 |x::l,cs,off=>by unfold kR;rw[qO l];simp
def nR(place:Nat->Option (Nat×Nat))(cells:List AV):List (Nat×AV)->Option (List AV)
 |[] =>some cells
 |(i,v)::rest=>match place i,gL v with
  |some (off,size),some l=>if l.length=size/\off+size<=cells.length then nR place (kR cells off l) rest else none
  |_,_=>none
theorem aZ.set{ρ:Ren}{C:cE}{l:List AV}{vs:List Value}(h:aZ ρ C l vs)(k:Nat){x:AV}{v:Value}(hx:aO ρ C x v):aZ ρ C (l.set k x) (vs.set k v):=
 aZ.of _ _ (by simp[h.length]) fun i y hi=>by
  have hl:=h.length;rw[List.getElem?_set]at hi|-;split at hi
  ·rename_i e;subst e;split at hi
   ·cases hi;rw[if_pos rfl,if_pos (by omega)];exact⟨v,rfl,hx⟩
   ·cases hi
  ·rename_i e;rw[if_neg e];exact h.get _ _ i y hi
theorem Oz{ρ:Ren}{C:cE}:∀(l:List AV) (vs:List Value) (cs:List AV) (us:List Value) (off:Nat) (j:Nat),aZ ρ C l vs->aZ ρ C cs us->qE vs->qE us->
  aZ ρ C (kR cs (off+j) l) ((vs.zipIdx j).foldl (fun(a:Array Value) (c,j)=>a.setIfInBounds (off+j) c) us.toArray).toList/\qE ((vs.zipIdx j).foldl (fun(a:Array Value) (c,j)=>a.setIfInBounds (off+j) c) us.toArray).toList
 |[],vs,cs,us,off,j,h1,h2,h3,h4=>by unfold aZ at h1;subst h1;simpa[kR]using⟨h2,h4⟩
 |x::l,vs,cs,us,off,j,h1,h2,h3,h4=>by
  unfold aZ at h1;obtain⟨v,r,rfl,hv,hr⟩:=h1;have:=Oz l r (cs.set (off+j) x) (us.set (off+j) v) off (j+1) hr (h2.set _ hv) (fun u hu=>h3 u (List.mem_cons_of_mem _ hu)) (fun u hu=>by
   rcases List.mem_or_eq_of_mem_set hu with h|h
   ·exact h4 u h
   ·subst h;exact h3 _ List.mem_cons_self)
  simpa[kR,List.zipIdx_cons,Nat.add_assoc]using this
theorem Ba{ρ:Ren}{C:cE}{place:Nat->Option (Nat×Nat)}:∀(parts:List (Nat×AV)) (vparts:List (Nat×Value)) (cs res:List AV) (us:List Value),
  nR place cs parts=some res->vparts.length=parts.length->(∀(j:Nat) q,parts[j]? =some q->∃v,vparts[j]? =some (q.1,v)/\aO ρ C q.2 v)->aZ ρ C cs us->qE us->
  ∃vs:List Value,Instr.fill place us.toArray vparts=some vs.toArray/\aZ ρ C res vs/\qE vs
 |[],vparts,cs,res,us,h,hl,hp,hc,h1=>by
  simp[nR]at h;subst h;have:vparts=[] :=List.length_eq_zero_iff.1 hl;subst this;exact⟨us,rfl,hc,h1⟩
 |(i,x)::rest,vparts,cs,res,us,h,hl,hp,hc,h1=>by
  obtain⟨v,hv0,hv⟩:=hp 0 (i,x) rfl;cases vparts with
  |nil=>simp at hl
  |cons q vparts=>
   simp at hv0;subst hv0;unfold nR at h;split at h
   ·rename_i off size l hpl hcl;split at h
    ·rename_i hsz;obtain⟨c1,c2⟩:=xM hcl hv;have hlen:=c1.length;have hcs:=hc.length;obtain⟨s1,s2⟩:=Oz l v.cells.toList cs us off 0 c1 hc c2 h1;obtain⟨vs,f1,f2,f3⟩:=Ba rest vparts _ res _ h (by simpa using hl) (fun j q hj=>hp (j+1) q (by simpa using hj)) s1 s2
     refine⟨vs,?_,f2,f3⟩;unfold Instr.fill;rw[hpl];dsimp only;simp only[Array.length_toList]at hlen;have e1:¬(v.cells.size≠size||decide (off+v.cells.size>us.toArray.size))=true:=by
      simp;omega
     rw[if_neg e1];rw[<-f1]
     congr 1
     have e2:∀(a:Array Value),a.zipIdx.foldl (fun(cs:Array Value) (x:Value×Nat)=>match x with|(c,j)=>cs.setIfInBounds (off+j) c) us.toArray=(a.toList.zipIdx 0).foldl (fun(cs:Array Value) (x:Value×Nat)=>match x with|(c,j)=>cs.setIfInBounds (off+j) c) us.toArray:=by
      intro a;rw[<-Array.foldl_toList,Array.toList_zipIdx]
     rw[e2]
    ·cases h
   ·cases h
def iZ(P:Program)(t:TypeId):Nat->Option (Nat×Nat):=match P.underlying t with
 |some (.struct fs)=>fun i=>(fs[i]?).map fun f=>(f.offset,aU P f.type)
 |some (.array _ e)=>fun i=>some (i*aU P e,aU P e)
 |_=>fun _=>none
def kU(P:Program)(t:TypeId):Bool:=match P.underlying t with
 |some (.struct fs)=>fs.toList.all fun f=>(P.info? f.type).isSome
 |some (.array _ e)=>(P.info? e).isSome
 |_=>false
def mmA(f:Int->Int->Int)(x y:AV)(K:AV->Prop):Prop:=match x,y with
 | .p (.int .i64 a),.p (.int .i64 b)=>K (.p (.int .i64 (f a b)))
 |_,_=>False
theorem aG6{P:Program}(ts:Array TypeId)(t:TypeId)(x y:Int)(w:World):(Builtin.min_ ts t #[.int .i64 x,.int .i64 y]).run P w= .ok (.int .i64 (min x y)) w/\(Builtin.max_ ts t #[.int .i64 x,.int .i64 y]).run P w= .ok (.int .i64 (max x y)) w:=by
 have h:= @run_min_int2 P w ts t .i64 .i64 x y;have h2:= @run_max_int2 P w ts t .i64 .i64 x y;rw[h,h2];constructor<;>(congr 2;omega)
theorem aEx{x y:Operand}{ts:Array TypeId}(ho:o.op= .call {callee:= .builtin .min,args:= #[x,y],argTypes:=ts}) {K:AV->Prop} (h:mmA min (E x) (E y) K):∃r,cI P o E σ n r [] []/\K r:=by
 unfold mmA at h;split at h
 ·rename_i a b ea eb;refine⟨_,cI.val ?_,h⟩;intro ρ C V w hE;have h1:=hE x (by rw[ho];simp[Op.operands,Call.operands])
  have h2:=hE y (by rw[ho];simp[Op.operands,Call.operands])
  rw[ea]at h1;rw[eb]at h2;unfold aO bF at h1 h2;refine⟨.int .i64 (min a b),?_,by unfold aO bF;rfl⟩
  unfold execOp;rw[ho];simp[resolve,invoke,builtin,h1,h2,(aG6 _ _ _ _ _).1]
 ·exact h.elim
theorem aEz{x y:Operand}{ts:Array TypeId}(ho:o.op= .call {callee:= .builtin .max,args:= #[x,y],argTypes:=ts}) {K:AV->Prop} (h:mmA max (E x) (E y) K):∃r,cI P o E σ n r [] []/\K r:=by
 unfold mmA at h;split at h
 ·rename_i a b ea eb;refine⟨_,cI.val ?_,h⟩;intro ρ C V w hE;have h1:=hE x (by rw[ho];simp[Op.operands,Call.operands])
  have h2:=hE y (by rw[ho];simp[Op.operands,Call.operands])
  rw[ea]at h1;rw[eb]at h2;unfold aO bF at h1 h2;refine⟨.int .i64 (max a b),?_,by unfold aO bF;rfl⟩
  unfold execOp;rw[ho];simp[resolve,invoke,builtin,h1,h2,(aG6 _ _ _ _ _).2]
 ·exact h.elim
end
end Go.Proofs.YtdaeofhdgabhjaaGreat
namespace Go.Proofs.YtdaeofhdgabhjaaGreat
open Go.RowKit
section
variable {P:Program} {o:Oper} {E:Operand->AV} {σ:Nat->Option Ob} {n:Nat}
def Dy(P:Program)(t:TypeId)(parts:List (Nat×AV))(K:AV->Prop):Prop:=∃z,gD P t=some z/\gI P t=true/\kU P t=true/\∃l,nR (iZ P t) z parts=some l/\K (iK l)
theorem Jo:∀(fs:List Field),fs.all (fun f=>(P.info? f.type).isSome)=true->fs.mapM (fun f=>(P.info? f.type).map fun i=>(f.offset,i.size))=some (fs.map fun f=>(f.offset,aU P f.type))
 |[],_=>rfl
 |f::fs,h=>by
  simp only[List.all_cons,Bool.and_eq_true]at h;obtain⟨i,hi⟩:=Option.isSome_iff_exists.1 h.1;simp[List.mapM_cons,hi,Jo fs h.2,aU]
theorem Af{t:TypeId}{z:List AV}(h:gD P t=some z)(h1:gI P t=true):∃i zv,P.info? t=some i/\i.zero=some zv/\zv.cells.size=i.size/\qE zv.cells.toList/\z=zv.cells.toList.map jX:=by
 unfold gD at h;simp only[Option.bind_eq_some_iff,Option.map_eq_some_iff]at h;obtain⟨i,hi,zv,hz,rfl⟩:=h;unfold gI at h1;simp only[hi,Option.bind_some,hz,Option.map_some,Option.getD_some,Bool.and_eq_true,beq_iff_eq,List.all_eq_true]at h1;exact⟨i,zv,hi,hz,h1.2,h1.1,rfl⟩
theorem aAK{t:TypeId}{parts:Array (Nat×Operand)}(ho:o.op= .build t parts){K:AV->Prop}(h:Dy P t (parts.toList.map fun q=>(q.1,E q.2)) K):∃r,cI P o E σ n r [] []/\K r:=by
 obtain⟨z,hz,hz1,hpo,l,hl,hK⟩:=h;refine⟨_,cI.val ?_,hK⟩;intro ρ C V w hE;obtain⟨i,zv,hi,hiz,hsz,hone,rfl⟩:=Af hz hz1;have hp:∀(j:Nat) q,(parts.toList.map fun q=>(q.1,E q.2))[j]? =some q->∃v,(parts.toList.map fun q=>(q.1,bI V q.2))[j]? =some (q.1,v)/\aO ρ C q.2 v:=by
  intro j q hj;rw[List.getElem?_map]at hj|-;cases hq:parts.toList[j]? with
  |none=>rw[hq]at hj;cases hj
  |some q'=>
   rw[hq]at hj;simp only[Option.map_some,Option.some.injEq]at hj;subst hj;refine⟨bI V q'.2,rfl,hE q'.2 ?_⟩;rw[ho];simp only[Op.operands];exact List.mem_map.2 ⟨q',List.mem_of_getElem? hq,rfl⟩
 obtain⟨vs,f1,f2,f3⟩:=Ba _ (parts.toList.map fun q=>(q.1,bI V q.2)) _ l zv.cells.toList hl (by simp) hp (oC _) hone
 have hb:P.built t (parts.map fun q=>(q.1,bI V q.2)).toList=some vs.toArray:=by
  unfold Program.built;rw[hi];unfold kU at hpo;unfold iZ at f1;cases hu:P.underlying t with
  |none=>rw[hu]at hpo;cases hpo
  |some d=>
   rw[hu]at hpo f1;cases d<;>first|(cases hpo;done)|skip
   case struct fs=>
    dsimp only at hpo f1|-;rw[hiz,Jo _ hpo];dsimp only;rw[<-f1];simp
   case array m e=>
    dsimp only at hpo f1|-;obtain⟨ie,hie⟩:=Option.isSome_iff_exists.1 hpo;rw[hiz,hie];dsimp only;rw[<-f1];simp[aU,hie]
 refine⟨.agg vs.toArray,?_,vV f2 f3⟩;unfold execOp;rw[ho];simp only[Sem.run_bind,run_build w t _ _ hb,Result.andThen_ok,Sem.run_pure]
theorem StR.step{C0:cE}{ρ ρ':Ren}{g:Nat->Option Ob}{w w':World}{B:Nat}{W:List (Nat×Option Ob)}(hs:StR C0 ρ g w B)
  (hρ:∀s o,W.lookup s=none->g s=some o->ρ' s=ρ s) (hext:∀s q,ρ s=some q->ρ' s=some q)
  (hmono:∀b o x,aY C0 B w ρ g b o x->aY C0 B w' ρ' (eM g W) b o x)
  (hold:∀s o b c,W.lookup s=none->g s=some o->ρ s=some (some b,c)->w'.heap[b]? =w.heap[b]?)
  (hnew:∀s o,W.lookup s=some (some o)->∃q c,ρ' s=some (q,c)/\((q=none/\o.esz≠0/\o.cells=[]/\c=0)\/∃b arr,q=some b/\B<=b/\ObRep ρ' (aY C0 B w' ρ' (eM g W)) w' b c o arr/\
    ∀s' o' c',s'≠s->eM g W s'=some o'->ρ' s'≠some (some b,c'))):StR C0 ρ' (eM g W) w' B:=by
 refine⟨?_,?_⟩
 ·intro s ob hob;unfold eM at hob;split at hob
  ·rename_i x hx;subst hob;obtain⟨q,c,h1,h2|⟨b,arr,h2,h3,h4,_⟩⟩:=hnew s ob hx
   ·exact⟨q,c,h1,.inl h2⟩
   ·exact⟨q,c,h1,.inr ⟨b,arr,h2,h3,h4⟩⟩
  ·rename_i hx;obtain⟨q,c,h1,h2|⟨b,arr,h2,h3,h4⟩⟩:=hs.ob s ob hob
   ·exact⟨q,c,(hρ s ob hx hob).trans h1,.inl h2⟩
   ·refine⟨q,c,(hρ s ob hx hob).trans h1,.inr ⟨b,arr,h2,h3,?_,h4.box,h4.row,?_⟩⟩
    ·subst h2;rw[hold s ob b c hx hob h1];exact h4.blk
    ·intro i x hi;obtain⟨v,g1,g2,g3⟩:=h4.cells i x hi;exact⟨v,g1,g2,aO.mono hext hmono x v g3⟩
 ·intro s s' ob ob' b c c' h1 h2 h3 h4;by_cases hss:s=s'
  ·exact hss
  have k1:=h1;have k2:=h2;unfold eM at h1 h2;split at h1
  ·rename_i x hx;subst h1;obtain⟨q,c2,e1,⟨e2,_⟩|⟨b2,arr,e2,_,_,e5⟩⟩:=hnew s ob hx
   ·rw[h3]at e1;cases e1;cases e2
   ·rw[h3]at e1;cases e1;cases e2;exact absurd h4 (e5 s' ob' c' (fun h=>hss h.symm) k2)
  ·rename_i hx;split at h2
   ·rename_i x hx2;subst h2;obtain⟨q,c2,e1,⟨e2,_⟩|⟨b2,arr,e2,_,_,e5⟩⟩:=hnew s' ob' hx2
    ·rw[h4]at e1;cases e1;cases e2
    ·rw[h4]at e1;cases e1;cases e2;exact absurd h3 (e5 s ob c hss k1)
   ·rename_i hx2;exact hs.inj s s' ob ob' b c c' h1 h2 ((hρ s ob hx h1).symm.trans h3) ((hρ s' ob' hx2 h2).symm.trans h4)
theorem cI.alloc{r:AV}{ob:Ob}(h:∀(ρ:Ren) (C:cE) (V:Nat->Value) (w:World),(∀x∈o.op.operands.toList,aO ρ C (E x) (bI V x))->
  ∃v arr c,(execOp (bI V) o).run P w= .ok (.value v) (w.alloc (.cells arr ob.ty))/\(ob.esz=0->arr.size=ob.cells.length)/\(ob.esz≠0->arr.size=c*ob.esz/\ob.cells.length<=arr.size/\c<=maxLen)/\
   aZ ρ C ob.cells (arr.toList.take ob.cells.length)/\qE arr.toList/\∀(ρ':Ren) (C':cE),ρ' n=some (some w.heap.size,c)->aO ρ' C' r v):cI P o E σ n r [] [(n,some ob)] :=by
 intro C0 ρ g V w B hs hB _ hn hgn hE;obtain⟨v,arr,c,hrun,h1,h2,h3,h4,h5⟩:=h ρ _ V w hE;unfold cC;rw[hrun];dsimp only;have hblk:(w.alloc (.cells arr ob.ty)).heap[w.heap.size]? =some (.cells arr ob.ty (0,0)):=heap_alloc_new w _
 let ρ':Ren:=fun s=>if s=n then some (some w.heap.size,c)else ρ s
 have hext:∀s q,ρ s=some q->ρ' s=some q:=by
  intro s q hq;show(if s=n then _ else _)=_
  rw[if_neg (fun e=>by rw[e,hn]at hq;cases hq)];exact hq
 have hlt:∀s ob b c,g s=some ob->ρ s=some (some b,c)->b<w.heap.size:=by
  intro s ob b c e1 e2;obtain⟨_,arr,e3⟩:=hs.at e1 e2;exact e3.lt
 have hold:∀b,b<w.heap.size->(w.alloc (.cells arr ob.ty)).heap[b]? =w.heap[b]? :=fun b hb=>Below.heap_alloc w _ b hb
 have hlk:∀s,s≠n->[(n,some ob)].lookup s=none:=by intro s hs;simp[List.lookup,beq_eq_false_iff_ne.2 hs]
 have hup:∀s,s≠n->eM g [(n,some ob)] s=g s:=by intro s hs;unfold eM;rw[hlk s hs]
 have hmono:∀b o' x,aY C0 B w ρ g b o' x->aY C0 B (w.alloc (.cells arr ob.ty)) ρ' (eM g [(n,some ob)]) b o' x:=by
  intro b o' x ⟨e1,e2,e0⟩;have hb:b<w.heap.size:=World.block_lt_of_cell? w ⟨b,o',none⟩ e1;refine⟨(World.cell?_of_block (hold b hb)).trans e1,?_,e0⟩;intro s c' e3;by_cases e:s=n
  ·subst e;simp only[ρ',if_true]at e3;cases e3;omega
  ·simp only[ρ',if_neg e]at e3;rw[hup s e];exact e2 s c' e3
 refine⟨ρ',fun s hs=>by simp only[ρ',if_neg hs],hmono,?_,h5 _ _ (by simp[ρ']),(Below.refl B w).alloc hB _⟩
 refine hs.step ?_ hext hmono ?_ ?_
 ·intro s ob' e1 e2;have:s≠n:=fun e=>by rw[e,hgn]at e2;cases e2
  simp only[ρ',if_neg this]
 ·intro s ob' b c' _ e2 e3;exact hold b (hlt s ob' b c' e2 e3)
 ·intro s ob' e;have e1:s=n:=by
   rcases Nat.decEq s n with h|h
   ·rw[hlk s h]at e;cases e
   ·exact h
  subst e1;have e2:ob'=ob:=by simp[List.lookup]at e;exact e.symm
  subst e2;refine⟨some w.heap.size,c,by simp[ρ'],.inr ⟨w.heap.size,arr,rfl,hB,⟨hblk,h1,h2,?_⟩,?_⟩⟩
  ·intro i x hi;obtain⟨u,g1,g2⟩:=h3.get _ _ i x hi;rw[List.getElem?_take]at g1;split at g1
   ·refine⟨u,by simpa using g1,h4 u (List.mem_of_getElem? g1),aO.mono hext hmono x u g2⟩
   ·cases g1
  ·intro s' o' c' hne e3 e4;rw[hup s' hne]at e3;simp only[ρ',if_neg hne]at e4;have:=hlt s' o' _ c' e3 e4;omega
def Ll(P:Program)(n:Nat)(t:TypeId)(K:Res):Prop:=∃z,gD P t=some z/\gI P t=true/\K (.ptr n 0) [] [(n,some ⟨t,0,z⟩)]
theorem aAP{t:TypeId}(ho:o.op= .alloc t){K:Res}(h:Ll P n t K):∃r R W,cI P o E σ n r R W/\K r R W:=by
 obtain⟨z,hz,hz1,hK⟩:=h;refine⟨_,_,_,cI.alloc ?_,hK⟩;intro ρ C V w hE;obtain⟨i,zv,hi,hiz,hsz,hone,rfl⟩:=Af hz hz1;refine⟨.pointer (some ⟨w.heap.size,0,none⟩),zv.cells,0,?_,fun _=>by simp,fun h=>absurd rfl h,?_,hone,fun ρ' C' h=> ?_⟩
 ·unfold execOp;rw[ho];simp[Instr.alloc,zeroValue,typeInfo,hi,hiz,newVar,newRow]
 ·rw[List.take_of_length_le (by simp)];exact oC _
 ·unfold aO;exact⟨_,_,h,rfl⟩
def aD0(n:Nat)(t:TypeId)(x:AV)(K:Res):Prop:=∃l,gL x=some l/\K (.ptr n 0) [] [(n,some ⟨t,0,l⟩)]
theorem aE0{t:TypeId}{x:Operand}(ho:o.op= .box t x){K:Res}(h:aD0 n t (E x) K):∃r R W,cI P o E σ n r R W/\K r R W:=by
 obtain⟨l,hl,hK⟩:=h;refine⟨_,_,_,cI.alloc ?_,hK⟩;intro ρ C V w hE;obtain⟨h1,h2⟩:=xM hl (hE x (by rw[ho];simp[Op.operands]))
 have h3:=h1.length;refine⟨.pointer (some ⟨w.heap.size,0,none⟩),(bI V x).cells,0,?_,fun _=>by simpa using h3,fun h=>absurd rfl h,?_,h2,fun ρ' C' h=> ?_⟩
 ·unfold execOp;rw[ho];simp[Instr.box,newVar,newRow]
 ·rw[List.take_of_length_le (Nat.le_of_eq h3)];exact h1
 ·unfold aO;exact⟨_,_,h,rfl⟩
def xQ:Nat->List AV->List AV
 |0,_=>[]
 |m+1,z=>z++xQ m z
def sL(P:Program)(n:Nat)(t:TypeId)(len:Nat)(parts:List (Nat×AV))(K:Res):Prop:=∃e z,fJ P t=some e/\gD P e=some z/\gI P e=true/\z≠[]/\len*aU P e<=1000000/\
 ∃l,nR (fun i=>some (i*aU P e,aU P e)) (xQ len z) parts=some l/\K (.own n 0 len) [] [(n,some ⟨e,aU P e,l⟩)]
theorem By(z:List AV):∀m,(xQ m z).length=m*z.length
 |0=>by simp[xQ]
 |m+1=>by simp[xQ,By z m,Nat.add_mul];omega
theorem aCk(zv:Array Value)(_hz:0<zv.size)(m:Nat):((Array.range (m*zv.size)).map (fun j=>zv[j % zv.size]!)).toList=(List.replicate m zv.toList).flatten:=by
 apply List.ext_getElem?;induction m with
 |zero=>intro i;simp
 |succ m ih=>
  intro i;rw[List.replicate_succ,List.flatten_cons];by_cases hi:i<zv.size
  ·rw[List.getElem?_append_left (by simpa using hi)]
   have h1:i<(m+1)*zv.size:=by rw[Nat.add_mul];omega
   simp[h1,Nat.mod_eq_of_lt hi,hi]
  ·rw[List.getElem?_append_right (by simp;omega)]
   rw[<-ih];have e1:(i-zv.size) % zv.size=i % zv.size:=by
    conv=>rhs;rw[show i=(i-zv.size)+zv.size by omega,Nat.add_mod_right]
   simp only[Array.length_toList,Array.getElem?_toList,Array.getElem?_map,Array.getElem?_range];by_cases h1:i-zv.size<m*zv.size
   ·rw[if_pos (by rw[Nat.add_mul];omega),if_pos h1];simp only[Option.map_some,e1]
   ·rw[if_neg (by rw[Nat.add_mul];omega),if_neg h1]
theorem Jd{ρ:Ren}{C:cE}(zs:List Value):∀m,aZ ρ C (xQ m (zs.map jX)) (List.replicate m zs).flatten
 |0=>by simp[xQ];unfold aZ;rfl
 |m+1=>by
  rw[List.replicate_succ,List.flatten_cons,xQ];have ih:=Jd (ρ:=ρ) (C:=C) zs m;refine aZ.of _ _ (by simp[ih.length]) fun i x hi=> ?_
  by_cases h:i<(zs.map jX).length
  ·rw[List.getElem?_append_left h]at hi;rw[List.getElem?_append_left (by simpa using h)]
   exact(oC zs).get _ _ i x hi
  ·rw[List.getElem?_append_right (by omega)]at hi
   rw[List.getElem?_append_right (by simp at h;omega)]
   have:=ih.get _ _ _ x hi;simpa using this
theorem Vq{t:TypeId}{len:Nat}{parts:Array (Nat×Operand)}(ho:o.op= .buildSlice t len parts){K:Res}(h:sL P n t len (parts.toList.map fun q=>(q.1,E q.2)) K):∃r R W,cI P o E σ n r R W/\K r R W:=by
 obtain⟨e,z,he,hz,hz1,hne,hlen,l,hl,hK⟩:=h;refine⟨_,_,_,cI.alloc ?_,hK⟩;intro ρ C V w hE;obtain⟨i,zv,hi,hiz,hsz,hone,rfl⟩:=Af hz hz1;have hsize:aU P e=zv.cells.size:=by simp[aU,hi,hsz]
 have hpos:0<zv.cells.size:=by
  rcases Nat.eq_zero_or_pos zv.cells.size with h|h
  ·exfalso;apply hne;rw[<-Array.length_toList]at h;rw[List.length_eq_zero_iff.1 h];rfl
  ·exact h
 have hp:∀(j:Nat) q,(parts.toList.map fun q=>(q.1,E q.2))[j]? =some q->∃v,(parts.toList.map fun q=>(q.1,bI V q.2))[j]? =some (q.1,v)/\aO ρ C q.2 v:=by
  intro j q hj;rw[List.getElem?_map]at hj|-;cases hq:parts.toList[j]? with
  |none=>rw[hq]at hj;cases hj
  |some q'=>
   rw[hq]at hj;simp only[Option.map_some,Option.some.injEq]at hj;subst hj;refine⟨bI V q'.2,rfl,hE q'.2 ?_⟩;rw[ho];simp only[Op.operands];exact List.mem_map.2 ⟨q',List.mem_of_getElem? hq,rfl⟩
 have hones:qE (List.replicate len zv.cells.toList).flatten:=by
  intro u hu;simp only[List.mem_flatten,List.mem_replicate]at hu;obtain⟨l',⟨_,rfl⟩,hu⟩:=hu;exact hone u hu
 obtain⟨vs,f1,f2,f3⟩:=Ba _ (parts.toList.map fun q=>(q.1,bI V q.2)) _ l _ hl (by simp) hp (Jd _ len) hones
 have hl2:=f2.length;have hl3:l.length=len*aU P e:=by
  have:∀(parts:List (Nat×AV)) (cs res:List AV),nR (fun i=>some (i*aU P e,aU P e)) cs parts=some res->res.length=cs.length:=by
   intro parts;induction parts with
   |nil=>intro cs res h;simp[nR]at h;rw[h]
   |cons q parts ih=>
    intro cs res h;obtain⟨i,x⟩:=q;unfold nR at h;split at h
    ·split at h
     ·rw[ih _ _ h,qO]
     ·cases h
    ·cases h
  rw[this _ _ _ hl,By,List.length_map,Array.length_toList,hsize]
 refine⟨.slice (some ⟨w.heap.size,0,none⟩) len len,vs.toArray,len,?_,fun h=>by simp at h;omega,fun _=> ?_,?_,by simpa using f3,fun ρ' C' h=> ?_⟩
 ·unfold execOp;rw[ho];have e1:¬(len*aU P e>2^24):=by omega
  have e2:((parts.map fun q=>(q.1,bI V q.2)).toList)=(parts.toList.map fun q=>(q.1,bI V q.2)):=by simp
  have e3:∀w:World,(sizeOf e).run P w= .ok (aU P e) w:=fun w=>by simp[sizeOf,typeInfo,hi,aU]
  have e4:∀w:World,(zeroValue e).run P w= .ok zv w:=fun w=>by simp[zeroValue,typeInfo,hi,hiz]
  by_cases h0:len*aU P e=0
  ·have hl0:len=0:=by
    rcases Nat.mul_eq_zero.1 h0 with h|h
    ·exact h
    ·rw[hsize]at h;omega
   subst hl0;simp only[List.replicate_zero,List.flatten_nil]at f1;simp only[Instr.buildSlice,Sem.run_bind,run_underlying (mN he),Result.andThen_ok,e3,Nat.zero_mul,if_neg (show¬(0:Nat)>2^24 by omega),if_true,Sem.run_pure]
   have e6:(Array.range 0).map (fun x=>(#[] :Array Value)[x % (#[] :Array Value).size]!)= #[] :=by simp
   rw[e6,e2];rw[f1];simp[newRow]
  ·have e5:(Array.range (len*aU P e)).map (fun j=>zv.cells[j % zv.cells.size]!)=(List.replicate len zv.cells.toList).flatten.toArray:=by
    rw[hsize];apply Array.toList_inj.1;rw[aCk zv.cells hpos len]
   simp only[Instr.buildSlice,Sem.run_bind,run_underlying (mN he),Result.andThen_ok,e3,if_neg e1,if_neg h0,e4,Sem.run_pure,e5,e2,f1];simp[newRow]
 ·refine⟨?_,?_,?_⟩
  ·simp;omega
  ·simp;omega
  ·have:len<=len*aU P e:=Nat.le_mul_of_pos_right _ (by omega)
   unfold maxLen;omega
 ·rw[List.take_of_length_le (by simp;omega)];simpa using f2
 ·unfold aO;exact⟨_,_,h,.inr ⟨_,0,len,rfl,rfl,Nat.le_refl _,fun _=>rfl,fun _=>⟨rfl,rfl⟩⟩⟩
end
end Go.Proofs.YtdaeofhdgabhjaaGreat
namespace Go.Proofs.YtdaeofhdgabhjaaGreat
open Go.RowKit
section
variable {P:Program} {o:Oper} {E:Operand->AV} {σ:Nat->Option Ob} {n:Nat}
theorem Pa:∀(l cs:List AV) (off:Nat),off+l.length<=cs.length->∀(i:Nat) x,(kR cs off l)[i]? =some x->(off<=i/\l[i-off]? =some x)\/((i<off\/off+l.length<=i)/\cs[i]? =some x)
 |[],cs,off,_,i,x,h=>by
  simp only[kR]at h;rcases Nat.lt_or_ge i off with h1|h1
  ·exact .inr ⟨.inl h1,h⟩
  ·exact .inr ⟨.inr (by simpa using h1),h⟩
 |y::l,cs,off,hl,i,x,h=>by
  unfold kR at h;simp only[List.length_cons]at hl;rcases Pa l (cs.set off y) (off+1) (by simp;omega) i x h with⟨h1,h2⟩|⟨h1,h2⟩
  ·refine .inl ⟨by omega,?_⟩
   rw[show i-off=(i-(off+1))+1 by omega];simpa using h2
  ·rw[List.getElem?_set]at h2;by_cases e:off=i
   ·rw[if_pos e]at h2;split at h2
    ·cases h2;subst e;exact .inl ⟨Nat.le_refl _,by simp⟩
    ·cases h2
   ·rw[if_neg e]at h2;refine .inr ⟨?_,h2⟩;simp only[List.length_cons];omega
def wR(P:Program)(t:TypeId)(σ:Nat->Option Ob)(a v:AV)(K:Res):Prop:=match a with
 | .ptr s off=>∃ob l,σ s=some ob/\gL v=some l/\l.length=aU P t/\(P.info? t).isSome=true/\off+l.length<=ob.cells.length/\K .undef [s] [(s,some ⟨ob.ty,ob.esz,kR ob.cells off l⟩)]
 |_=>False
theorem Za{t:TypeId}{a x:Operand}(ho:o.op= .store t a x){K:Res}(h:wR P t σ (E a) (E x) K):∃r R W,cI P o E σ n r R W/\K r R W:=by
 unfold wR at h;split at h
 case h_2=>exact h.elim
 rename_i s off ea;obtain⟨ob,l,hob,hl,hsz,ht,hoff,hK⟩:=h;refine⟨_,_,_,?_,hK⟩;intro C0 ρ g V w B hs hB hR hn hgn hE;have g1:=hE a (by rw[ho];simp[Op.operands])
 rw[ea]at g1;unfold aO at g1;obtain⟨b,c,hρ,hv⟩:=g1;have hgs:g s=some ob:=(hR s (by simp)).trans hob
 obtain⟨hBb,arr,hO⟩:=hs.at hgs hρ;obtain⟨r1,r2⟩:=xM hl (hE x (by rw[ho];simp[Op.operands]))
 have hlen:=r1.length;have hle:ob.cells.length<=arr.size:=by
  by_cases hz:ob.esz=0
  ·rw[hO.box hz];exact Nat.le_refl _
  ·exact(hO.row hz).2.1
 have hst:=run_storeCells_at P b off ob.ty (bI V x).cells.toList 0 arr w hO.blk (by omega) r2
 obtain⟨i,hi⟩:=Option.isSome_iff_exists.1 ht;have hsi:(bI V x).cells.size=i.size:=by
  have:aU P t=i.size:=by simp[aU,hi]
  rw[<-Array.length_toList,hlen,hsz,this]
 unfold cC execOp;simp only[ho,hv,Instr.storeAt,Instr.sureAddr,storeVar,sizeOf,typeInfo,Sem.run_bind,Sem.run_pure,Result.andThen_ok,run_program,hi,if_neg (show¬(bI V x).cells.size≠i.size from fun h=>h hsi),hst]
 simp only[Nat.add_zero];generalize hvs:(bI V x).cells.toList=vs at*;have hns:s≠n:=fun e=>by rw[e,hgn]at hgs;cases hgs
 have hblk:(w.setRow b (arr.toList.take off++vs++arr.toList.drop (off+vs.length)).toArray).heap[b]? =some (.cells (arr.toList.take off++vs++arr.toList.drop (off+vs.length)).toArray ob.ty (0,0)):=setRow_heap w b arr _ ob.ty _ hO.blk;have hold:∀k,k≠b->(w.setRow b (arr.toList.take off++vs++arr.toList.drop (off+vs.length)).toArray).heap[k]? =w.heap[k]? :=by
  intro k hk;unfold World.setRow;simp only[Array.getElem?_modify];rw[if_neg (fun e=>hk e.symm)]
 have hsize:(w.setRow b (arr.toList.take off++vs++arr.toList.drop (off+vs.length)).toArray).heap.size=w.heap.size:=by unfold World.setRow;simp
 have hlk:∀s',s'≠s->[(s,some (⟨ob.ty,ob.esz,kR ob.cells off l⟩:Ob))].lookup s'=none:=by intro s' hs';simp[List.lookup,beq_eq_false_iff_ne.2 hs']
 have hup:∀s',s'≠s->eM g [(s,some ⟨ob.ty,ob.esz,kR ob.cells off l⟩)] s'=g s':=by intro s' hs';unfold eM;rw[hlk s' hs']
 have hmono:∀b' o' x,aY C0 B w ρ g b' o' x->aY C0 B (w.setRow b (arr.toList.take off++vs++arr.toList.drop (off+vs.length)).toArray) ρ (eM g [(s,some ⟨ob.ty,ob.esz,kR ob.cells off l⟩)]) b' o' x:=by
  intro b' o' x ⟨e1,e2,e0⟩;have hne:b'≠b:=fun e=>by rw[e]at e2;rw[e2 s c hρ]at hgs;cases hgs
  refine⟨(World.cell?_of_block (hold b' hne)).trans e1,?_,e0⟩;intro s' c' e3;by_cases e:s'=s
  ·subst e;rw[e2 _ _ e3]at hgs;cases hgs
  ·rw[hup s' e];exact e2 s' c' e3
 refine⟨ρ,fun _ _=>rfl,hmono,?_,by unfold aO;rfl,⟨rfl,rfl,rfl,by rw[hsize];exact Nat.le_refl _,fun k hk=>hold k (by omega)⟩⟩
 refine hs.step (fun _ _ _ _=>rfl) (fun _ _ h=>h) hmono ?_ ?_
 ·intro s' o' b' c' e1 e2 e3;refine hold b' fun e=> ?_
  subst e;have:=hs.inj s s' ob o' b' c c' hgs e2 hρ e3;subst this;simp[List.lookup]at e1
 ·intro s' o' e;have e1:s'=s:=by
   rcases Nat.decEq s' s with h|h
   ·rw[hlk s' h]at e;cases e
   ·exact h
  subst e1;have e2:o'=⟨ob.ty,ob.esz,kR ob.cells off l⟩:=by simp[List.lookup]at e;exact e.symm
  subst e2;have hasz:(arr.toList.take off++vs++arr.toList.drop (off+vs.length)).toArray.size=arr.size:=by
   simp[List.length_take];omega
  refine⟨some b,c,hρ,.inr ⟨b,_,rfl,hBb,⟨hblk,?_,?_,?_⟩,?_⟩⟩
  ·intro hz;rw[hasz,hO.box hz];exact(qO _ _ _).symm
  ·intro hz;obtain⟨k1,k2,k3⟩:=hO.row hz;rw[hasz];exact⟨k1,by show(kR ob.cells off l).length<=_;rw[qO];exact k2,k3⟩
  ·intro j y hj;have hj:(kR ob.cells off l)[j]? =some y:=hj;rcases Pa l ob.cells off hoff j y hj with⟨h1,h2⟩|⟨h1,h2⟩
   ·obtain⟨u,k1,k2⟩:=r1.get _ _ _ y h2;have hjl:j-off<vs.length:=(List.getElem?_eq_some_iff.1 k1).1;refine⟨u,?_,r2 u (List.mem_of_getElem? k1),aO.mono (fun _ _ h=>h) hmono y u k2⟩
    simp only[List.getElem?_toArray];rw[List.append_assoc,List.getElem?_append_right (by simp;omega),List.getElem?_append_left (by simp;omega)]
    rw[<-k1];congr 1;simp;omega
   ·obtain⟨u,k1,k3,k2⟩:=hO.cells j y h2;refine⟨u,?_,k3,aO.mono (fun _ _ h=>h) hmono y u k2⟩
    have hja:j<arr.size:=(Array.getElem?_eq_some_iff.1 k1).1;simp only[List.getElem?_toArray];rw[List.append_assoc];rcases h1 with h1|h1
    ·rw[List.getElem?_append_left (by simp;omega),List.getElem?_take,if_pos h1]
     simpa using k1
    ·rw[List.getElem?_append_right (by simp;omega),List.getElem?_append_right (by simp;omega),List.getElem?_drop]
     rw[<-k1];simp only[List.length_take,Array.length_toList,Array.getElem?_toList]
     congr 1;omega
  ·intro s2 o' c' hne e3 e4;rw[hup s2 hne]at e3;exact hne (hs.inj s' s2 ob o' b c c' hgs e3 hρ e4).symm
def oF(P:Program)(e:TypeId):Bool:=((P.info? e).bind fun i=>i.zero.map fun z=>z.cells.size==i.size&&decide (0<i.size)&&decide (i.bytes<=1000000)).getD false
def aBh(σ:Nat->Option Ob)(e:TypeId)(esz:Nat)(x:AV)(K:Nat->List AV->List Nat->Prop):Prop:=match x with
 | .nil=>K 0 [] []
 | .own s 0 k=>∃ob,σ s=some ob/\ob.ty=e/\ob.esz=esz/\ob.cells.length=k*esz/\K k ob.cells [s]
 |_=>False
def Vy(σ:Nat->Option Ob)(esz:Nat)(y:AV)(K:Nat->List AV->List Nat->Prop):Prop:=match y with
 | .nil=>K 0 [] []
 | .p (.sl m cs)=>cs.length=m*esz/\K m (cs.map .p) []
 | .own s o m=>∃ob l,σ s=some ob/\(ob.cells.drop o).take (m*esz)=l/\l.length=m*esz/\K m l [s]
 |_=>False
def aHC(P:Program)(n:Nat)(t:TypeId)(σ:Nat->Option Ob)(x y:AV)(K:Res):Prop:=∃e,fJ P t=some e/\oF P e=true/\
 aBh σ e (aU P e) x fun k cs R1=>Vy σ (aU P e) y fun m cs' R2=>k+m<=1000000/\
  K (.own n 0 (k+m)) (R1++R2) (R1.map (·,none)++[(n,some ⟨e,aU P e,cs++cs'⟩)])
theorem eW.vals{C:cE}:∀(l:List PV) (b off:Nat),eW C l b off->∃vs:List Value,vs.length=l.length/\(∀(i:Nat) v,vs[i]? =some v->C b (off+i) v)/\cG C l vs/\qE vs
 |[],b,off,_=>⟨[],rfl,(fun i v h=>by simp at h),by unfold cG;rfl,fun u hu=>by cases hu⟩
 |x::l,b,off,h=>by
  unfold eW at h;obtain⟨⟨v,h1,h2,h3⟩,h4⟩:=h;obtain⟨vs,g1,g2,g3,g4⟩:=eW.vals l b (off+1) h4;refine⟨v::vs,by simp[g1],?_,?_,fun u hu=>by rcases List.mem_cons.1 hu with rfl|hu;exact h2;exact g4 u hu⟩
  ·intro i u hi;cases i with
   |zero=>simp at hi;subst hi;exact h1
   |succ i=>have:=g2 i u (by simpa using hi);rwa[show off+1+i=off+(i+1) by omega]at this
  ·unfold cG;exact⟨v,vs,rfl,h3,g3⟩
theorem ObRep.vals{ρ:Ren}{C:cE}{w:World}{b c:Nat}{ob:Ob}{arr:Array Value}(h:ObRep ρ C w b c ob arr):aZ ρ C ob.cells (arr.toList.take ob.cells.length)/\qE (arr.toList.take ob.cells.length):=by
 have hle:ob.cells.length<=arr.size:=by
  by_cases hz:ob.esz=0
  ·rw[h.box hz];exact Nat.le_refl _
  ·exact(h.row hz).2.1
 refine⟨aZ.of _ _ (by simp;omega) fun i x hi=> ?_,?_⟩
 ·obtain⟨v,h1,_,h3⟩:=h.cells i x hi;have hlt:i<ob.cells.length:=(List.getElem?_eq_some_iff.1 hi).1;refine⟨v,?_,h3⟩;rw[List.getElem?_take,if_pos hlt];simpa using h1
 ·intro u hu;obtain⟨i,hi,he⟩:=List.getElem_of_mem hu;simp only[List.length_take,Array.length_toList]at hi;obtain⟨v,h1,h2,_⟩:=h.cells i ob.cells[i] (List.getElem?_eq_getElem (by omega))
  have:arr[i]? =some u:=by
   rw[<-he];simp
  rw[this]at h1;cases h1;exact h2
theorem aCN{C0:cE}{ρ:Ren}{g:Nat->Option Ob}{w:World}{B:Nat}(hs:StR C0 ρ g w B){e:TypeId}{esz:Nat}{x:AV}{v:Value}(hz:esz≠0)(hx:aO ρ (aY C0 B w ρ g) x v){k:Nat}{cs:List AV}{R:List Nat}
  (hd:(x= .nil/\k=0/\cs=[]/\R=[])\/∃s ob,x= .own s 0 k/\R=[s]/\g s=some ob/\ob.ty=e/\ob.esz=esz/\ob.cells.length=k*esz/\cs=ob.cells):
  ∃xs,w.ownsRow B e esz v k xs/\aZ ρ (aY C0 B w ρ g) cs xs/\qE xs/\((v.ownBlock=none/\∀s∈R,∀b c,ρ s≠some (some b,c))\/∃s b c ob,R=[s]/\g s=some ob/\ρ s=some (some b,c)/\v.ownBlock=some b):=by
 rcases hd with⟨rfl,rfl,rfl,rfl⟩|⟨s,ob,rfl,rfl,h1,h2,h3,h4,rfl⟩
 ·unfold aO at hx;subst hx;exact⟨[],World.ownsRow_nil _ _ _ _,by unfold aZ;rfl,(fun u hu=>by cases hu),.inl ⟨rfl,fun s hs=>by cases hs⟩⟩
 ·unfold aO at hx;obtain⟨q,c,hq,⟨rfl,hv,rfl,_⟩|⟨b,o',c',rfl,hv,h5,h6,h7⟩⟩:=hx
  ·subst hv;have hc:ob.cells=[] :=List.length_eq_zero_iff.1 (by simpa using h4)
   rw[hc];exact⟨[],World.ownsRow_nil _ _ _ _,by unfold aZ;rfl,(fun u hu=>by cases hu),.inl ⟨rfl,fun s' hs' b c e=>by simp at hs';subst hs';rw[hq]at e;cases e⟩⟩
  ·obtain⟨rfl,rfl⟩:=h7 rfl;obtain⟨hB,arr,hO⟩:=hs.at h1 hq;obtain⟨r1,r2⟩:=hO.vals;obtain⟨k1,k2,k3⟩:=hO.row (by rw[h3];exact hz)
   refine⟨_,⟨?_,.inr ⟨b,c',arr,hv,hB,?_,h5,k3,?_,?_⟩⟩,r1,r2,.inr ⟨s,b,c',ob,rfl,h1,hq,by rw[hv];rfl⟩⟩
   ·rw[r1.length,h4]
   ·have:=hO.blk;rw[h2]at this;exact this
   ·rw[k1,h3]
   ·rw[h4]
theorem aB4{C0:cE}{ρ:Ren}{g:Nat->Option Ob}{w:World}{B:Nat}(hs:StR C0 ρ g w B){esz:Nat}{y:AV}{v:Value}(hy:aO ρ (aY C0 B w ρ g) y v){m:Nat}{cs:List AV}
  (hd:(y= .nil/\m=0/\cs=[])\/(∃l,y= .p (.sl m l)/\l.length=m*esz/\cs=l.map .p)\/∃s o ob,y= .own s o m/\g s=some ob/\(ob.cells.drop o).take (m*esz)=cs/\cs.length=m*esz):
  ∃a c us,v= .slice a m c/\us.length=m*esz/\Rd w a us/\(a=none->c=0)/\aZ ρ (aY C0 B w ρ g) cs us/\qE us:=by
 rcases hd with⟨rfl,rfl,rfl⟩|⟨l,rfl,hl,rfl⟩|⟨s,oo,ob,rfl,h1,h2,h3⟩
 ·unfold aO at hy;exact⟨none,0,[],hy,by simp,(fun i u hi=>by simp at hi),fun _=>rfl,by unfold aZ;rfl,fun u hu=>by cases hu⟩
 ·unfold aO bF at hy;obtain⟨a,c,hv,h1,h2,h3⟩:=hy;cases a with
  |none=>
   obtain⟨rfl,rfl⟩:=h2 rfl;exact⟨none,0,[],hv,hl,(fun i u hi=>by simp at hi),fun _=>rfl,by simp;unfold aZ;rfl,fun u hu=>by cases hu⟩
  |some ad=>
   obtain⟨b,off,sp⟩:=ad;obtain⟨h4,h5⟩:=h3 _ rfl;dsimp only at h4 h5;rcases Nat.eq_zero_or_pos m with hm0|hm0
   ·subst hm0;have hl0:_=[] :=List.length_eq_zero_iff.1 (by simpa using hl)
    subst hl0;exact⟨_,c,[],hv,by simp,(fun i u hi=>by simp at hi),(fun h=>by cases h),by simp;unfold aZ;rfl,fun u hu=>by cases hu⟩
   have h4:=h4 hm0;subst h4;obtain⟨vs,k1,k2,k3,k4⟩:=h5.vals;refine⟨_,c,vs,hv,by omega,?_,(fun h=>by cases h),k3.toA,k4⟩
   intro i u hi;have:=k2 i u hi;exact⟨b,off,rfl,World.block_lt_of_cell? w ⟨b,_,none⟩ this.1,this.1⟩
 ·unfold aO at hy;obtain⟨q,c,hq,⟨rfl,hv,rfl,rfl⟩|⟨b,o',c',rfl,hv,h5,h6,h7⟩⟩:=hy
  ·have:cs=[] :=List.length_eq_zero_iff.1 (by simpa using h3)
   subst this;exact⟨none,0,[],hv,by simp,(fun i u hi=>by simp at hi),fun _=>rfl,by unfold aZ;rfl,fun u hu=>by cases hu⟩
  ·obtain⟨hB,arr,hO⟩:=hs.at h1 hq;obtain⟨r1,r2⟩:=hO.vals;refine⟨_,c',((arr.toList.take ob.cells.length).drop oo).take (m*esz),hv,?_,?_,(fun h=>by cases h),by rw[<-h2];exact(r1.drop _).take _,fun u hu=>r2 u (List.mem_of_mem_drop (List.mem_of_mem_take hu))⟩
   ·have:=r1.length;have e:=congrArg List.length h2;simp only[List.length_take,List.length_drop]at e|-;simp only[List.length_take]at this;omega
   ·intro i u hi;rw[List.getElem?_take]at hi;split at hi
    ·rename_i hlt;have hm:m≠0:=by intro h;subst h;simp at hlt
     have e:=h6 hm;subst e;rw[List.getElem?_drop,List.getElem?_take]at hi;split at hi
     ·refine⟨b,o',rfl,hO.lt,?_⟩;rw[hO.cell];simpa using hi
     ·cases hi
    ·cases hi
theorem Nn{t t' ty e e':TypeId}(ht:P.underlying t=some (.slice e))(ht':P.underlying t'=some (.slice e'))(s x:Value)(w:World):
  (Builtin.append_ #[t,t'] ty #[s,x]).run P w=(Builtin.append_ #[t,t] ty #[s,x]).run P w:=by
 cases s<;>simp[Builtin.append_,run_underlying ht,run_underlying ht']
theorem aE7{x y:Operand}{t t':TypeId}(ht':(fJ P t').isSome=true)(ho:o.op= .call {callee:= .builtin .append,args:= #[x,y],argTypes:= #[t,t']}) {K:Res} (h:aHC P n t σ (E x) (E y) K):∃r R W,cI P o E σ n r R W/\K r R W:=by
 obtain⟨e,he,hta,h⟩:=h;unfold oF at hta;have hx:x∈o.op.operands.toList:=by rw[ho];simp[Op.operands,Call.operands]
 have hy:y∈o.op.operands.toList:=by rw[ho];simp[Op.operands,Call.operands]
 cases hi:P.info? e with
 |none=>rw[hi]at hta;cases hta
 |some i=>
 rw[hi]at hta;simp only[Option.bind_some]at hta;cases hz:i.zero with
 |none=>rw[hz]at hta;cases hta
 |some z=>
 rw[hz]at hta;simp only[Option.map_some,Option.getD_some,Bool.and_eq_true,beq_iff_eq,decide_eq_true_eq]at hta;obtain⟨⟨t1,t2⟩,t3⟩:=hta;have hesz:aU P e=i.size:=by simp[aU,hi]
 have hh:∃k cs R1 m cs' R2,((E x= .nil/\k=0/\cs=[]/\R1=[])\/∃s ob,E x= .own s 0 k/\R1=[s]/\σ s=some ob/\ob.ty=e/\ob.esz=aU P e/\ob.cells.length=k*aU P e/\cs=ob.cells)/\
   ((E y= .nil/\m=0/\cs'=[]/\R2=[])\/(∃l,E y= .p (.sl m l)/\l.length=m*aU P e/\cs'=l.map .p/\R2=[])\/∃s o ob,E y= .own s o m/\σ s=some ob/\(ob.cells.drop o).take (m*aU P e)=cs'/\cs'.length=m*aU P e/\R2=[s])/\
   k+m<=1000000/\K (.own n 0 (k+m)) (R1++R2) (R1.map (·,none)++[(n,some ⟨e,aU P e,cs++cs'⟩)]):=by
  have tl:∀k cs R1,Vy σ (aU P e) (E y) (fun m cs' R2=>k+m<=1000000/\K (.own n 0 (k+m)) (R1++R2) (R1.map (·,none)++[(n,some ⟨e,aU P e,cs++cs'⟩)]))->
    ∃m cs' R2,((E y= .nil/\m=0/\cs'=[]/\R2=[])\/(∃l,E y= .p (.sl m l)/\l.length=m*aU P e/\cs'=l.map .p/\R2=[])\/∃s o ob,E y= .own s o m/\σ s=some ob/\(ob.cells.drop o).take (m*aU P e)=cs'/\cs'.length=m*aU P e/\R2=[s])/\
    k+m<=1000000/\K (.own n 0 (k+m)) (R1++R2) (R1.map (·,none)++[(n,some ⟨e,aU P e,cs++cs'⟩)]):=by
   intro k cs R1 h;unfold Vy at h;split at h
   ·rename_i ey;exact⟨0,[],[],.inl ⟨ey,rfl,rfl,rfl⟩,h⟩
   ·rename_i m l ey;exact⟨m,_,[],.inr (.inl ⟨l,ey,h.1,rfl,rfl⟩),h.2⟩
   ·rename_i s oo m ey;obtain⟨ob,l,h1,h2,h3,h4⟩:=h;exact⟨m,l,[s],.inr (.inr ⟨s,oo,ob,ey,h1,h2,h3,rfl⟩),h4⟩
   ·exact h.elim
  unfold aBh at h;split at h
  ·rename_i ex;obtain⟨m,cs',R2,h1,h2⟩:=tl _ _ _ h;exact⟨0,[],[],m,cs',R2,.inl ⟨ex,rfl,rfl,rfl⟩,h1,h2⟩
  ·rename_i s k ex;obtain⟨ob,g1,g2,g3,g4,g5⟩:=h;obtain⟨m,cs',R2,h1,h2⟩:=tl _ _ _ g5;exact⟨k,_,[s],m,cs',R2,.inr ⟨s,ob,ex,rfl,g1,g2,g3,g4,rfl⟩,h1,h2⟩
  ·exact h.elim
 obtain⟨k,cs,R1,m,cs',R2,hd1,hd2,hkm,hK⟩:=hh;refine⟨_,_,_,?_,hK⟩;intro C0 ρ g V w B hs hB hR hn hgn hE;have hd1':(E x= .nil/\k=0/\cs=[]/\R1=[])\/∃s ob,E x= .own s 0 k/\R1=[s]/\g s=some ob/\ob.ty=e/\ob.esz=aU P e/\ob.cells.length=k*aU P e/\cs=ob.cells:=by
  rcases hd1 with h|⟨s,ob,h1,h2,h3,h4⟩
  ·exact .inl h
  ·exact .inr ⟨s,ob,h1,h2,(hR s (by rw[h2];simp)).trans h3,h4⟩
 have hd2':(E y= .nil/\m=0/\cs'=[])\/(∃l,E y= .p (.sl m l)/\l.length=m*aU P e/\cs'=l.map .p)\/∃s o ob,E y= .own s o m/\g s=some ob/\(ob.cells.drop o).take (m*aU P e)=cs'/\cs'.length=m*aU P e:=by
  rcases hd2 with⟨h1,h2,h3,_⟩|⟨l,h1,h2,h3,_⟩|⟨s,oo,ob,h1,h2,h3,h4,h5⟩
  ·exact .inl ⟨h1,h2,h3⟩
  ·exact .inr (.inl ⟨l,h1,h2,h3⟩)
  ·exact .inr (.inr ⟨s,oo,ob,h1,(hR s (by rw[h5];simp)).trans h2,h3,h4⟩)
 obtain⟨xs,hown,q1,q2,hsep⟩:=aCN hs (by omega) (hE x hx) hd1'
 obtain⟨a,c,us,hyv,p1,p2,p3,p4,p5⟩:=aB4 hs (hE y hy) hd2';have hlenx:xs.length=k*aU P e:=hown.1;have hsuff:∀K0:Value->World->Prop,cC P {o with op:= .call {callee:= .builtin .append,args:= #[x,y],argTypes:= #[t,t]}} V w K0->cC P o V w K0:=by
  intro K0 h;obtain⟨e',he'⟩:=Option.isSome_iff_exists.1 ht';have hr:=Nn (ty:=o.type) (mN he) (mN he') (bI V x) (bI V y) w;unfold cC execOp at*;simp only[ho,resolve,invoke,builtin,Sem.run_bind,Sem.run_pure,Result.andThen_ok,List.map_toArray,List.map_cons,List.map_nil]at*;rw[hr];exact h
 refine hsuff _ ?_;refine vS x y t rfl B e z (aU P e) i.bytes (mN he) (by rw[hi,hesz];simp[hz]) (by rw[t1,hesz]) (by omega) _ k xs rfl hown a m c us hyv p1 p2 p3 p5 hkm t3 hB ?_
 intro v' w' hown' hbel hgrow hblk;obtain⟨q',c',hq',hq2⟩:∃(q':Option Nat) (c':Nat),((q'=none/\v'= .slice none 0 0/\k+m=0/\c'=0/\xs++us=[])\/∃b' arr,q'=some b'/\v'= .slice (some ⟨b',0,none⟩) (k+m) c'/\B<=b'/\w'.heap[b']? =some (.cells arr e (0,0))/\k+m<=c'/\c'<=maxLen/\arr.size=c'*aU P e/\arr.toList.take ((k+m)*aU P e)=xs++us)/\True:=by
  obtain⟨o1,⟨h1,h2⟩|⟨b',c',arr,h1,h2,h3,h4,h5,h6,h7⟩⟩:=hown'
  ·exact⟨none,0,.inl ⟨rfl,h1,h2,rfl,List.length_eq_zero_iff.1 (by rw[o1,h2];simp)⟩,trivial⟩
  ·exact⟨some b',c',.inr ⟨b',arr,rfl,h1,h2,h3,h4,h5,h6,h7⟩,trivial⟩
 clear hq2
 let ρ':Ren:=fun s=>if s=n then some (q',c')else ρ s
 let W:List (Nat×Option Ob):=R1.map (·,none)++[(n,some ⟨e,aU P e,cs++cs'⟩)]
 show∃ρ'':Ren,(∀s,s≠n->ρ'' s=ρ s)/\(∀b o' x,aY C0 B w ρ g b o' x->aY C0 B w' ρ'' (eM g W) b o' x)/\StR C0 ρ'' (eM g W) w' B/\aO ρ'' (aY C0 B w' ρ'' (eM g W)) (.own n 0 (k+m)) v'/\Below B w w';have hext:∀s q,ρ s=some q->ρ' s=some q:=by
  intro s q hq;show(if s=n then _ else _)=_
  rw[if_neg (fun e=>by rw[e,hn]at hq;cases hq)];exact hq
 have hR1:∀s∈R1,s≠n:=by
  intro s hs' e;rcases hd1' with⟨_,_,_,h⟩|⟨s',ob,_,h1,h2,_⟩
  ·rw[h]at hs';cases hs'
  ·rw[h1]at hs';simp at hs';subst hs';rw[e,hgn]at h2;cases h2
 have hlkn:W.lookup n=some (some ⟨e,aU P e,cs++cs'⟩):=by
  rcases hd1' with⟨_,_,_,h⟩|⟨s',ob,_,h1,h2,_⟩
  ·simp[W,h]
  ·have:s'≠n:=hR1 s' (by rw[h1];simp)
   simp[W,h1,List.lookup,beq_eq_false_iff_ne.2 (fun e=>this e.symm)]
 have hlkR:∀s,s∈R1->W.lookup s=some none:=by
  intro s hs';rcases hd1' with⟨_,_,_,h⟩|⟨s',ob,_,h1,h2,_⟩
  ·rw[h]at hs';cases hs'
  ·rw[h1]at hs';simp at hs';subst hs';simp[W,h1]
 have hlk:∀s,s≠n->s∉R1->W.lookup s=none:=by
  intro s h1 h2;rcases hd1' with⟨_,_,_,h⟩|⟨s',ob,_,h3,_⟩
  ·simp[W,h,List.lookup,beq_eq_false_iff_ne.2 h1]
  ·rw[h3]at h2;simp at h2;simp[W,h3,List.lookup,beq_eq_false_iff_ne.2 h1,beq_eq_false_iff_ne.2 h2]
 have hupR:∀s,s∈R1->eM g W s=none:=by intro s h;unfold eM;rw[hlkR s h]
 have hup:∀s,s≠n->s∉R1->eM g W s=g s:=by intro s h1 h2;unfold eM;rw[hlk s h1 h2]
 have hrow:∀s ob b c,g s=some ob->ρ s=some (some b,c)->s∉R1->some b≠(bI V x).ownBlock:=by
  intro s ob b c e1 e2 e3 e4;rcases hsep with⟨h1,_⟩|⟨s',b',c2,ob',h1,h2,h3,h4⟩
  ·rw[h1]at e4;cases e4
  ·rw[h4]at e4;cases e4;have:=hs.inj s s' ob ob' b c c2 e1 h2 e2 h3;subst this;exact e3 (by rw[h1];simp)
 have hlt:∀s ob b c,g s=some ob->ρ s=some (some b,c)->b<w.heap.size:=by
  intro s ob b c e1 e2;obtain⟨_,arr,e3⟩:=hs.at e1 e2;exact e3.lt
 have hmono:∀b o' x,aY C0 B w ρ g b o' x->aY C0 B w' ρ' (eM g W) b o' x:=by
  intro b o' x' ⟨e1,e2,e0⟩;have hb:b<w.heap.size:=World.block_lt_of_cell? w ⟨b,o',none⟩ e1;have hnr:some b≠(bI V x).ownBlock:=by
   intro e4;rcases hsep with⟨h1,_⟩|⟨s',b',c2,ob',h1,h2,h3,h4⟩
   ·rw[h1]at e4;cases e4
   ·rw[h4]at e4;cases e4;rw[e2 s' c2 h3]at h2;cases h2
  refine⟨(World.cell?_of_block (hgrow.block b hb hnr)).trans e1,?_,e0⟩;intro s c2 e3;by_cases e:s=n
  ·subst e;simp only[ρ',if_true]at e3;cases e3;rcases hq' with⟨h1,_⟩|⟨b',arr,h1,h2,_⟩
   ·cases h1
   ·cases h1;rcases hblk b (by rw[h2];rfl)with h3|h3
    ·exact absurd h3.symm hnr
    ·omega
  ·simp only[ρ',if_neg e]at e3;by_cases e4:s∈R1
   ·exact hupR s e4
   ·rw[hup s e e4];exact e2 s c2 e3
 refine⟨ρ',fun s hs'=>by simp only[ρ',if_neg hs'],hmono,?_,?_,hbel⟩
 ·refine hs.step ?_ hext hmono ?_ ?_
  ·intro s ob' e1 e2;have:s≠n:=fun e=>by rw[e,hgn]at e2;cases e2
   simp only[ρ',if_neg this]
  ·intro s ob' b c2 e1 e2 e3;have e4:s∉R1:=fun h=>by rw[hlkR s h]at e1;cases e1
   exact hgrow.block b (hlt s ob' b c2 e2 e3) (hrow s ob' b c2 e2 e3 e4)
  ·intro s ob' e1;have e2:s=n:=by
    by_cases h1:s=n
    ·exact h1
    ·by_cases h2:s∈R1
     ·rw[hlkR s h2]at e1;cases e1
     ·rw[hlk s h1 h2]at e1;cases e1
   subst e2;rw[hlkn]at e1;simp only[Option.some.injEq]at e1;subst e1;refine⟨q',c',by simp[ρ'],?_⟩
   rcases hq' with⟨h1,h2,h3,h4,h5⟩|⟨b',arr,h1,h2,h3,h4,h5,h6,h7,h8⟩
   ·refine .inl ⟨h1,by show aU P e≠0;omega,?_,h4⟩
    have l1:=q1.length;have l2:=p4.length;have l3:=congrArg List.length h5;simp only[List.length_append,List.length_nil]at l3;show cs++cs'=[];rw[List.append_eq_nil_iff];exact⟨List.length_eq_zero_iff.1 (by omega),List.length_eq_zero_iff.1 (by omega)⟩
   ·refine .inr ⟨b',arr,h1,h3,⟨h4,fun hh=>absurd hh (by show aU P e≠0;omega),fun _=>⟨h7,?_,h6⟩,?_⟩,?_⟩
    ·show(cs++cs').length<=arr.size;have l1:=q1.length;have l2:=p4.length;rw[h7,List.length_append,<-l1,<-l2,hlenx,p1,<-Nat.add_mul];exact Nat.mul_le_mul_right _ h5
    ·intro j u hj;have hj:(cs++cs')[j]? =some u:=hj;have l1:=q1.length;have hjj:∃v,(xs++us)[j]? =some v/\v.oneCell'=true/\aO ρ (aY C0 B w ρ g) u v:=by
      by_cases hlt2:j<cs.length
      ·rw[List.getElem?_append_left hlt2]at hj;obtain⟨v,g1,g2⟩:=q1.get _ _ j u hj;exact⟨v,by rw[List.getElem?_append_left (by omega)];exact g1,q2 v (List.mem_of_getElem? g1),g2⟩
      ·rw[List.getElem?_append_right (by omega)]at hj
       obtain⟨v,g1,g2⟩:=p4.get _ _ _ u hj;exact⟨v,by rw[List.getElem?_append_right (by omega),l1];exact g1,p5 v (List.mem_of_getElem? g1),g2⟩
     obtain⟨v,g1,g2,g3⟩:=hjj;refine⟨v,?_,g2,aO.mono hext hmono u v g3⟩;rw[<-h8,List.getElem?_take]at g1;split at g1
     ·simpa using g1
     ·cases g1
    ·intro s' o' c2 hne e3 e4;simp only[ρ',if_neg hne]at e4;have e5:s'∉R1:=fun h=>by rw[hupR s' h]at e3;cases e3
     rw[hup s' hne e5]at e3;rcases hblk b' (by rw[h2];rfl)with h9|h9
     ·exact hrow s' o' b' c2 e3 e4 e5 h9.symm
     ·have:=hlt s' o' b' c2 e3 e4;omega
 ·unfold aO;refine⟨q',c',by simp[ρ'],?_⟩
  rcases hq' with⟨h1,h2,h3,h4,h5⟩|⟨b',arr,h1,h2,h3,h4,h5,h6,h7,h8⟩
  ·exact .inl ⟨h1,h2,h3,rfl⟩
  ·exact .inr ⟨b',0,c',h1,h2,h5,fun _=>rfl,fun _=>⟨rfl,rfl⟩⟩
end
end Go.Proofs.YtdaeofhdgabhjaaGreat
namespace Go.Proofs.YtdaeofhdgabhjaaGreat
open Go.RowKit
def aMl(C0:cE)(B:Nat)(w:World):cE:=fun b o v=>w.cell? ⟨b,o,none⟩=some v/\(B<=b\/C0 b o v)
def mY{α β:Type}(f:α->Option β):List α->Option (List β)
 |[] =>some []
 |x::l=>match f x,mY f l with
  |some y,some m=>some (y::m)
  |_,_=>none
def dM{α β:Type}(f:α->List β):List α->List β
 |[] =>[]
 |x::l=>f x++dM f l
def iU:Nat->(Nat->Option Ob)->AV->Option PV
 |_,_,.p x=>some x
 |_,_,.nil=>some (.sl 0 [])
 |d+1,σ,.own s o m=>(σ s).bind fun ob=>(mY (iU d σ) ob.cells).map fun l=> .sl m ((l.drop o).take (m*ob.esz))
 |d+1,σ,.ptr s off=>(σ s).bind fun ob=>(mY (iU d σ) ob.cells).map fun l=> .pro l off
 |d+1,σ,.agg l=>(mY (iU d σ) l).map .agg
 |d+1,σ,.fn f a b=>(mY (iU d σ) a).bind fun x=>(mY (iU d σ) b).map fun y=> .fn f x y
 |_,_,_=>none
def iQ:Nat->(Nat->Option Ob)->AV->List Nat
 |0,_,_=>[]
 |d+1,σ,.own s _ _=>s::(match σ s with|some ob=>dM (iQ d σ) ob.cells|none=>[])
 |d+1,σ,.ptr s _=>s::(match σ s with|some ob=>dM (iQ d σ) ob.cells|none=>[])
 |d+1,σ,.agg l=>dM (iQ d σ) l
 |d+1,σ,.fn _ a b=>dM (iQ d σ) a++dM (iQ d σ) b
 |_,_,_=>[]
theorem Tc(d:Nat)(σ:Nat->Option Ob)(x:PV):iU d σ (.p x)=some x:=by cases d<;>rfl
theorem wU(d:Nat)(σ:Nat->Option Ob):∀(l:List PV),mY (iU d σ) (l.map .p)=some l
 |[] =>rfl
 |x::l=>by simp only[List.map_cons,mY,Tc,wU d σ l]
theorem aHV(d:Nat)(σ:Nat->Option Ob)(x:PV):iQ d σ (.p x)=[] :=by cases d<;>rfl
theorem Cw(d:Nat)(σ:Nat->Option Ob):∀(l:List PV),dM (iQ d σ) (l.map .p)=[]
 |[] =>rfl
 |x::l=>by simp only[List.map_cons,dM,aHV,Cw d σ l,List.append_nil]
theorem rX{α β:Type}{f:α->List β}{x:α}{y:β}:∀{l:List α},x∈l->y∈f x->y∈dM f l
 |a::l,h,hy=>by
  rcases List.mem_cons.1 h with rfl|h
  ·exact List.mem_append_left _ hy
  ·exact List.mem_append_right _ (rX h hy)
theorem rO{α β:Type}{f:α->Option β}:∀{l:List α} {m:List β},mY f l=some m->l.length=m.length/\∀(i:Nat) x,l[i]? =some x->∃y,m[i]? =some y/\f x=some y
 |[],m,h=>by simp[mY]at h;subst h;exact⟨rfl,fun i x h=>by simp at h⟩
 |a::l,m,h=>by
  unfold mY at h;split at h
  ·rename_i y r h1 h2;cases h;obtain⟨g1,g2⟩:=rO h2;refine⟨by simp[g1],fun i x hi=> ?_⟩
   cases i with
   |zero=>simp at hi;subst hi;exact⟨y,rfl,h1⟩
   |succ i=>simpa using g2 i x (by simpa using hi)
  ·cases h
section
variable {P:Program}
theorem Ow{C0:cE}{ρ:Ren}{g σ:Nat->Option Ob}{w:World}{B:Nat}(hs:StR C0 ρ g w B)(T:cE)(S:Nat->Prop)(hfull:∀b o v,aY C0 B w ρ g b o v->T b o v)(hT:∀s ob b c,S s->g s=some ob->ρ s=some (some b,c)->B<=b->∀o v,w.cell? ⟨b,o,none⟩=some v->T b o v):∀(d:Nat) (x:AV) (y:PV) (v:Value),iU d σ x=some y->(∀s∈iQ d σ x,S s/\g s=σ s)->aO ρ (aY C0 B w ρ g) x v->bF T y v:=by
 intro d;induction d with
 |zero=>
  intro x y v h hr hx;unfold iU at h;split at h<;>first|(cases h;done)|skip
  ·cases h;unfold aO at hx;exact bF.mono hfull _ v hx
  ·cases h;unfold aO at hx;unfold bF;exact⟨none,0,hx,Nat.le_refl _,fun _=>⟨rfl,rfl⟩,fun ad e=>by cases e⟩
  all_goals (rename_i e;cases e)
 |succ d ih=>
  have ihL:∀(l:List AV) (m:List PV) (vs:List Value),mY (iU d σ) l=some m->(∀s∈dM (iQ d σ) l,S s/\g s=σ s)->aZ ρ (aY C0 B w ρ g) l vs->cG T m vs:=by
   intro l m vs h hr hv;obtain⟨h1,h2⟩:=rO h;refine cG.of _ _ (by rw[<-h1];exact hv.length) fun i y hi=> ?_
   have hlt:i<l.length:=by rw[h1];exact(List.getElem?_eq_some_iff.1 hi).1
   obtain⟨y',h3,h4⟩:=h2 i l[i] (List.getElem?_eq_getElem hlt);rw[hi]at h3;cases h3;obtain⟨v,h5,h6⟩:=hv.get _ _ i l[i] (List.getElem?_eq_getElem hlt);exact⟨v,h5,ih _ _ v h4 (fun s hs'=>hr s (rX (List.getElem_mem hlt) hs')) h6⟩
  have ihC:∀(s b c:Nat) (ob:Ob) (m:List PV),S s->g s=some ob->ρ s=some (some b,c)->mY (iU d σ) ob.cells=some m->(∀s∈dM (iQ d σ) ob.cells,S s/\g s=σ s)->eW T m b 0:=by
   intro s b c ob m hS h1 h2 h3 h4;obtain⟨hBb,arr,hO⟩:=hs.at h1 h2;obtain⟨g1,g2⟩:=rO h3;refine eW.of _ _ _ fun i y hi=> ?_
   have hlt:i<ob.cells.length:=by rw[g1];exact(List.getElem?_eq_some_iff.1 hi).1
   obtain⟨y',h5,h6⟩:=g2 i ob.cells[i] (List.getElem?_eq_getElem hlt);rw[hi]at h5;cases h5;obtain⟨v,k1,k2,k3⟩:=hO.cells i ob.cells[i] (List.getElem?_eq_getElem hlt);refine⟨v,?_,k2,ih _ _ v h6 (fun s hs'=>h4 s (rX (List.getElem_mem hlt) hs')) k3⟩
   refine hT s ob b c hS h1 h2 hBb _ _ ?_;rw[Nat.zero_add,hO.cell];exact k1
  intro x y v h hr hx;unfold iU at h;split at h
  ·cases h;unfold aO at hx;exact bF.mono hfull _ v hx
  ·cases h;unfold aO at hx;unfold bF;exact⟨none,0,hx,Nat.le_refl _,fun _=>⟨rfl,rfl⟩,fun ad e=>by cases e⟩
  ·rename_i σ _ _ _ d' s o m e;cases e;simp only[Option.bind_eq_some_iff,Option.map_eq_some_iff]at h;obtain⟨ob,h1,l,h2,rfl⟩:=h;have hg:g s=some ob:=(hr s (by simp[iQ])).2.trans h1
   have hSs:=(hr s (by simp[iQ])).1
   have hr2:∀s'∈dM (iQ d σ) ob.cells,S s'/\g s'=σ s':=fun s' hs'=>hr s' (by simp only[iQ,h1];exact List.mem_cons_of_mem _ hs')
   unfold aO at hx;unfold bF;obtain⟨q,c,hq,⟨rfl,hv,rfl,rfl⟩|⟨b,o',c',rfl,hv,h5,h6,h7⟩⟩:=hx
   ·refine⟨none,0,hv,Nat.le_refl _,fun _=>⟨rfl,by simp⟩,fun ad e=>by cases e⟩
   ·refine⟨_,c',hv,h5,(fun e=>by cases e),fun ad e=> ?_⟩
    cases e;refine⟨fun _=>rfl,?_⟩
    by_cases hm:m=0
    ·subst hm;simp;unfold eW;trivial
    ·have e:=h6 hm;subst e;have:=((ihC s b c ob l hSs hg hq h2 hr2).drop o').take (m*ob.esz);simpa using this
  ·rename_i σ _ _ _ d' s off e;cases e;simp only[Option.bind_eq_some_iff,Option.map_eq_some_iff]at h;obtain⟨ob,h1,l,h2,rfl⟩:=h;have hg:g s=some ob:=(hr s (by simp[iQ])).2.trans h1
   have hSs:=(hr s (by simp[iQ])).1
   have hr2:∀s'∈dM (iQ d σ) ob.cells,S s'/\g s'=σ s':=fun s' hs'=>hr s' (by simp only[iQ,h1];exact List.mem_cons_of_mem _ hs')
   unfold aO at hx;unfold bF;obtain⟨b,c,hq,hv⟩:=hx;exact⟨b,0,by rw[Nat.zero_add];exact hv,ihC s b c ob l hSs hg hq h2 hr2⟩
  ·rename_i d' l e;cases e;simp only[Option.map_eq_some_iff]at h;obtain⟨m,h2,rfl⟩:=h;unfold aO at hx;unfold bF;obtain⟨vs,h3,h4,h5⟩:=hx;exact⟨vs,h3,ihL l m vs h2 (fun s hs'=>hr s hs') h4,h5⟩
  ·rename_i d' f a b e;cases e;simp only[Option.bind_eq_some_iff,Option.map_eq_some_iff]at h;obtain⟨x1,h1,x2,h2,rfl⟩:=h;unfold aO at hx;unfold bF;obtain⟨vs1,vs2,h3,h4,h5⟩:=hx;exact⟨vs1,vs2,h3,ihL a x1 vs1 h1 (fun s hs'=>hr s (List.mem_append_left _ hs')) h4,ihL b x2 vs2 h2 (fun s hs'=>hr s (List.mem_append_right _ hs')) h5⟩
  ·cases h
def Cg(P:Program)(f:FuncId):Bool:=((P.funcs[f]?).map fun fn=> !(fn.name== "runtime.NumGoroutine")&& !fn.body.isNone).getD false
def Sat(P:Program)(fr:Bool)(f:FuncId)(A:List PV)(r:PV):Prop:=Cg P f=true/\
 ∀(C:cE) (w:World) (vs:List Value),(∀b o v,C b o v->w.cell? ⟨b,o,none⟩=some v)->cG C A vs->
  Calls P f vs.toArray w fun e w'=>∃v,e= .returned v/\bF (fun b o x=>(fr=false/\C b o x)\/(w.heap.size<=b/\w'.cell? ⟨b,o,none⟩=some x)) r v/\Below w.heap.size w w'
theorem mS{f:FuncId}(h:Cg P f=true)(args:Array Value)(w:World):(callFunc f args).run P w= .ok (.enter f args) w:=by
 unfold Cg at h;cases hf:P.funcs[f]? with
 |none=>rw[hf]at h;cases h
 |some fn=>
  rw[hf]at h;simp only[Option.map_some,Option.getD_some,Bool.and_eq_true,Bool.not_eq_true']at h;simp only[callFunc,Sem.run_bind,run_program,Result.andThen_ok,hf,h.1,h.2,Bool.false_eq_true,if_false,Sem.run_pure]
structure Lent(C:cE)(w:World)(b c:Nat)(ty:TypeId)(esz:Nat)(cells:List PV)(arr:Array Value):Prop where
 blk:w.heap[b]? =some (.cells arr ty (0,0))
 box:esz=0->arr.size=cells.length
 row:esz≠0->arr.size=c*esz/\cells.length<=arr.size/\c<=maxLen
 cells:∀(i:Nat) x,cells[i]? =some x->∃v,arr[i]? =some v/\v.oneCell'=true/\bF C x v
def aG8(n:Option Nat)(b c:Nat):Value:=match n with
 |none=> .pointer (some ⟨b,0,none⟩)
 |some n=> .slice (some ⟨b,0,none⟩) n c
def xT(P:Program)(f:FuncId)(n:Option Nat)(A:List PV)(ty:TypeId)(esz:Nat)(cells cells':List PV):Prop:=Cg P f=true/\cells'.length=cells.length/\
 (∀(C:cE) (w:World) (b c:Nat) (arr:Array Value) (vs:List Value),(∀b' o v,C b' o v->w.cell? ⟨b',o,none⟩=some v/\b'≠b)->Lent C w b c ty esz cells arr->(∀m,n=some m->m<=c)->cG C A vs->
   Calls P f (aG8 n b c::vs).toArray w fun e w'=>∃arr',e= .returned Go.undef/\Lent C w' b c ty esz cells' arr'/\w.grownBy w' (some b))/\
 (n=some 0->∀(C:cE) (w:World) (vs:List Value),(∀b' o v,C b' o v->w.cell? ⟨b',o,none⟩=some v)->cG C A vs->
   Calls P f (.slice none 0 0::vs).toArray w fun e w'=>e= .returned Go.undef/\Below w.heap.size w w')
def Md(P:Program)(σ:Nat->Option Ob)(f:FuncId)(avs:List AV)(K:Res):Prop:=match avs with
 | .ptr s 0::rest=>∃ty cells,σ s=some ⟨ty,0,cells.map .p⟩/\∃A cells',cR rest=some A/\xT P f none A ty 0 cells cells'/\K .undef [s] [(s,some ⟨ty,0,cells'.map .p⟩)]
 | .own s 0 n::rest=>∃ty esz cells,σ s=some ⟨ty,esz,cells.map .p⟩/\esz≠0/\∃A cells',cR rest=some A/\xT P f (some n) A ty esz cells cells'/\K .undef [s] [(s,some ⟨ty,esz,cells'.map .p⟩)]
 |_=>False
def aEK(P:Program)(σ:Nat->Option Ob)(f:FuncId)(avs:List AV)(K:Res):Prop:=
 ∃A,mY (iU 3 σ) avs=some A/\∃fr r,Sat P fr f A r/\(((fr=true\/cR avs=some A)/\K (.p r) (dM (iQ 3 σ) avs) [])\/K (.p r) (dM (iQ 3 σ) avs) ((dM (iQ 3 σ) avs).map (·,none)))
def qZ(P:Program)(σ:Nat->Option Ob)(f:FuncId)(avs:List AV)(K:Res):Prop:=aEK P σ f avs K\/Md P σ f avs K
def qL(P:Program)(σ:Nat->Option Ob)(fv:AV)(args:List AV)(K:Res):Prop:=match fv with
 | .fn (.func f) first caps=>qZ P σ f (first++args++caps) K
 | .p (.fn (.func f) first caps)=>qZ P σ f (first.map .p++args++caps.map .p) K
 |_=>False
variable {o:Oper} {E:Operand->AV} {σ:Nat->Option Ob} {n:Nat}
theorem aZ.append{ρ:Ren}{C:cE}{l m:List AV}{vs us:List Value}(h:aZ ρ C l vs)(k:aZ ρ C m us):aZ ρ C (l++m) (vs++us):=
 aZ.of _ _ (by simp[h.length,k.length]) fun i x hi=>by
  have hl:=h.length;by_cases hlt:i<l.length
  ·rw[List.getElem?_append_left hlt]at hi;rw[List.getElem?_append_left (by omega)]
   exact h.get _ _ i x hi
  ·rw[List.getElem?_append_right (by omega)]at hi
   rw[List.getElem?_append_right (by omega),hl]
   exact k.get _ _ _ x hi
theorem Ki{s n0:Nat}{nn:Option Nat}{f:FuncId}{A:List PV}{ty esz:Nat}{cells cells':List PV}(hob:σ s=some ⟨ty,esz,cells.map .p⟩)(hS:xT P f nn A ty esz cells cells')
  (hkind:(nn=none/\esz=0)\/(nn=some n0/\esz≠0))
  (hrun:∀(ρ:Ren) (C:cE) (V:Nat->Value) (w:World),(∀x∈o.op.operands.toList,aO ρ C (E x) (bI V x))->∃v us,(execOp (bI V) o).run P w= .ok (.enter f (v::us).toArray) w/\cG C A us/\
    aO ρ C (match nn with|none=> .ptr s 0|some n0=> .own s 0 n0) v):cI P o E σ n .undef [s] [(s,some ⟨ty,esz,cells'.map .p⟩)] :=by
 obtain⟨_,hlen,hcall,hnil⟩:=hS;intro C0 ρ g V w B hs hB hR hn hgn hE;obtain⟨v,us,hr,hA,hv⟩:=hrun ρ _ V w hE;have hgs:g s=some ⟨ty,esz,cells.map .p⟩:=(hR s (by simp)).trans hob
 unfold cC;rw[hr];dsimp only;have hlk:∀s',s'≠s->[(s,some (⟨ty,esz,cells'.map .p⟩:Ob))].lookup s'=none:=by intro s' hs';simp[List.lookup,beq_eq_false_iff_ne.2 hs']
 have hup:∀s',s'≠s->eM g [(s,some ⟨ty,esz,cells'.map .p⟩)] s'=g s':=by intro s' hs';unfold eM;rw[hlk s' hs']
 have hat:∀s' o',[(s,some (⟨ty,esz,cells'.map .p⟩:Ob))].lookup s'=some (some o')->s'=s/\o'=⟨ty,esz,cells'.map .p⟩:=by
  intro s' o' e;have e1:s'=s:=by
   rcases Nat.decEq s' s with h|h
   ·rw[hlk s' h]at e;cases e
   ·exact h
  subst e1;simp[List.lookup]at e;exact⟨rfl,e.symm⟩
 have hlt:∀s ob b c,g s=some ob->ρ s=some (some b,c)->b<w.heap.size:=by
  intro s ob b c e1 e2;obtain⟨_,arr,e3⟩:=hs.at e1 e2;exact e3.lt
 have real:∀b c,ρ s=some (some b,c)->v=aG8 nn b c->(∀m,nn=some m->m<=c)->
   Calls P f (v::us).toArray w fun e w''=>∃v,e= .returned v/\∃ρ':Ren,(∀s,s≠n->ρ' s=ρ s)/\(∀b o' x,aY C0 B w ρ g b o' x->aY C0 B w'' ρ' (eM g [(s,some ⟨ty,esz,cells'.map .p⟩)]) b o' x)/\
    StR C0 ρ' (eM g [(s,some ⟨ty,esz,cells'.map .p⟩)]) w'' B/\aO ρ' (aY C0 B w'' ρ' (eM g [(s,some ⟨ty,esz,cells'.map .p⟩)])) .undef v/\Below B w w'':=by
  intro b c hρ hv hnc;obtain⟨hBb,arr,hO⟩:=hs.at hgs hρ;subst hv;have hL:Lent (aY C0 B w ρ g) w b c ty esz cells arr:=by
   refine⟨hO.blk,fun h=>by simpa using hO.box h,fun h=>by simpa using hO.row h,fun i x hi=> ?_⟩
   obtain⟨u,h1,h2,h3⟩:=hO.cells i (.p x) (by show(cells.map AV.p)[i]? =_;rw[List.getElem?_map,hi];rfl)
   unfold aO at h3;exact⟨u,h1,h2,h3⟩
  refine(hcall _ w b c arr us (fun b' o' x hx=>⟨hx.1,fun e=>by subst e;have:=hx.2.1 s c hρ;rw[hgs]at this;cases this⟩) hL hnc hA).mono ?_
  rintro e w' ⟨arr',rfl,hL',hG⟩;have hold:∀k,k<w.heap.size->k≠b->w'.heap[k]? =w.heap[k]? :=fun k h1 h2=>hG.block k h1 (fun e=>h2 (by cases e;rfl))
  have hmono:∀b' o' x,aY C0 B w ρ g b' o' x->aY C0 B w' ρ (eM g [(s,some ⟨ty,esz,cells'.map .p⟩)]) b' o' x:=by
   intro b' o' x ⟨e1,e2,e0⟩;have hne:b'≠b:=fun e=>by rw[e]at e2;rw[e2 s c hρ]at hgs;cases hgs
   refine⟨(World.cell?_of_block (hold b' (World.block_lt_of_cell? w ⟨b',o',none⟩ e1) hne)).trans e1,?_,e0⟩;intro s' c' e3;by_cases e:s'=s
   ·subst e;rw[e2 _ _ e3]at hgs;cases hgs
   ·rw[hup s' e];exact e2 s' c' e3
  refine⟨_,rfl,ρ,fun _ _=>rfl,hmono,?_,by unfold aO;rfl,⟨hG.os,hG.tape,hG.output,hG.size,fun k hk=>hold k (by omega) (by omega)⟩⟩
  refine hs.step (fun _ _ _ _=>rfl) (fun _ _ h=>h) hmono ?_ ?_
  ·intro s' o' b' c' e1 e2 e3;refine hold b' (hlt s' o' b' c' e2 e3) fun e=> ?_
   subst e;have:=hs.inj s s' _ o' b' c c' hgs e2 hρ e3;subst this;simp[List.lookup]at e1
  ·intro s' o' e;obtain⟨rfl,rfl⟩:=hat s' o' e;refine⟨some b,c,hρ,.inr ⟨b,arr',rfl,hBb,⟨hL'.blk,fun h=>by simpa using hL'.box h,fun h=>by simpa using hL'.row h,?_⟩,?_⟩⟩
   ·intro i x hi;have hi:(cells'.map AV.p)[i]? =some x:=hi;rw[List.getElem?_map]at hi;cases hc:cells'[i]? with
    |none=>rw[hc]at hi;cases hi
    |some y=>
     rw[hc]at hi;simp only[Option.map_some,Option.some.injEq]at hi;subst hi;obtain⟨u,h1,h2,h3⟩:=hL'.cells i y hc;exact⟨u,h1,h2,by unfold aO;exact bF.mono hmono y u h3⟩
   ·intro s2 o' c' hne e3 e4;rw[hup s2 hne]at e3;exact hne (hs.inj s' s2 _ o' b c c' hgs e3 hρ e4).symm
 rcases hkind with⟨rfl,he⟩|⟨rfl,he⟩
 ·dsimp only at hv;unfold aO at hv;obtain⟨b,c,hρ,hv⟩:=hv;exact real b c hρ hv (fun m h=>by cases h)
 ·dsimp only at hv;unfold aO at hv;obtain⟨q,c,hρ,⟨rfl,hv,rfl,_⟩|⟨b,o',c',rfl,hv,h5,h6,h7⟩⟩:=hv
  ·subst hv;have hcn:cells'=[] :=by
    obtain⟨q,c2,h1,h2|⟨b,arr,h2,_⟩⟩:=hs.ob s _ hgs
    ·have:(cells.map AV.p)=[] :=h2.2.2.1;have:cells.length=0:=by simpa using congrArg List.length this
     exact List.length_eq_zero_iff.1 (by omega)
    ·rw[hρ]at h1;cases h1;cases h2
   refine(hnil rfl _ w us (fun b' o' x hx=>hx.1) hA).mono ?_
   rintro e w' ⟨rfl,hb⟩;have hold:∀k,k<w.heap.size->w'.heap[k]? =w.heap[k]? :=fun k hk=>hb.block k hk
   have hmono:∀b' o' x,aY C0 B w ρ g b' o' x->aY C0 B w' ρ (eM g [(s,some ⟨ty,esz,cells'.map .p⟩)]) b' o' x:=by
    intro b' o' x ⟨e1,e2,e0⟩;refine⟨(World.cell?_of_block (hold b' (World.block_lt_of_cell? w ⟨b',o',none⟩ e1))).trans e1,?_,e0⟩;intro s' c' e3;by_cases e:s'=s
    ·subst e;rw[hρ]at e3;cases e3
    ·rw[hup s' e];exact e2 s' c' e3
   refine⟨_,rfl,ρ,fun _ _=>rfl,hmono,?_,by unfold aO;rfl,hb.mono hB⟩
   refine hs.step (fun _ _ _ _=>rfl) (fun _ _ h=>h) hmono (fun s' o' b' c' _ e2 e3=>hold b' (hlt s' o' b' c' e2 e3)) ?_
   intro s' o' e;obtain⟨rfl,rfl⟩:=hat s' o' e;refine⟨none,c,hρ,.inl ⟨rfl,he,by rw[hcn];rfl,?_⟩⟩
   obtain⟨q,c2,h1,h2|⟨b,arr,h2,_⟩⟩:=hs.ob s' _ hgs
   ·rw[hρ]at h1;cases h1;exact h2.2.2.2
   ·rw[hρ]at h1;cases h1;cases h2
  ·obtain⟨rfl,rfl⟩:=h7 rfl;exact real b c' hρ hv (fun m h=>by cases h;exact h5)
theorem aAJ{c:Call}{f:Operand}{fid:FuncId}{first caps:List AV}(hfm:f∈o.op.operands.toList)(ham:∀x∈c.args.toList,x∈o.op.operands.toList)(ho:o.op= .call c)(hc:c.callee= .value f)
  (hfv:∀ρ C v,aO ρ C (E f) v->∃vs1 vs2:List Value,v= .func (.func fid) vs1.toArray vs2.toArray/\aZ ρ C first vs1/\aZ ρ C caps vs2) {K:Res}
  (h:Md P σ fid (first++c.args.toList.map E++caps) K):∃r R W,cI P o E σ n r R W/\K r R W:=by
 have hrun:Cg P fid=true->∀(ρ:Ren) (C:cE) (V:Nat->Value) (w:World),(∀x∈o.op.operands.toList,aO ρ C (E x) (bI V x))->∃us,(execOp (bI V) o).run P w= .ok (.enter fid us.toArray) w/\aZ ρ C (first++c.args.toList.map E++caps) us:=by
  intro hok ρ C V w hE;obtain⟨vs1,vs2,hv,q1,q2⟩:=hfv _ _ _ (hE f hfm);have hargs:∀l:List Operand,(∀x∈l,x∈o.op.operands.toList)->aZ ρ C (l.map E) (l.map (bI V)):=by
   intro l;induction l with
   |nil=>intro _;simp only[List.map_nil];unfold aZ;rfl
   |cons x l ih=>
    intro hx;simp only[List.map_cons];unfold aZ;exact⟨_,_,rfl,hE x (hx x List.mem_cons_self),ih fun y hy=>hx y (List.mem_cons_of_mem _ hy)⟩
  refine⟨vs1++c.args.toList.map (bI V)++vs2,?_,(q1.append (hargs _ ham)).append q2⟩;unfold execOp;rw[ho];have e2:vs1.toArray++Array.map (bI V) c.args++vs2.toArray=(vs1++c.args.toList.map (bI V)++vs2).toArray:=by
   apply Array.toList_inj.1;simp
  simp only[resolve,hc,hv,Deferred.ofValue,Sem.run_bind,Sem.run_pure,Result.andThen_ok,invoke,mS hok,e2]
 generalize first++c.args.toList.map E++caps=avs at h hrun
 unfold Md at h;split at h
 ·rename_i s rest;obtain⟨ty,cells,hob,A,cells',hA,hS,hK⟩:=h;refine⟨_,_,_,Ki (n0:=0) hob hS (.inl ⟨rfl,rfl⟩) ?_,hK⟩;intro ρ C V w hE;obtain⟨us,h1,h2⟩:=hrun hS.1 ρ C V w hE;unfold aZ at h2;obtain⟨v,r,rfl,h3,h4⟩:=h2;exact⟨v,r,h1,pT hA h4,h3⟩
 ·rename_i s k rest;obtain⟨ty,esz,cells,hob,he,A,cells',hA,hS,hK⟩:=h;refine⟨_,_,_,Ki (n0:=k) hob hS (.inr ⟨rfl,he⟩) ?_,hK⟩;intro ρ C V w hE;obtain⟨us,h1,h2⟩:=hrun hS.1 ρ C V w hE;unfold aZ at h2;obtain⟨v,r,rfl,h3,h4⟩:=h2;exact⟨v,r,h1,pT hA h4,h3⟩
 ·exact h.elim
theorem aCZ{c:Call}{f:Operand}(ho:o.op= .call c)(hc:c.callee= .value f){K:Res}(h:qL P σ (E f) (c.args.toList.map E) K):∃r R W,cI P o E σ n r R W/\K r R W:=by
 have hfm:f∈o.op.operands.toList:=by rw[ho];simp[Op.operands,Call.operands,hc]
 have ham:∀x∈c.args.toList,x∈o.op.operands.toList:=by intro x hx;rw[ho];simp[Op.operands,Call.operands];exact .inr (by simpa using hx)
 have key:∀(fid:FuncId) (first caps:List AV),(∀ρ C v,aO ρ C (E f) v->∃vs1 vs2:List Value,v= .func (.func fid) vs1.toArray vs2.toArray/\aZ ρ C first vs1/\aZ ρ C caps vs2)->
   qZ P σ fid (first++c.args.toList.map E++caps) K->∃r R W,cI P o E σ n r R W/\K r R W:=by
  intro fid first caps hfv hgo
  refine Or.elim hgo ?_ (fun hgo=>aAJ hfm ham ho hc hfv hgo)
  rintro⟨A,hA,fr,r,hsat,hcase⟩;have sim:∀W:List (Nat×Option Ob),(W=[]/\(fr=true\/cR (first++c.args.toList.map E++caps)=some A))\/W=(dM (iQ 3 σ) (first++c.args.toList.map E++caps)).map (·,none)->cI P o E σ n (.p r) (dM (iQ 3 σ) (first++c.args.toList.map E++caps)) W:= ?_
  ·rcases hcase with⟨h1,h2⟩|h2
   ·exact⟨_,_,_,sim _ (.inl ⟨rfl,h1⟩),h2⟩
   ·exact⟨_,_,_,sim _ (.inr rfl),h2⟩
  intro W hW;intro C0 ρ g V w B hs hB hR hn hgn hE;obtain⟨vs1,vs2,hv,q1,q2⟩:=hfv _ _ _ (hE f hfm);have hargs:∀l:List Operand,(∀x∈l,x∈o.op.operands.toList)->aZ ρ (aY C0 B w ρ g) (l.map E) (l.map (bI V)):=by
   intro l;induction l with
   |nil=>intro _;simp only[List.map_nil];unfold aZ;rfl
   |cons x l ih=>
    intro hx;simp only[List.map_cons];unfold aZ;exact⟨_,_,rfl,hE x (hx x List.mem_cons_self),ih fun y hy=>hx y (List.mem_cons_of_mem _ hy)⟩
  have hall:=(q1.append (hargs _ ham)).append q2;obtain⟨hok,hcalls⟩:=hsat;have hrun:(execOp (bI V) o).run P w= .ok (.enter fid (vs1++c.args.toList.map (bI V)++vs2).toArray) w:=by
   unfold execOp;rw[ho];have e2:vs1.toArray++Array.map (bI V) c.args++vs2.toArray=(vs1++c.args.toList.map (bI V)++vs2).toArray:=by
    apply Array.toList_inj.1;simp
   simp only[resolve,hc,hv,Deferred.ofValue,Sem.run_bind,Sem.run_pure,Result.andThen_ok,invoke,mS hok,e2]
  have hlive:∀s ob b c,g s=some ob->ρ s=some (some b,c)->b<w.heap.size:=by
   intro s ob b c e1 e2;obtain⟨_,arr,e3⟩:=hs.at e1 e2;exact e3.lt
  have hnone:∀s x,W.lookup s=some x->W.lookup s=some none:=by
   intro s x h;rcases hW with⟨rfl,_⟩|rfl
   ·simp at h
   ·have key:∀l:List Nat,(l.map (·,(none:Option Ob))).lookup s=some x->x=none:=by
     intro l;induction l with
     |nil=>intro h;simp at h
     |cons k l ih=>
      intro h;simp only[List.map_cons,List.lookup]at h;split at h
      ·cases h;rfl
      ·exact ih h
    rw[h,key _ h]
  have hdrop:∀b o' x,aY C0 B w ρ g b o' x->aY C0 B w ρ (eM g W) b o' x:=by
   intro b o' x ⟨e1,e2,e0⟩;refine⟨e1,fun s c' e3=> ?_,e0⟩
   unfold eM;split
   ·rename_i y hy;have:=hnone s y hy;rw[hy]at this;cases this;rfl
   ·exact e2 s c' e3
  unfold cC;rw[hrun];dsimp only;have fin:∀(C:cE),(∀b o v,C b o v->w.cell? ⟨b,o,none⟩=some v)->cG C A (vs1++c.args.toList.map (bI V)++vs2)->(fr=false->∀b o v,C b o v->aY C0 B w ρ (eM g W) b o v)->
    Calls P fid (vs1++c.args.toList.map (bI V)++vs2).toArray w fun e w''=>∃v,e= .returned v/\∃ρ':Ren,(∀s,s≠n->ρ' s=ρ s)/\(∀b o' x,aY C0 B w ρ g b o' x->aY C0 B w'' ρ' (eM g W) b o' x)/\StR C0 ρ' (eM g W) w'' B/\aO ρ' (aY C0 B w'' ρ' (eM g W)) (.p r) v/\Below B w w'':=by
   intro C hC hrep hCC;refine(hcalls C w _ hC hrep).mono ?_;rintro e w' ⟨v,rfl,hr,hbel⟩;have hold:∀b,b<w.heap.size->w'.heap[b]? =w.heap[b]? :=fun b hb=>hbel.block b hb
   have hmono:∀b o' x,aY C0 B w ρ (eM g W) b o' x->aY C0 B w' ρ (eM g W) b o' x:=by
    intro b o' x ⟨e1,e2,e0⟩;exact⟨(World.cell?_of_block (hold b (World.block_lt_of_cell? w ⟨b,o',none⟩ e1))).trans e1,e2,e0⟩
   refine⟨v,rfl,ρ,fun _ _=>rfl,fun b o' x h=>hmono b o' x (hdrop b o' x h),?_,?_,hbel.mono hB⟩
   ·refine hs.step (fun _ _ _ _=>rfl) (fun _ _ h=>h) (fun b o' x h=>hmono b o' x (hdrop b o' x h)) ?_ (fun s o' h=>by rw[hnone s _ h]at h;cases h)
    intro s ob b c' _ e2 e3;exact hold b (hlive s ob b c' e2 e3)
   ·unfold aO;refine bF.mono ?_ r v hr;rintro b o' x (⟨h1,h2⟩|⟨h1,h2⟩)
    ·exact hmono b o' x (hCC h1 b o' x h2)
    ·refine⟨h2,?_,.inl (Nat.le_trans hB h1)⟩;intro s c' e3;unfold eM;split
     ·rename_i y hy;have:=hnone s y hy;rw[hy]at this;cases this;rfl
     ·cases hgs:g s with
      |none=>rfl
      |some ob=>have:=hlive s ob b c' hgs e3;omega
  have hsnap:∀(T:cE),(∀b o v,aY C0 B w ρ g b o v->T b o v)->(∀s ob b c2,s∈dM (iQ 3 σ) (first++c.args.toList.map E++caps)->g s=some ob->ρ s=some (some b,c2)->B<=b->∀o v,w.cell? ⟨b,o,none⟩=some v->T b o v)->
    cG T A (vs1++c.args.toList.map (bI V)++vs2):=by
   intro T hT1 hT2;obtain⟨g1,g2⟩:=rO hA;refine cG.of _ _ (by rw[<-g1];exact hall.length) fun i y hi=> ?_
   have hlt:i<(first++c.args.toList.map E++caps).length:=by rw[g1];exact(List.getElem?_eq_some_iff.1 hi).1
   obtain⟨y',h5,h6⟩:=g2 i _ (List.getElem?_eq_getElem hlt);rw[hi]at h5;cases h5;obtain⟨v,k1,k2⟩:=hall.get _ _ i _ (List.getElem?_eq_getElem hlt);exact⟨v,k1,Ow hs T (fun s=>s∈dM (iQ 3 σ) (first++c.args.toList.map E++caps)) hT1 hT2 3 _ _ v h6 (fun s hs'=>⟨rX (List.getElem_mem hlt) hs',hR s (rX (List.getElem_mem hlt) hs')⟩) k2⟩
  rcases hW with⟨rfl,h⟩|rfl
  ·cases fr with
   |true=>exact fin (aMl C0 B w) (fun b o v h=>h.1) (hsnap _ (fun b o v h=>⟨h.1,h.2.2⟩) (fun s ob b c _ _ _ hb o v h=>⟨h,.inl hb⟩)) (fun h=>by cases h)
   |false=>
    rcases h with h|h
    ·cases h
    ·exact fin (aY C0 B w ρ g) (fun b o v h=>h.1) (pT h hall) (fun _ b o v h=>h)
  ·refine fin (aY C0 B w ρ (eM g ((dM (iQ 3 σ) (first++c.args.toList.map E++caps)).map (·,none)))) (fun b o v h=>h.1) (hsnap _ hdrop ?_) (fun _ b o v h=>h)
   intro s ob b c' hsm e1 e2 hb o' v e3;have hmem:∀l:List Nat,s∈l->(l.map (·,(none:Option Ob))).lookup s=some none:=by
    intro l;induction l with
    |nil=>intro h;cases h
    |cons k l ih=>
     intro h;simp only[List.map_cons,List.lookup];by_cases e:s=k
     ·subst e;simp
     ·rw[beq_eq_false_iff_ne.2 e];rcases List.mem_cons.1 h with h|h
      ·exact absurd h e
      ·exact ih h
   refine⟨e3,fun s' c2 e4=> ?_,.inl hb⟩
   unfold eM;split
   ·rename_i y hy;have:=hnone s' y hy;rw[hy]at this;cases this;rfl
   ·rename_i hy;cases hg':g s' with
    |none=>rfl
    |some ob'=>
     have:=hs.inj s s' ob ob' b c' c2 e1 hg' e2 e4;subst this;rw[hmem _ hsm]at hy;cases hy
 unfold qL at h;split at h
 ·rename_i fid first caps e
  refine key fid first caps (fun ρ C v hv=> ?_) h
  rw[e]at hv;unfold aO at hv;exact hv
 ·rename_i fid first caps e
  refine key fid _ _ (fun ρ C v hv=> ?_) h
  rw[e]at hv;unfold aO bF at hv;obtain⟨vs1,vs2,h1,h2,h3⟩:=hv;exact⟨vs1,vs2,h1,h2.toA,h3.toA⟩
 ·exact h.elim
end
def Ym(v:Value)(us:List Value):Value:=match us with
 |[] =>v
 |us=> .tuple (v::us).toArray
def wM(C:cE)(N:Nat)(q:Option Nat)(w':World):cE:=fun b o x=>C b o x\/(N<=b/\q≠some b/\w'.cell? ⟨b,o,none⟩=some x)
def aD1(P:Program)(f:FuncId)(A:List PV)(ty esz:Nat)(cells:List PV)(m:Nat)(ys:List PV):Prop:=Cg P f=true/\esz≠0/\
 ∀(C:cE) (w:World) (vs:List Value),(∀b o v,C b o v->w.cell? ⟨b,o,none⟩=some v)->cG C A vs->
  Calls P f vs.toArray w fun e w'=>∃v us q c,e= .returned (Ym v us)/\Below w.heap.size w w'/\cG (wM C w.heap.size q w') ys us/\
   ((q=none/\v= .slice none 0 0/\m=0/\cells=[]/\c=0)\/∃b arr,q=some b/\v= .slice (some ⟨b,0,none⟩) m c/\m<=c/\w.heap.size<=b/\w'.heap[b]? =some (.cells arr ty (0,0))/\
     arr.size=c*esz/\cells.length<=arr.size/\c<=maxLen/\∀(i:Nat) x,cells[i]? =some x->∃u,arr[i]? =some u/\u.oneCell'=true/\bF (wM C w.heap.size q w') x u)
def aDM(n m:Nat)(ys:List PV):AV:=match ys with
 |[] => .own n 0 m
 |ys=> .tup (.own n 0 m::ys.map .p)
def aHD(P:Program)(f:FuncId)(A:List PV)(ty esz:Nat)(cells:List PV)(m:Nat)(ys:List PV):Prop:=Cg P f=true/\esz≠0/\
 ∀(C:cE) (w:World) (vs:List Value),(∀b o v,C b o v->w.cell? ⟨b,o,none⟩=some v)->cG C A vs->
  Calls P f (Value.slice none 0 0::vs).toArray w fun e w'=>∃v us q c,e= .returned (Ym v us)/\Below w.heap.size w w'/\cG (wM C w.heap.size q w') ys us/\
   ((q=none/\v= .slice none 0 0/\m=0/\cells=[]/\c=0)\/∃b arr,q=some b/\v= .slice (some ⟨b,0,none⟩) m c/\m<=c/\w.heap.size<=b/\w'.heap[b]? =some (.cells arr ty (0,0))/\
     arr.size=c*esz/\cells.length<=arr.size/\c<=maxLen/\∀(i:Nat) x,cells[i]? =some x->∃u,arr[i]? =some u/\u.oneCell'=true/\bF (wM C w.heap.size q w') x u)
def Cv(P:Program)(n:Nat)(f:FuncId)(avs:List AV)(K:Res):Prop:=
 ∃A ty esz cells m ys,((cR avs=some A/\aD1 P f A ty esz cells m ys)\/∃r,avs= .nil::r/\cR r=some A/\aHD P f A ty esz cells m ys)/\K (aDM n m ys) [] [(n,some ⟨ty,esz,cells.map .p⟩)]
def Wj(P:Program)(n:Nat)(fv:AV)(args:List AV)(K:Res):Prop:=match fv with
 | .fn (.func f) first caps=>Cv P n f (first++args++caps) K
 | .p (.fn (.func f) first caps)=>Cv P n f (first.map .p++args++caps.map .p) K
 |_=>False
section
variable {P:Program} {o:Oper} {E:Operand->AV} {σ:Nat->Option Ob} {n:Nat}
theorem cG.aG7{ρ:Ren}{C:cE}:∀{l:List PV} {vs:List Value},cG C l vs->aZ ρ C (l.map .p) vs
 |[],vs,h=>by unfold cG at h;simp only[List.map_nil];unfold aZ;exact h
 |x::l,vs,h=>by
  unfold cG at h;obtain⟨v,r,rfl,h2,h3⟩:=h;simp only[List.map_cons];unfold aZ;exact⟨v,r,rfl,by unfold aO;exact h2,cG.aG7 h3⟩
theorem aAI{c:Call}{f:Operand}(ho:o.op= .call c)(hc:c.callee= .value f){K:Res}(h:Wj P n (E f) (c.args.toList.map E) K):∃r R W,cI P o E σ n r R W/\K r R W:=by
 have hfm:f∈o.op.operands.toList:=by rw[ho];simp[Op.operands,Call.operands,hc]
 have ham:∀x∈c.args.toList,x∈o.op.operands.toList:=by intro x hx;rw[ho];simp[Op.operands,Call.operands];exact .inr (by simpa using hx)
 have key:∀(fid:FuncId) (first caps:List AV),(∀ρ C v,aO ρ C (E f) v->∃vs1 vs2:List Value,v= .func (.func fid) vs1.toArray vs2.toArray/\aZ ρ C first vs1/\aZ ρ C caps vs2)->
   Cv P n fid (first++c.args.toList.map E++caps) K->∃r R W,cI P o E σ n r R W/\K r R W:=by
  intro fid first caps hfv ⟨A,ty,esz,cells,m,ys,hA,hK⟩
  obtain⟨hok,he,hcalls⟩:Cg P fid=true/\esz≠0/\∀(ρ:Ren) (C:cE) (w:World) (vs:List Value),(∀b o v,C b o v->w.cell? ⟨b,o,none⟩=some v)->aZ ρ C (first++c.args.toList.map E++caps) vs->
   Calls P fid vs.toArray w fun e w'=>∃v us q c,e= .returned (Ym v us)/\Below w.heap.size w w'/\cG (wM C w.heap.size q w') ys us/\
    ((q=none/\v= .slice none 0 0/\m=0/\cells=[]/\c=0)\/∃b arr,q=some b/\v= .slice (some ⟨b,0,none⟩) m c/\m<=c/\w.heap.size<=b/\w'.heap[b]? =some (.cells arr ty (0,0))/\
      arr.size=c*esz/\cells.length<=arr.size/\c<=maxLen/\∀(i:Nat) x,cells[i]? =some x->∃u,arr[i]? =some u/\u.oneCell'=true/\bF (wM C w.heap.size q w') x u):=by
   rcases hA with⟨hA,h1,h2,h3⟩|⟨r,hr,hA,h1,h2,h3⟩
   ·exact⟨h1,h2,fun ρ C w vs hC h=>h3 C w vs hC (pT hA h)⟩
   ·refine⟨h1,h2,fun ρ C w vs hC h=> ?_⟩
    rw[hr]at h;unfold aZ at h;obtain⟨v,vs',rfl,h4,h5⟩:=h;unfold aO at h4;subst h4;exact h3 C w vs' hC (pT hA h5)
  refine⟨_,_,_,?_,hK⟩;intro C0 ρ g V w B hs hB hR hn hgn hE;obtain⟨vs1,vs2,hv,q1,q2⟩:=hfv _ _ _ (hE f hfm);have hargs:∀l:List Operand,(∀x∈l,x∈o.op.operands.toList)->aZ ρ (aY C0 B w ρ g) (l.map E) (l.map (bI V)):=by
   intro l;induction l with
   |nil=>intro _;simp only[List.map_nil];unfold aZ;rfl
   |cons x l ih=>
    intro hx;simp only[List.map_cons];unfold aZ;exact⟨_,_,rfl,hE x (hx x List.mem_cons_self),ih fun y hy=>hx y (List.mem_cons_of_mem _ hy)⟩
  have hall:=(q1.append (hargs _ ham)).append q2;have hrun:(execOp (bI V) o).run P w= .ok (.enter fid (vs1++c.args.toList.map (bI V)++vs2).toArray) w:=by
   unfold execOp;rw[ho];have e2:vs1.toArray++Array.map (bI V) c.args++vs2.toArray=(vs1++c.args.toList.map (bI V)++vs2).toArray:=by
    apply Array.toList_inj.1;simp
   simp only[resolve,hc,hv,Deferred.ofValue,Sem.run_bind,Sem.run_pure,Result.andThen_ok,invoke,mS hok,e2]
  have hlive:∀s ob b c,g s=some ob->ρ s=some (some b,c)->b<w.heap.size:=by
   intro s ob b c e1 e2;obtain⟨_,arr,e3⟩:=hs.at e1 e2;exact e3.lt
  unfold cC;rw[hrun];dsimp only;refine(hcalls ρ (aY C0 B w ρ g) w _ (fun b o v h=>h.1) hall).mono ?_
  rintro e w' ⟨v,us,q,c,rfl,hbel,hys,hrow⟩;have hqb:∀b,q=some b->w.heap.size<=b:=by
   intro b hb;rcases hrow with⟨h1,_⟩|⟨b',arr,h1,_,_,h4,_⟩
   ·rw[h1]at hb;cases hb
   ·rw[h1]at hb;cases hb;exact h4
  have hold:∀b,b<w.heap.size->w'.heap[b]? =w.heap[b]? :=fun b hb=>hbel.block b hb
  let ρ':Ren:=fun s=>if s=n then some (q,c)else ρ s
  have hρn:ρ' n=some (q,c):=if_pos rfl;have hρs:∀s,s≠n->ρ' s=ρ s:=fun s h=>if_neg h
  have hup:∀s,s≠n->eM g [(n,some ⟨ty,esz,cells.map .p⟩)] s=g s:=by
   intro s h;unfold eM;simp[List.lookup,beq_eq_false_iff_ne.2 h]
  have hmono:∀b o' x,aY C0 B w ρ g b o' x->aY C0 B w' ρ' (eM g [(n,some ⟨ty,esz,cells.map .p⟩)]) b o' x:=by
   intro b o' x ⟨e1,e2,e0⟩;have hlt:=World.block_lt_of_cell? w ⟨b,o',none⟩ e1;refine⟨(World.cell?_of_block (hold b hlt)).trans e1,fun s c' e3=> ?_,e0⟩
   by_cases hsn:s=n
   ·subst hsn;rw[hρn]at e3;cases e3;have:=hqb b rfl;have hlt:b<w.heap.size:=hlt;omega
   ·rw[hup s hsn];rw[hρs s hsn]at e3;exact e2 s c' e3
  have hkeep:∀b o' x,wM (aY C0 B w ρ g) w.heap.size q w' b o' x->aY C0 B w' ρ' (eM g [(n,some ⟨ty,esz,cells.map .p⟩)]) b o' x:=by
   rintro b o' x (h1|⟨h1,h2,h3⟩)
   ·exact hmono b o' x h1
   ·refine⟨h3,fun s c' e3=> ?_,.inl (Nat.le_trans hB h1)⟩
    by_cases hsn:s=n
    ·subst hsn;rw[hρn]at e3;cases e3;exact absurd rfl h2
    ·rw[hup s hsn];rw[hρs s hsn]at e3;cases hgs:g s with
     |none=>rfl
     |some ob=>have:=hlive s ob b c' hgs e3;omega
  refine⟨_,rfl,ρ',hρs,hmono,?_,?_,hbel.mono hB⟩
  ·refine hs.step (fun s o' _ hgs=>hρs s (fun h=>by subst h;rw[hgn]at hgs;cases hgs)) (fun s q' hq=>by rw[hρs s (fun e=>by subst e;rw[hn]at hq;cases hq)];exact hq) hmono ?_ ?_
   ·intro s ob b c' _ e2 e3;exact hold b (hlive s ob b c' e2 e3)
   ·intro s o' hso;have hsn:s=n:=by
     rcases Nat.decEq s n with h|h
     ·simp[List.lookup,beq_eq_false_iff_ne.2 h]at hso
     ·exact h
    subst hsn;simp[List.lookup]at hso;subst hso;refine⟨q,c,hρn,?_⟩;rcases hrow with⟨h1,h2,h3,h4,h5⟩|⟨b,arr,h1,h2,h3,h4,h5,h6,h7,h8,h9⟩
    ·exact .inl ⟨h1,he,by rw[h4];rfl,h5⟩
    ·refine .inr ⟨b,arr,h1,Nat.le_trans hB h4,⟨h5,fun h=>absurd h he,fun _=>⟨h6,by simpa using h7,h8⟩,fun i x hi=> ?_⟩,fun s' o2 c' hne hg' hr'=> ?_⟩
     ·have hi:(cells.map AV.p)[i]? =some x:=hi;rw[List.getElem?_map]at hi;cases hci:cells[i]? with
      |none=>rw[hci]at hi;cases hi
      |some y=>
       rw[hci]at hi;simp only[Option.map_some,Option.some.injEq]at hi;subst hi;obtain⟨u,k1,k2,k3⟩:=h9 i y hci;exact⟨u,k1,k2,by unfold aO;exact bF.mono hkeep y u k3⟩
     ·rw[hup s' hne]at hg';rw[hρs s' hne]at hr';have:=hlive s' o2 b c' hg' hr';omega
  ·have hown:aO ρ' (aY C0 B w' ρ' (eM g [(n,some ⟨ty,esz,cells.map .p⟩)])) (.own n 0 m) v:=by
    unfold aO;refine⟨q,c,hρn,?_⟩;rcases hrow with⟨h1,h2,h3,_⟩|⟨b,arr,h1,h2,h3,_⟩
    ·exact .inl ⟨h1,h2,h3,rfl⟩
    ·exact .inr ⟨b,0,c,h1,h2,h3,fun _=>rfl,fun _=>⟨rfl,rfl⟩⟩
   have hys2:aZ ρ' (aY C0 B w' ρ' (eM g [(n,some ⟨ty,esz,cells.map .p⟩)])) (ys.map .p) us:=(cG.mono hkeep ys us hys).aG7;cases ys with
   |nil=>
    have:us=[] :=by have:=hys.length;simpa using this
    subst this;exact hown
   |cons y ys=>
    have hne:us≠[] :=fun h=>by have:=hys.length;rw[h]at this;simp at this
    cases us with
    |nil=>exact absurd rfl hne
    |cons u us=>
     unfold aDM Ym;dsimp only;unfold aO;refine⟨v::u::us,rfl,?_⟩;unfold aZ;exact⟨v,u::us,rfl,hown,hys2⟩
 unfold Wj at h;split at h
 ·rename_i fid first caps e
  refine key fid first caps (fun ρ C v hv=> ?_) h
  rw[e]at hv;unfold aO at hv;exact hv
 ·rename_i fid first caps e
  refine key fid _ _ (fun ρ C v hv=> ?_) h
  rw[e]at hv;unfold aO bF at hv;obtain⟨vs1,vs2,h1,h2,h3⟩:=hv;exact⟨vs1,vs2,h1,h2.toA,h3.toA⟩
 ·exact h.elim
end
end Go.Proofs.YtdaeofhdgabhjaaGreat
namespace Go.Proofs.YtdaeofhdgabhjaaGreat
open Go.RowKit
theorem Im{P:Program}{ops:Array Oper}{Q:Exit->Act->World->Prop}
  (hac:∀(i:Nat) (o:Oper),ops[i]? =some o->∀e∈o.after.toList,Region.binds .any e=true->e.on<i)
  (Inv:(Nat->Bool)->Act->World->Prop)
  (hstep:∀(i:Nat) (o:Oper) (D:Nat->Bool) (a:Act) (w:World),ops[i]? =some o->Inv D a w->D i=false->(∀e∈o.after.toList,Region.binds .any e=true->D e.on=true)->
    wpOp P ops Q i (fun a' w'=>Inv (fun j=>if j=i then true else D j) a' w') a w)
  (hend:∀(D:Nat->Bool) (a:Act) (w:World),Inv D a w->(∀i,i<ops.size->D i=true)->Q .normal a w):
  ∀(m k:Nat) (a:Act) (w:World),k+m=ops.size->Inv (fun j=>decide (j<k)) a w->wpOps P ops Q (List.range' k m) a w
 |0,k,a,w,hk,hI=>hend _ a w hI (fun i hi=>decide_eq_true (by omega))
 |m+1,k,a,w,hk,hI=>by
  rw[List.range'_succ,wpOps_cons];obtain⟨o,ho⟩:∃o,ops[k]? =some o:=⟨_,Array.getElem?_eq_getElem (by omega)⟩
  refine wpOp_mono ?_ (hstep k o _ a w ho hI (decide_eq_false (by omega)) (fun e he hb=>decide_eq_true (hac k o ho e he hb)))
  intro a' w' hI';refine Im hac Inv hstep hend m (k+1) a' w' (by omega) ?_
  have e:(fun j=>decide (j<k+1))=(fun j=>if j=k then true else decide (j<k)):=by
   funext j
   by_cases h:j=k
   ·rw[if_pos h];exact decide_eq_true (by omega)
   ·rw[if_neg h];simp;omega
  rw[e];exact hI'
theorem Hi{P:Program}{id:Nat}{ops:Array Oper}{Q:Exit->Act->World->Prop}{a0:Act}{w0:World}
  (hac:∀(i:Nat) (o:Oper),ops[i]? =some o->∀e∈o.after.toList,Region.binds .any e=true->e.on<i)
  (Inv:(Nat->Bool)->Act->World->Prop) (h0:Inv (fun _=>false) a0 w0)
  (hstep:∀(i:Nat) (o:Oper) (D:Nat->Bool) (a:Act) (w:World),ops[i]? =some o->Inv D a w->D i=false->(∀e∈o.after.toList,Region.binds .any e=true->D e.on=true)->
    wpOp P ops Q i (fun a' w'=>Inv (fun j=>if j=i then true else D j) a' w') a w)
  (hend:∀(D:Nat->Bool) (a:Act) (w:World),Inv D a w->(∀i,i<ops.size->D i=true)->Q .normal a w):
  (Code.region id ops false).wp P Q a0 w0:=by
 refine wp_region ?_;have:=Im (Q:=Q) hac Inv hstep hend ops.size 0 a0 w0 (by omega) (by
  have e:(fun j=>decide (j<0))=(fun _:Nat=>false):=by funext j;simp
  rw[e];exact h0)
 rw[List.range_eq_range'];exact this
theorem Mt{P:Program}{id:Nat}{ops:Array Oper}{Q:Exit->Act->World->Prop}{a0:Act}{w0:World}
  (dsts:List Nat)
  (hok:((List.range ops.size).all fun i=>((ops[i]?).map fun o=>(o.after.toList.all fun e=> !Region.binds .any e||decide (e.on<i))&&(match o.dst with|some d=>dsts.contains d|none=>true)).getD true)=true)
  (hds:∀s∈dsts,s<a0.tmps.size)
  (F:(Nat->Bool)->(Nat->Value)->World->Prop) (h0:F (fun _=>false) (fun s=>a0.tmps.getD s undef) w0)
  (hstep:∀(i:Nat) (o:Oper) (D:Nat->Bool) (V:Nat->Value) (w:World),ops[i]? =some o->F D V w->D i=false->(∀e∈o.after.toList,Region.binds .any e=true->D e.on=true)->
    (∀s,s∉dsts->V s=a0.tmps.getD s undef)->
    if Region.wanted o (gdV ops V)=true then
     cC P o V w (fun v w'=>F (fun j=>if j=i then true else D j) (match o.dst with|some d=>fun s=>if s=d then v else V s|none=>V) w')
    else F (fun j=>if j=i then true else D j) (match o.dst with|some d=>fun s=>if s=d then undef else V s|none=>V) w)
  (hend:∀(D:Nat->Bool) (V:Nat->Value) (w:World),F D V w->(∀i,i<ops.size->D i=true)->Q .normal (eL a0 dsts V) w):
  (Code.region id ops false).wp P Q a0 w0:=by
 have hops:∀(i:Nat) (o:Oper),ops[i]? =some o->(∀e∈o.after.toList,Region.binds .any e=true->e.on<i)/\(∀d,o.dst=some d->d∈dsts):=by
  intro i o ho;have hi:i<ops.size:=(Array.getElem?_eq_some_iff.1 ho).1;rw[List.all_eq_true]at hok;have:=hok i (List.mem_range.2 hi);rw[ho]at this;simp only[Option.map_some,Option.getD_some,Bool.and_eq_true]at this;obtain⟨g2,g3⟩:=this;refine⟨?_,?_⟩
  ·intro e he hb;rw[List.all_eq_true]at g2;have:=g2 e he;rw[hb]at this;simpa using this
  ·intro d hd;rw[hd]at g3;simpa using g3
 refine Hi (fun i o ho=>(hops i o ho).1) (fun D a w=>a.defers=a0.defers/\a.tmps.size=a0.tmps.size/\(∀s,s∉dsts->a.tmps.getD s undef=a0.tmps.getD s undef)/\F D (fun s=>a.tmps.getD s undef) w) ⟨rfl,rfl,fun _ _=>rfl,h0⟩ ?_ ?_
 ·intro i o D a w ho ⟨i1,i2,i3,i4⟩ hD hpre;obtain⟨_,hdst⟩:=hops i o ho;have hrun:=hstep i o D (fun s=>a.tmps.getD s undef) w ho i4 hD hpre i3
  have hput:∀(v:Value) (w':World),F (fun j=>if j=i then true else D j) (match o.dst with|some d=>fun s=>if s=d then v else a.tmps.getD s undef|none=>fun s=>a.tmps.getD s undef) w'->
    (a.put o.dst v).defers=a0.defers/\(a.put o.dst v).tmps.size=a0.tmps.size/\(∀s,s∉dsts->(a.put o.dst v).tmps.getD s undef=a0.tmps.getD s undef)/\F (fun j=>if j=i then true else D j) (fun s=>(a.put o.dst v).tmps.getD s undef) w':=by
   intro v w' hF;cases hd:o.dst with
   |none=>rw[hd]at hF;exact⟨i1,i2,i3,hF⟩
   |some d=>
    rw[hd]at hF;have hdm:=hdst d hd;have hlt:d<a.tmps.size:=by rw[i2];exact hds d hdm
    have hget:∀s,(a.put (some d) v).tmps.getD s undef=if s=d then v else a.tmps.getD s undef:=by
     intro s;simp only[Act.put,Array.getD_eq_getD_getElem?,Array.getElem?_setIfInBounds];by_cases e:d=s
     ·subst e;rw[if_pos rfl,if_pos hlt,if_pos rfl];rfl
     ·rw[if_neg e,if_neg (fun e'=>e e'.symm)]
    refine⟨i1,by simpa[Act.put]using i2,?_,?_⟩
    ·intro s hs;rw[hget,if_neg (fun e=>hs (by rw[e];exact hdm))]
     exact i3 s hs
    ·have e:(fun s=>(a.put (some d) v).tmps.getD s undef)=(fun s=>if s=d then v else a.tmps.getD s undef):=funext hget
     rw[e];exact hF
  unfold wpOp;rw[ho];simp only[];rw[qN];by_cases hw:Region.wanted o (gdV ops fun s=>a.tmps.getD s undef)=true
  ·rw[if_pos hw]at hrun|-;refine .inl ?_;unfold Oper.wp;rw[Act.eval_evalV];unfold cC at hrun;cases hr:(execOp (bI fun s=>a.tmps.getD s undef) o).run P w with
   |halt x w'=>rw[hr]at hrun;exact hrun.elim
   |ok n w'=>
    rw[hr]at hrun;cases n<;>simp only[]at hrun<;>first|exact hrun.elim|skip
    ·exact hput _ _ hrun
    ·exact hput _ _ hrun
    ·rename_i f args;show Calls P f args w' _;refine hrun.mono ?_;rintro e w'' ⟨v,rfl,hK⟩;exact hput _ _ hK
  ·rw[if_neg hw]at hrun|-;exact hput _ _ hrun
 ·intro D a w ⟨i1,i2,i3,i4⟩ hall;have:=hend D _ w i4 hall;obtain⟨p1,p2,p3⟩:=mT (fun s=>a.tmps.getD s undef) dsts a0 hds
  have e:eL a0 dsts (fun s=>a.tmps.getD s undef)=a:=by
   obtain⟨t,df⟩:=a;have ht:(eL a0 dsts (fun s=>t.getD s undef)).tmps=t:=by
    apply Array.ext
    ·rw[p2];exact i2.symm
    ·intro s h1 h2;have h3:=p3 s (by rw[<-i2];exact h2)
     rw[Array.getD_eq_getD_getElem?,Array.getElem?_eq_getElem h1,Option.getD_some]at h3;rw[h3];by_cases hm:s∈dsts
     ·rw[if_pos hm];simp[Array.getD_eq_getD_getElem?,h2]
     ·rw[if_neg hm,<-i3 s hm];simp[Array.getD_eq_getD_getElem?,h2]
   have hdf:(eL a0 dsts (fun s=>t.getD s undef)).defers=df:=p1.trans i1.symm
   show eL a0 dsts (fun s=>t.getD s undef)={tmps:=t,defers:=df}
   cases hp:eL a0 dsts (fun s=>t.getD s undef)with
   |mk t' df'=>
    rw[hp]at ht hdf;have e1:t'=t:=ht;have e2:df'=df:=hdf;rw[e1,e2]
  rw[e]at this;exact this
theorem Mv{P:Program}{id:Nat}{l:List Oper}{Q:Exit->Act->World->Prop}{a0:Act}{w0:World}
  (dsts:List Nat) (anc:List (List Nat)) (hok:okF l anc=true) (hdst:((List.range l.length).all fun i=>cP l i==1000000||dsts.contains (cP l i))=true) (hds:∀s∈dsts,s<a0.tmps.size)
  (WR:(Nat->Bool)->World->Prop) (fact:Nat->Value->World->Prop) (h0:WR (fun _=>false) w0)
  (hmono:∀j v w w',fact j v w->Below w.heap.size w w'->fact j v w')
  (hstep:rU (Vz P l anc a0 WR fact) l 0)
  (hend:∀(D:Nat->Bool) (V:Nat->Value) (w:World),(∀i,i<l.length->D i=true)->(∀i,i<l.length->fact i (gH l V i) w)->WR D w->Q .normal (eL a0 dsts V) w):
  (Code.region id l.toArray false).wp P Q a0 w0:=by
 unfold okF at hok;rw[List.all_eq_true]at hok;have hget:∀i o,l[i]? =some o->i<l.length:=fun i o h=>(List.getElem?_eq_some_iff.1 h).1
 have hop:∀i o,l[i]? =some o->(∀e∈o.after.toList,Region.binds .any e=true->e.on<i/\(fA anc i).contains e.on=true)/\o.guard=none/\
   (∀j,(fA anc i).contains j=true->j<i/\∃e∈o.after.toList,Region.binds .any e=true/\(e.on=j\/(fA anc e.on).contains j=true))/\(∀d,o.dst=some d->cP l i=d/\d≠1000000)/\(o.dst=none->cP l i=1000000):=by
  intro i o ho;have h1:=hok i (List.mem_range.2 (hget i o ho));simp only[Bool.and_eq_true]at h1;obtain⟨⟨h2,h3⟩,_⟩:=h1;rw[ho]at h2;simp only[Option.map_some,Option.getD_some,Bool.and_eq_true,Option.isNone_iff_eq_none,bne_iff_ne,ne_eq]at h2;refine⟨?_,h2.1.2,?_,?_,?_⟩
  ·intro e he hb;have:=List.all_eq_true.1 h2.1.1 e he;rw[hb]at this;simpa using this
  ·intro j hj;rw[List.all_eq_true]at h3;have:=h3 j (by simpa using hj)
   simp only[Bool.and_eq_true,decide_eq_true_eq]at this;obtain⟨h4,h5⟩:=this;refine⟨h4,?_⟩;rw[ho]at h5;simp only[Option.map_some,Option.getD_some,List.any_eq_true,Bool.and_eq_true,Bool.or_eq_true,beq_iff_eq]at h5;exact h5
  ·intro d hd;refine⟨by unfold cP;rw[ho];simp[hd],?_⟩
   rintro rfl;exact h2.2 hd
  ·intro hd;unfold cP;rw[ho];simp[hd]
 have huniq:∀i j,i<l.length->j<l.length->j≠i->cP l j=cP l i->cP l i=1000000:=by
  intro i j hi hj hne he;have h1:=hok i (List.mem_range.2 hi);simp only[Bool.and_eq_true]at h1;obtain⟨_,h3⟩:=h1;rw[List.all_eq_true]at h3;have:=h3 j (List.mem_range.2 hj);simp only[Bool.or_eq_true,beq_iff_eq,bne_iff_ne,ne_eq]at this;rcases this with(h|h)|h
  ·exact absurd h hne
  ·exact absurd he h
  ·exact h
 let G:(Nat->Bool)->(Nat->Value)->World->Prop:=fun D V w=>
  (∀i j,D i=true->(fA anc i).contains j=true->D j=true)/\(∀i,i<l.length->D i=true->fact i (gH l V i) w)/\
  (∀s,(∀j,j<l.length->cP l j=s->D j=false)->V s=a0.tmps.getD s undef)/\WR D w
 refine Mt dsts ?_ hds G ?_ ?_ ?_
 ·rw[List.all_eq_true];intro i hi;have hi':=List.mem_range.1 hi;simp only[List.size_toArray]at hi';have ho:l[i]? =some l[i] :=List.getElem?_eq_getElem hi';obtain⟨q1,q2,q3,q4,q5⟩:=hop i _ ho;simp only[List.getElem?_toArray,ho,Option.map_some,Option.getD_some,Bool.and_eq_true];refine⟨?_,?_⟩
  ·rw[List.all_eq_true];intro e he;cases hb:Region.binds .any e with
   |false=>simp
   |true=>simpa using(q1 e he hb).1
  ·cases hd:l[i].dst with
   |none=>rfl
   |some d=>
    have e1:=(q4 d hd).1;rw[List.all_eq_true]at hdst;have:=hdst i (List.mem_range.2 hi');rw[e1]at this;simp only[Bool.or_eq_true,beq_iff_eq]at this;rcases this with h|h
    ·exact absurd h (q4 d hd).2
    ·simpa using h
 ·exact⟨(fun i j h=>by cases h),(fun i _ h=>by cases h),(fun s _=>rfl),h0⟩
 ·intro i o D V w ho ⟨g1,g2,g3,g4⟩ hD hpre hV;have ho':l[i]? =some o:=by simpa using ho
  obtain⟨q1,q2,q3,q4,q5⟩:=hop i o ho';have hi:=hget i o ho';have hanc:∀j,(fA anc i).contains j=true->D j=true:=by
   intro j hj;obtain⟨_,e,he,hb,h⟩:=q3 j hj;have:=hpre e he hb;rcases h with rfl|h
   ·exact this
   ·exact g1 _ _ this h
  have hdesc:∀j,(fA anc j).contains i=true->D j=false:=by
   intro j hj;cases hx:D j with
   |false=>rfl
   |true=>rw[g1 _ _ hx hj]at hD;cases hD
  have hs:=oR l 0 hstep i o ho';rw[Nat.zero_add]at hs;have hrun:=hs D V w hD (fun j hj=>⟨hanc j hj,g2 j (Nat.lt_trans (q3 j hj).1 hi) (hanc j hj)⟩) hdesc (fun s hsl=>g3 s (fun j hj hjs=>by
   unfold Ld at hsl;rw[List.all_eq_true]at hsl;have:=hsl j (List.mem_range.2 hj);simp only[Bool.or_eq_true,bne_iff_ne,ne_eq,beq_iff_eq]at this;rcases this with(h|h)|h
   ·exact absurd hjs h
   ·exact hdesc j h
   ·rw[h];exact hD)) g4
  rw[if_pos (by unfold Region.wanted;rw[q2])]
  have hmono':∀(K K':Value->World->Prop),(∀v w,K v w->K' v w)->cC P o V w K->cC P o V w K':=by
   intro K K' hk h;unfold cC at h|-;split at h
   ·exact hk _ _ h
   ·exact hk _ _ h
   ·exact h.mono fun e w'' ⟨v,he,hv⟩=>⟨v,he,hk _ _ hv⟩
   ·exact h.elim
  have key:∀(U:Nat->Value) (v:Value) (w':World),(∀s,s≠cP l i->U s=V s)->(cP l i≠1000000->U (cP l i)=v)->
    (fact i (if cP l i=1000000 then undef else v) w'/\WR (gY D i) w'/\(w'=w\/Below w.heap.size w w'\/∀j,D j=true->fact j (gH l V j) w->fact j (gH l V j) w'))->G (gY D i) U w':=by
   rintro U v w' hVd hVv ⟨k1,k2,k3⟩;refine⟨?_,?_,?_,k2⟩
   ·intro i' j h1 h2;by_cases e:j=i
    ·simp[gY,e]
    ·by_cases e':i'=i
     ·subst e';simp only[gY,e,if_false];exact hanc j h2
     ·simp only[gY,e',if_false]at h1;simp only[gY,e,if_false];exact g1 _ _ h1 h2
   ·intro i' hi' h1;by_cases e:i'=i
    ·subst e;have:gH l U i'=if cP l i'=1000000 then undef else v:=by
      unfold gH;by_cases h6:cP l i'=1000000
      ·rw[if_pos h6,if_pos h6]
      ·rw[if_neg h6,if_neg h6,hVv h6]
     rw[this];exact k1
    ·simp only[gY,e,if_false]at h1;have:gH l U i'=gH l V i':=by
      unfold gH;by_cases h6:cP l i'=1000000
      ·rw[if_pos h6,if_pos h6]
      ·rw[if_neg h6,if_neg h6,hVd];intro h7;exact h6 (by rw[h7];exact huniq i i' hi hi' e h7)
     rw[this];have h8:=g2 i' hi' h1;rcases k3 with rfl|k3|k3
     ·exact h8
     ·exact hmono _ _ _ _ h8 k3
     ·exact k3 i' h1 h8
   ·intro s hs;have hne:s≠cP l i:=by
     intro h;have:=hs i hi h.symm;simp[gY]at this
    rw[hVd s hne];refine g3 s (fun j hj hjs=> ?_)
    have:=hs j hj hjs;by_cases e:j=i
    ·subst e;exact hD
    ·simpa[gY,e]using this
  refine hmono' _ _ ?_ hrun;intro v w' hk;show G (gY D i) _ w';cases hd:o.dst with
  |none=>
   have e1:=q5 hd;refine key _ v w' ?_ (fun h=>absurd e1 h) hk
   intro s _;rfl
  |some d=>
   have e1:=(q4 d hd).1;refine key _ v w' ?_ ?_ hk
   ·intro s hs;rw[e1]at hs;simp only[];rw[if_neg hs]
   ·intro _;rw[e1];simp
 ·intro D V w ⟨g1,g2,g3,g4⟩ hall;simp only[List.size_toArray]at hall;exact hend D V w hall (fun i hi=>g2 i hi (hall i hi)) g4
end Go.Proofs.YtdaeofhdgabhjaaGreat
namespace Go.Proofs.YtdaeofhdgabhjaaGreat
open Go.RowKit
def look:List (Nat×Option Ob)->Nat->Option Ob
 |[],_=>none
 |(k,x)::l,s=>if s=k then x else look l s
theorem uR(L:List (Nat×Option Ob)):∀W:List (Nat×Option Ob),look (W++L)=eM (look L) W
 |[] =>rfl
 |(k,x)::W=>by
  funext s
  have ih:=congrFun (uR L W) s;simp only[List.cons_append,look,eM,List.lookup]at ih|-;by_cases h:s=k
  ·rw[if_pos h];subst h;simp
  ·rw[if_neg h,beq_eq_false_iff_ne.2 h];exact ih
def AOp(P:Program)(n:Nat)(o:Oper)(E:Operand->AV)(σ:Nat->Option Ob)(K:Res):Prop:=match o.op with
 | .move x=>K (E x) [] []
 | .assign x=>K (E x) [] []\/(E x= .nil/\K (.p (.sl 0 [])) [] [])
 | .pick c a b=>Dk (E c) (E a) (E b) fun r=>K r [] []
 | .alloc t=>Ll P n t K
 | .box t x=>aD0 n t (E x) K
 | .build t parts=>Dy P t (parts.toList.map fun q=>(q.1,E q.2)) fun r=>K r [] []
 | .buildSlice t len parts=>sL P n t len (parts.toList.map fun q=>(q.1,E q.2)) K
 | .load t x=>(match E x with
   | .p (.pro cs off)=>Wf P t cs off fun r=>K (.p r) [] []
   | .ptr s off=>∃ob,σ s=some ob/\yA P t ob.cells off fun r=>K r [s] []
   |_=>False)
 | .store t a x=>wR P t σ (E a) (E x) K
 | .nilCheck x=>aDR (E x)=true/\K (E x) [] []
 | .binOp op t x y _=>Sp P op t (E x) (E y) fun r=>K r [] []
 | .unOp op _ x=>unA op (E x) fun r=>K r [] []
 | .convert s d x=>Wh P s d (E x) fun r=>K r [] []
 | .makeFunc f first caps=>K (.fn f (first.toList.map E) (caps.toList.map E)) [] []
 | .slice t x lo hi none=>zZ P t (E x) (loA E lo 0) (loA E hi (Lb (E x))) fun r=>K r [] []
 | .fieldAddr t x f=>Le P t f (E x) fun r=>K r [] []
 | .field t x f=>Tn P t f (E x) fun r=>K r [] []
 | .indexAddr t x i=>Dw P t (E x) (E i) fun r=>K r [] []
 | .extract x i=>Ij (E x) i fun r=>K r [] []
 | .call {callee:= .value f,args, .. }=>qL P σ (E f) (args.toList.map E) K\/Wj P n (E f) (args.toList.map E) K
 | .call {callee:= .builtin .len,args:=⟨[x]⟩,argTypes:=⟨[t]⟩}=>aAZ P t (E x) fun r=>K r [] []
 | .call {callee:= .builtin .append,args:=⟨[x,y]⟩,argTypes:=⟨[t,t']⟩}=>(fJ P t').isSome=true/\aHC P n t σ (E x) (E y) K
 | .call {callee:= .builtin .min,args:=⟨[x,y]⟩, .. }=>mmA min (E x) (E y) fun r=>K r [] []
 | .call {callee:= .builtin .max,args:=⟨[x,y]⟩, .. }=>mmA max (E x) (E y) fun r=>K r [] []
 |_=>False
theorem Bi{P:Program}{n:Nat}{o:Oper}{E:Operand->AV}{σ:Nat->Option Ob}{K:Res}(h:AOp P n o E σ K):∃r R W,cI P o E σ n r R W/\K r R W:=by
 have lift:∀{K':AV->Prop} {R:List Nat},(∃r,cI P o E σ n r R []/\K' r)->(∀r,K' r->K r R [])->∃r R W,cI P o E σ n r R W/\K r R W:=fun⟨r,h1,h2⟩ h3=>⟨r,_,[],h1,h3 r h2⟩
 unfold AOp at h;split at h
 ·rename_i x ho;exact⟨_,_,_,Ps (.inl ho),h⟩
 ·rename_i x ho;exact Or.elim h (fun h=>⟨_,_,_,Ps (.inr ho),h⟩) (fun h=>⟨_,_,_,aAx (.inr ho) h.1,h.2⟩)
 ·rename_i ho;exact lift (aCp ho h) fun _ h=>h
 ·rename_i ho;exact aAP ho h
 ·rename_i ho;exact aE0 ho h
 ·rename_i ho;exact lift (aAK ho h) fun _ h=>h
 ·rename_i ho;exact Vq ho h
 ·rename_i ho;split at h
  ·rename_i e;obtain⟨r,h1,h2⟩:=aAi (o:=o) (σ:=σ) (n:=n) ho e h;exact⟨_,_,_,h1,h2⟩
  ·rename_i e;obtain⟨ob,h1,h2⟩:=h;obtain⟨r,h3,h4⟩:=aAj (o:=o) (n:=n) ho e h1 h2;exact⟨_,_,_,h3,h4⟩
  ·exact h.elim
 ·rename_i ho;exact Za ho h
 ·rename_i ho;exact⟨_,_,_,aEu ho h.1,h.2⟩
 ·rename_i ho;exact lift (aE1 ho h) fun _ h=>h
 ·rename_i ho;exact lift (aHG ho h) fun _ h=>h
 ·rename_i ho;exact lift (aCX ho h) fun _ h=>h
 ·rename_i ho;exact⟨_,_,_,aCA ho,h⟩
 ·rename_i ho;exact lift (Zf ho h) fun _ h=>h
 ·rename_i ho;exact lift (aAv ho h) fun _ h=>h
 ·rename_i ho;exact lift (aAu ho h) fun _ h=>h
 ·rename_i ho;exact lift (aAo ho h) fun _ h=>h
 ·rename_i ho;exact lift (aCR ho h) fun _ h=>h
 ·rename_i ho;exact Or.elim h (aCZ ho rfl) (aAI ho rfl)
 ·rename_i ho;exact lift (aEC ho h) fun _ h=>h
 ·rename_i ho;exact aE7 h.1 ho h.2
 ·rename_i ho;exact lift (aEx ho h) fun _ h=>h
 ·rename_i ho;exact lift (aEz ho h) fun _ h=>h
 ·exact h.elim
structure St(C0:cE)(B:Nat)(wI:World)(F:List AV)(σ:Nat->Option Ob)(N:Nat)(a:Act)(w:World):Prop where
 ex:∃ρ:Ren,StR C0 ρ σ w B/\(∀s,N<=s->ρ s=none)/\∀t,aO ρ (aY C0 B w ρ σ) (F.getD t .any) (a.tmps.getD t Go.undef)
 le:B<=w.heap.size
 defers:a.defers=[]
 size:a.tmps.size=F.length
 below:Below B wI w
theorem aBO(ops:List Oper)(j:Nat):((ops.map (·.dst))[j]?).join=(ops[j]?).bind (·.dst):=by
 rw[List.getElem?_map];cases ops[j]? <;>rfl
def gdA(ds:List (Option Nat))(F:List AV)(j:Nat):Option (Option Bool):=match(ds[j]?).join with
 |some d=>(match F.getD d .any with| .p (.bool b)=>some (some b)| .undef=>some none|_=>none)
 |none=>none
def iX(F:List AV)(d:Option Nat)(r:AV):List AV:=match d with|some d=>F.set d r|none=>F
abbrev nA:=List (List Nat×List Nat)
def fE(P:Program)(N:Nat)(ds:List (Option Nat)):List Oper->Nat->List AV->List (Nat×Option Ob)->nA->(List AV->List (Nat×Option Ob)->nA->Prop)->Prop
 |[],_,F,L,log,K=>K F L log
 |o::rest,i,F,L,log,K=>match o.guard with
  |none=>∃r R W,AOp P (N+i) o (eG F) (look L) (fun r' R' W'=>r'=r/\R'=R/\W'=W)/\fE P N ds rest (i+1) (iX F o.dst r) (W++L) (log++[(R,W.map (·.1))]) K
  |some (j,want)=>(match gdA ds F j with
   |some (some b)=>if b=want then∃r R W,AOp P (N+i) o (eG F) (look L) (fun r' R' W'=>r'=r/\R'=R/\W'=W)/\fE P N ds rest (i+1) (iX F o.dst r) (W++L) (log++[(R,W.map (·.1))]) K
    else fE P N ds rest (i+1) (iX F o.dst .undef) L (log++[([],[])]) K
   |some none=>fE P N ds rest (i+1) (iX F o.dst .undef) L (log++[([],[])]) K
   |none=>False)
structure Tr where
 r:AV
 R:List Nat
 W:List (Nat×Option Ob)
instance:Inhabited Tr:=⟨⟨.any,[],[]⟩⟩
def qF(ops:List Oper)(tr:Nat->Tr)(F0:List AV):Nat->List AV
 |0=>F0
 |k+1=>iX (qF ops tr F0 k) ((ops[k]?).bind (·.dst)) (tr k).r
def sgD(tr:Nat->Tr)(σ0:Nat->Option Ob)(D:Nat->Bool):Nat->Nat->Option Ob
 |0=>σ0
 |k+1=>if D k=true then eM (sgD tr σ0 D k) (tr k).W else sgD tr σ0 D k
def sF(tr:Nat->Tr)(n:Nat):nA:=(List.range n).map fun k=>((tr k).R,(tr k).W.map (·.1))
def sH(P:Program)(N:Nat)(ops:List Oper)(F0:List AV)(σ0:Nat->Option Ob)(tr:Nat->Tr)(k:Nat):Prop:=
 ∀o,ops[k]? =some o->(((o.guard=none\/∃j b,o.guard=some (j,b)/\gdA (ops.map (·.dst)) (qF ops tr F0 k) j=some (some b))/\
   cI P o (eG (qF ops tr F0 k)) (sgD tr σ0 (fun _=>true) k) (N+k) (tr k).r (tr k).R (tr k).W)\/
  (∃j want q,o.guard=some (j,want)/\gdA (ops.map (·.dst)) (qF ops tr F0 k) j=some q/\q≠some want/\tr k=⟨.undef,[],[]⟩))
theorem pZ(ops:List Oper)(F0:List AV){tr tr':Nat->Tr}:∀k,(∀j,j<k->tr j=tr' j)->qF ops tr F0 k=qF ops tr' F0 k
 |0,_=>rfl
 |k+1,h=>by simp only[qF];rw[pZ ops F0 k (fun j hj=>h j (by omega)),h k (by omega)]
theorem oU(σ0:Nat->Option Ob){tr tr':Nat->Tr}{D D':Nat->Bool}:∀k,(∀j,j<k->tr j=tr' j)->(∀j,j<k->D j=D' j)->sgD tr σ0 D k=sgD tr' σ0 D' k
 |0,_,_=>rfl
 |k+1,h,h2=>by simp only[sgD];rw[oU σ0 k (fun j hj=>h j (by omega)) (fun j hj=>h2 j (by omega)),h k (by omega),h2 k (by omega)]
theorem No{P:Program}{N:Nat}{ops:List Oper}{F0:List AV}{σ0:Nat->Option Ob}{tr tr':Nat->Tr}{k:Nat}(h:∀j,j<=k->tr j=tr' j)(hg:sH P N ops F0 σ0 tr k):sH P N ops F0 σ0 tr' k:=by
 unfold sH at*;rw[pZ ops F0 k (fun j hj=>(h j (by omega)).symm),oU (D':=fun _=>true) σ0 k (fun j hj=>(h j (by omega)).symm) (fun _ _=>rfl),<-h k (Nat.le_refl _)]
 exact hg
def tV(tr:Nat->Tr)(i:Nat)(x:Tr):Nat->Tr:=fun k=>if k=i then x else tr k
theorem Oq{tr:Nat->Tr}{i:Nat}{x:Tr}{k:Nat}(h:k<i):tr k=tV tr i x k:=by unfold tV;rw[if_neg (by omega)]
theorem Hg{P:Program}{N:Nat}{ops:List Oper}{F0:List AV}{L0:List (Nat×Option Ob)}{K:List AV->List (Nat×Option Ob)->nA->Prop}:
  ∀(rest:List Oper) (i:Nat) (F:List AV) (L:List (Nat×Option Ob)) (log:nA) (tr:Nat->Tr),i<=ops.length->ops.drop i=rest->F=qF ops tr F0 i->look L=sgD tr (look L0) (fun _=>true) i->log=sF tr i->
   (∀k,k<i->sH P N ops F0 (look L0) tr k)->fE P N (ops.map (·.dst)) rest i F L log K->
   ∃(tr':Nat->Tr) (L':List (Nat×Option Ob)),(∀k,k<ops.length->sH P N ops F0 (look L0) tr' k)/\look L'=sgD tr' (look L0) (fun _=>true) ops.length/\K (qF ops tr' F0 ops.length) L' (sF tr' ops.length)
 |[],i,F,L,log,tr,hil,hd,hF,hL,hlog,hg,h=>by
  have hi:i=ops.length:=by
   have:=congrArg List.length hd;simp at this;omega
  subst hi;refine⟨tr,L,hg,hL,?_⟩;unfold fE at h;rw[<-hF,<-hlog];exact h
 |o::rest,i,F,L,log,tr,hil,hd,hF,hL,hlog,hg,h=>by
  have hlt:i<ops.length:=by
   have:=congrArg List.length hd;simp at this;omega
  have ho:ops[i]? =some o:=by
   have:=congrArg (fun l=>l[0]?) hd
   simpa using this
  have hd':ops.drop (i+1)=rest:=by
   have:=congrArg List.tail hd;simpa using this
  have step:∀(x:Tr),sH P N ops F0 (look L0) (tV tr i x) i->fE P N (ops.map (·.dst)) rest (i+1) (iX F o.dst x.r) (x.W++L) (log++[(x.R,x.W.map (·.1))]) K->
    ∃(tr':Nat->Tr) (L':List (Nat×Option Ob)),(∀k,k<ops.length->sH P N ops F0 (look L0) tr' k)/\look L'=sgD tr' (look L0) (fun _=>true) ops.length/\K (qF ops tr' F0 ops.length) L' (sF tr' ops.length):=by
   intro x hgx hx;have hc:∀j,j<i->tr j=tV tr i x j:=fun j hj=>Oq hj
   have hxi:tV tr i x i=x:=by unfold tV;rw[if_pos rfl]
   refine Hg rest (i+1) _ _ _ (tV tr i x) hlt hd' ?_ ?_ ?_ ?_ hx
   ·simp only[qF,ho,Option.bind_some,hxi];rw[hF,pZ ops F0 i hc]
   ·simp only[sgD,if_true,hxi];rw[uR,hL,oU (D':=fun _=>true) (look L0) i hc (fun _ _=>rfl)]
   ·unfold sF at hlog|-;rw[List.range_succ,List.map_append,List.map_singleton,hxi,hlog]
    congr 1
    apply List.map_congr_left;intro k hk;rw[hc k (List.mem_range.1 hk)]
   ·intro k hk;by_cases e:k=i
    ·subst e;exact hgx
    ·exact No (fun j hj=>hc j (by omega)) (hg k (by omega))
  have hc:∀x:Tr,∀j,j<i->tV tr i x j=tr j:=fun x j hj=>(Oq hj).symm
  have hxi:∀x:Tr,tV tr i x i=x:=fun x=>by unfold tV;rw[if_pos rfl]
  have mkG:∀x:Tr,(o.guard=none\/∃j b,o.guard=some (j,b)/\gdA (ops.map (·.dst)) F j=some (some b))->cI P o (eG F) (look L) (N+i) x.r x.R x.W->sH P N ops F0 (look L0) (tV tr i x) i:=by
   intro x h1 h2 o' ho';rw[ho]at ho';cases ho';rw[pZ ops F0 i (hc x),oU (D':=fun _=>true) (look L0) i (hc x) (fun _ _=>rfl),<-hF,<-hL,hxi]
   exact .inl ⟨h1,h2⟩
  unfold fE at h;split at h
  ·rename_i hgd;obtain⟨r,R,W,hA,h2⟩:=h;obtain⟨r,R,W,h1,rfl,rfl,rfl⟩:=Bi hA;exact step ⟨r,R,W⟩ (mkG _ (.inl hgd) h1) h2
  ·rename_i j want hgd;have skip:∀q,gdA (ops.map (·.dst)) F j=some q->q≠some want->fE P N (ops.map (·.dst)) rest (i+1) (iX F o.dst .undef) L (log++[([],[])]) K->
     ∃(tr':Nat->Tr) (L':List (Nat×Option Ob)),(∀k,k<ops.length->sH P N ops F0 (look L0) tr' k)/\look L'=sgD tr' (look L0) (fun _=>true) ops.length/\K (qF ops tr' F0 ops.length) L' (sF tr' ops.length):=by
    intro q hq hne hx;refine step ⟨.undef,[],[]⟩ ?_ hx;intro o' ho';rw[ho]at ho';cases ho';rw[pZ ops F0 i (hc _),<-hF,hxi];exact .inr ⟨j,want,q,hgd,hq,hne,rfl⟩
   split at h
   ·rename_i b hb;split at h
    ·rename_i e;subst e;obtain⟨r,R,W,hA,h2⟩:=h;obtain⟨r,R,W,h1,rfl,rfl,rfl⟩:=Bi hA;exact step ⟨r,R,W⟩ (mkG _ (.inr ⟨j,b,hgd,hb⟩) h1) h2
    ·rename_i e;exact skip _ hb (fun h=>e (by cases h;rfl)) h
   ·rename_i hb;exact skip _ hb (by simp) h
   ·exact h.elim
def Tt(ops:List Oper):List (List Nat):=
 ops.foldl (fun acc o=>acc++[(o.after.toList.filter (Region.binds .any)).foldl (fun s e=>s++(e.on::acc.getD e.on []).filter fun x=> !s.contains x) []]) []
def Sw(o:Oper):List Nat:=o.op.operands.toList.filterMap fun x=>match x with| .tmp t=>some t|_=>none
def okE(l:List Oper)(anc:List (List Nat)):Bool:=
 (List.range l.length).all fun i=>
  (((l[i]?).map fun o=>(o.after.toList.all fun e=> !Region.binds .any e||(decide (e.on<i)&&(fA anc i).contains e.on))&&o.dst !=some 1000000).getD false)&&
  ((fA anc i).all fun j=>decide (j<i)&&(((l[i]?).map fun o=>o.after.toList.any fun e=>Region.binds .any e&&(e.on==j||(fA anc e.on).contains j)).getD false))&&
  ((List.range l.length).all fun j=>j==i||cP l j !=cP l i||cP l i==1000000)
def Wc(ops:List Oper)(anc:List (List Nat)):Bool:=
 okE ops anc&&
 ((List.range ops.length).all fun i=>((ops[i]?).map fun o=>
   ((Sw o).all fun t=>(List.range ops.length).all fun j=>j==i||cP ops j !=t||(fA anc i).contains j||(fA anc j).contains i)&&
   (match o.guard with|none=>true|some (j,_)=>(fA anc i).contains j&&((ops[j]?).bind (·.dst)).isSome)).getD false)
def Wi(a b:List Nat×List Nat):Bool:=a.2.any (fun s=>b.1.contains s||b.2.contains s)||a.1.any (fun s=>b.2.contains s)
def Dt(anc:List (List Nat))(log:nA):Bool:=(List.range log.length).all fun i=>(List.range i).all fun j=> !Wi (log.getD i ([],[])) (log.getD j ([],[]))||(fA anc i).contains j
theorem aAd{ops:List Oper}{anc:List (List Nat)}(h:okE ops anc=true):
  (∀(i:Nat) o,ops[i]? =some o->(∀e∈o.after.toList,Region.binds .any e=true->e.on<i/\(fA anc i).contains e.on=true)/\
    (∀j,(fA anc i).contains j=true->j<i/\∃e∈o.after.toList,Region.binds .any e=true/\(e.on=j\/(fA anc e.on).contains j=true))/\(∀d,o.dst=some d->cP ops i=d/\d≠1000000)/\(o.dst=none->cP ops i=1000000))/\
  ∀i j,i<ops.length->j<ops.length->j≠i->cP ops j=cP ops i->cP ops i=1000000:=by
 unfold okE at h;rw[List.all_eq_true]at h;have hget:∀(i:Nat) o,ops[i]? =some o->i<ops.length:=fun i o h=>(List.getElem?_eq_some_iff.1 h).1
 refine⟨?_,?_⟩
 ·intro i o ho;have h1:=h i (List.mem_range.2 (hget i o ho));simp only[Bool.and_eq_true]at h1;obtain⟨⟨h2,h3⟩,_⟩:=h1;rw[ho]at h2;simp only[Option.map_some,Option.getD_some,Bool.and_eq_true,bne_iff_ne,ne_eq]at h2;refine⟨?_,?_,?_,?_⟩
  ·intro e he hb;have:=List.all_eq_true.1 h2.1 e he;rw[hb]at this;simpa using this
  ·intro j hj;rw[List.all_eq_true]at h3;have:=h3 j (by simpa using hj)
   simp only[Bool.and_eq_true,decide_eq_true_eq]at this;obtain⟨h4,h5⟩:=this;refine⟨h4,?_⟩;rw[ho]at h5;simp only[Option.map_some,Option.getD_some,List.any_eq_true,Bool.and_eq_true,Bool.or_eq_true,beq_iff_eq]at h5;exact h5
  ·intro d hd;refine⟨by unfold cP;rw[ho];simp[hd],?_⟩
   rintro rfl;exact h2.2 hd
  ·intro hd;unfold cP;rw[ho];simp[hd]
 ·intro i j hi hj hne he;have h1:=h i (List.mem_range.2 hi);simp only[Bool.and_eq_true]at h1;obtain⟨_,h3⟩:=h1;rw[List.all_eq_true]at h3;have:=h3 j (List.mem_range.2 hj);simp only[Bool.or_eq_true,beq_iff_eq,bne_iff_ne,ne_eq]at this;rcases this with(h|h)|h
  ·exact absurd h hne
  ·exact absurd he h
  ·exact h
theorem aHS{tr:Nat->Tr}{σ0:Nat->Option Ob}{D:Nat->Bool}{s i n:Nat}(hin:i<=n)
  (hlo:∀k,k<i->(tr k).W.lookup s≠none->D k=true) (hhi:∀k,i<=k->k<n->(tr k).W.lookup s≠none->D k=false):
  sgD tr σ0 D n s=sgD tr σ0 (fun _=>true) i s:=by
 have h1:∀m,m<=i->sgD tr σ0 D m s=sgD tr σ0 (fun _=>true) m s:=by
  intro m;induction m with
  |zero=>intro _;rfl
  |succ m ih=>
   intro hm;simp only[sgD,if_true];cases hD:D m with
   |true=>rw[if_pos rfl];unfold eM;rw[ih (by omega)]
   |false=>
    rw[if_neg (by simp)]
    have:(tr m).W.lookup s=none:=by
     cases hl:(tr m).W.lookup s with
     |none=>rfl
     |some x=>have:=hlo m (by omega) (by rw[hl];simp);rw[hD]at this;cases this
    unfold eM;rw[this];exact ih (by omega)
 have h2:∀m,i<=m->m<=n->sgD tr σ0 D m s=sgD tr σ0 D i s:=by
  intro m;induction m with
  |zero=>intro h _;rw[show i=0 by omega]
  |succ m ih=>
   intro hi hm;by_cases e:i=m+1
   ·rw[e]
   ·simp only[sgD];cases hD:D m with
    |false=>rw[if_neg (by simp)];exact ih (by omega) (by omega)
    |true=>
     rw[if_pos rfl];have:(tr m).W.lookup s=none:=by
      cases hl:(tr m).W.lookup s with
      |none=>rfl
      |some x=>have:=hhi m (by omega) (by omega) (by rw[hl];simp);rw[hD]at this;cases this
     unfold eM;rw[this];exact ih (by omega) (by omega)
 rw[h2 n hin (Nat.le_refl _),h1 i (Nat.le_refl _)]
theorem Gn{W:List (Nat×Option Ob)}{s:Nat}(h:W.lookup s≠none):s∈W.map (·.1):=by
 induction W with
 |nil=>simp at h
 |cons q W ih=>
  obtain⟨k,x⟩:=q;by_cases e:s=k
  ·subst e;simp
  ·simp only[List.lookup,beq_eq_false_iff_ne.2 e]at h;exact List.mem_cons_of_mem _ (ih h)
theorem Lp{g:Nat->Option Ob}{W:List (Nat×Option Ob)}{s:Nat}(h:W.lookup s=none):eM g W s=g s:=by unfold eM;rw[h]
theorem Bz(F:List AV)(d:Option Nat)(r:AV):(iX F d r).length=F.length:=by cases d<;>simp[iX]
theorem oD(ops:List Oper)(tr:Nat->Tr)(F0:List AV):∀k,(qF ops tr F0 k).length=F0.length
 |0=>rfl
 |k+1=>by simp only[qF];rw[Bz,oD ops tr F0 k]
theorem sX{ops:List Oper}{tr:Nat->Tr}{F0:List AV}{t j:Nat}(hj:(ops[j]?).bind (·.dst)=some t)(ht:t<F0.length)(hu:∀k,k≠j->(ops[k]?).bind (·.dst)≠some t):∀m,j<m->(qF ops tr F0 m).getD t .any=(tr j).r
 |0,h=>by omega
 |m+1,h=>by
  simp only[qF];by_cases e:m=j
  ·subst e;rw[hj];have:=oD ops tr F0 m;simp[iX,List.getD_eq_getElem?_getD,this,ht]
  ·have ih:=sX (tr:=tr) hj ht hu m (by omega)
   cases hd:(ops[m]?).bind (·.dst)with
   |none=>simpa[iX]using ih
   |some d=>
    have:d≠t:=fun e2=>hu m e (by rw[hd,e2])
    simp only[iX,List.getD_eq_getElem?_getD,List.getElem?_set_ne this]at ih|-;exact ih
theorem qC{ops:List Oper}{tr:Nat->Tr}{F0:List AV}{t:Nat}:∀m,(∀k,k<m->(ops[k]?).bind (·.dst)≠some t)->(qF ops tr F0 m).getD t .any=F0.getD t .any
 |0,_=>rfl
 |m+1,h=>by
  simp only[qF];have ih:=qC (tr:=tr) (F0:=F0) m fun k hk=>h k (by omega)
  cases hd:(ops[m]?).bind (·.dst)with
  |none=>simpa[iX]using ih
  |some d=>
   have:d≠t:=fun e2=>h m (by omega) (by rw[hd,e2])
   simp only[iX,List.getD_eq_getElem?_getD,List.getElem?_set_ne this]at ih|-;exact ih
theorem Bc{ρ:Ren}{C:cE}{F:List AV}{V:Nat->Value}{x:Operand}(h:∀t,x= .tmp t->aO ρ C (F.getD t .any) (V t)):aO ρ C (eG F x) (bI V x):=by
 cases x with
 |tmp t=>exact h t rfl
 |const v=>exact Rl v
 |global g=>unfold eG aO;trivial
 |func f=>
  unfold eG aO bF;exact⟨[],[],rfl,by unfold cG;rfl,by unfold cG;rfl⟩
theorem Gk{P:Program}{o:Oper}{V:Nat->Value}{w:World}{K K':Value->World->Prop}(h:cC P o V w K)(hk:∀v w,K v w->K' v w):cC P o V w K':=by
 unfold cC at h|-;split at h
 ·exact hk _ _ h
 ·exact hk _ _ h
 ·exact h.mono fun e w'' ⟨v,he,hv⟩=>⟨v,he,hk _ _ hv⟩
 ·exact h.elim
theorem Ty{o:Oper}{t:Nat}(h: .tmp t∈o.op.operands.toList):t∈Sw o:=List.mem_filterMap.2 ⟨.tmp t,h,rfl⟩
theorem StR.drew{C0:cE}{ρ:Ren}{g:Nat->Option Ob}{w:World}{B:Nat}(h:StR C0 ρ g w B):StR C0 ρ g w.drew B:=by
 refine⟨fun s o hg=> ?_,h.inj⟩
 obtain⟨q,c,h1,h2|⟨b,arr,h2,h3,h4⟩⟩:=h.ob s o hg
 ·exact⟨q,c,h1,.inl h2⟩
 ·exact⟨q,c,h1,.inr ⟨b,arr,h2,h3,⟨h4.blk,h4.box,h4.row,h4.cells⟩⟩⟩
theorem Nb{P:Program}{id N:Nat}{ops:List Oper}{Q:Exit->Act->World->Prop}{a0:Act}{w0:World}{C0:cE}{B:Nat}{wI:World}{F0:List AV}{L0:List (Nat×Option Ob)}{K:List AV->List (Nat×Option Ob)->Prop}
  (hm:P.follows .mixedOrders=true) (anc:List (List Nat)) (hok:Wc ops anc=true) (hds:((List.range ops.length).all fun i=>match(ops[i]?).bind (·.dst)with|some d=>decide (d<F0.length)|none=>true)=true)
  (hS:St C0 B wI F0 (look L0) N a0 w0) (h:fE P N (ops.map (·.dst)) ops 0 F0 L0 [] fun F L log=>Dt anc log=true/\K F L)
  (hK:∀F L a w,K F L->F.length=F0.length->St C0 B wI F (look L) (N+ops.length) a w->Q .normal a w):(Code.region id ops.toArray true).wp P Q a0 w0:=by
 obtain⟨tr,L',hgood,hL',hfeet,hKK⟩:=Hg ops 0 F0 L0 [] default (Nat.zero_le _) rfl rfl rfl rfl (fun k hk=>by omega) h
 unfold Wc at hok;rw[Bool.and_eq_true,List.all_eq_true]at hok;obtain⟨hokE,hokT⟩:=hok;obtain⟨hop,huq⟩:=aAd hokE;obtain⟨⟨ρ0,hs0,hn0,hf0⟩,hle0,hdf0,hsz0,hbl0⟩:=hS;have hget:∀(i:Nat) o,ops[i]? =some o->i<ops.length:=fun i o h=>(List.getElem?_eq_some_iff.1 h).1
 have hat:∀(i:Nat),i<ops.length->∃o,ops[i]? =some o:=fun i hi=>⟨_,List.getElem?_eq_getElem hi⟩
 have hdst:∀(j t:Nat),(ops[j]?).bind (·.dst)=some t->cP ops j=t/\t≠1000000/\j<ops.length/\t<F0.length:=by
  intro j t hj;obtain⟨o,ho,hd⟩:=Option.bind_eq_some_iff.1 hj;have:=(hop j o ho).2.2.1 t hd;refine⟨this.1,this.2,hget j o ho,?_⟩;rw[List.all_eq_true]at hds;have h2:=hds j (List.mem_range.2 (hget j o ho));rw[hj]at h2;simpa using h2
 have huniq:∀(j t:Nat),(ops[j]?).bind (·.dst)=some t->∀(k:Nat),k≠j->(ops[k]?).bind (·.dst)≠some t:=by
  intro j t hj k hk e;obtain⟨h1,h2,h3,_⟩:=hdst j t hj;obtain⟨h4,_,h5,_⟩:=hdst k t e;exact h2 (h1▸huq j k h3 h5 hk (h4.trans h1.symm))
 have hclash:∀i k,i<ops.length->k<ops.length->k≠i->∀s,s∈(tr i).R\/s∈(tr i).W.map (·.1)->(tr k).W.lookup s≠none->(k<i->(fA anc i).contains k=true)/\(i<k->(fA anc k).contains i=true):=by
  intro i k hi hk hne s hs hw;have hws:=Gn hw;have hfl:(sF tr ops.length).length=ops.length:=by simp[sF]
  have hfg:∀j,j<ops.length->(sF tr ops.length).getD j ([],[])=((tr j).R,(tr j).W.map (·.1)):=by
   intro j hj;simp[sF,List.getD_eq_getElem?_getD,hj]
  unfold Dt at hfeet;rw[List.all_eq_true]at hfeet;have hsym:∀a b:List Nat×List Nat,s∈b.2->(s∈a.1\/s∈a.2)->Wi a b=true/\Wi b a=true:=by
   intro a b hb ha;unfold Wi;refine⟨?_,?_⟩
   ·rw[Bool.or_eq_true];rcases ha with ha|ha
    ·exact .inr (List.any_eq_true.2 ⟨s,ha,by simpa using hb⟩)
    ·exact .inl (List.any_eq_true.2 ⟨s,ha,by rw[Bool.or_eq_true];exact .inr (by simpa using hb)⟩)
   ·rw[Bool.or_eq_true];refine .inl (List.any_eq_true.2 ⟨s,hb,?_⟩);rw[Bool.or_eq_true];rcases ha with ha|ha
    ·exact .inl (by simpa using ha)
    ·exact .inr (by simpa using ha)
  obtain⟨c1,c2⟩:=hsym ((tr i).R,(tr i).W.map (·.1)) ((tr k).R,(tr k).W.map (·.1)) hws hs
  refine⟨fun hlt=> ?_,fun hlt=> ?_⟩
  ·have:=hfeet i (List.mem_range.2 (by rw[hfl];exact hi))
   rw[List.all_eq_true]at this;have:=this k (List.mem_range.2 hlt);rw[hfg i hi,hfg k hk,c1]at this;simpa using this
  ·have:=hfeet k (List.mem_range.2 (by rw[hfl];exact hk))
   rw[List.all_eq_true]at this;have:=this i (List.mem_range.2 hlt);rw[hfg i hi,hfg k hk,c2]at this;simpa using this
 let dsts:List Nat:=(List.range ops.length).filterMap fun i=>(ops[i]?).bind (·.dst)
 have hdm:∀(t:Nat),t∈dsts↔∃(j:Nat),(ops[j]?).bind (·.dst)=some t:=by
  intro t;simp only[dsts,List.mem_filterMap,List.mem_range];exact⟨fun⟨j,_,h⟩=>⟨j,h⟩,fun⟨j,h⟩=>⟨j,(hdst j t h).2.2.1,h⟩⟩
 let G:(Nat->Bool)->(Nat->Value)->World->Prop:=fun D V w=>∃ρ:Ren,
  (∀i j,D i=true->(fA anc i).contains j=true->D j=true)/\(∀i,D i=true->i<ops.length)/\
  StR C0 ρ (sgD tr (look L0) D ops.length) w B/\B<=w.heap.size/\Below B wI w/\
  (∀(j t:Nat),D j=true->(ops[j]?).bind (·.dst)=some t->aO ρ (aY C0 B w ρ (sgD tr (look L0) D ops.length)) (tr j).r (V t))/\
  (∀(t:Nat),(∀(j:Nat),D j=true->(ops[j]?).bind (·.dst)≠some t)->V t=a0.tmps.getD t Go.undef)/\
  (∀t,aO ρ (aY C0 B w ρ (sgD tr (look L0) D ops.length)) (F0.getD t .any) (a0.tmps.getD t Go.undef))/\
  (∀k,D k=false->ρ (N+k)=none)
 refine Bp hm dsts ?_ ?_ G ?_ ?_ ?_
 ·rw[List.all_eq_true];intro i hi;have hi':=List.mem_range.1 hi;simp only[List.size_toArray]at hi';obtain⟨o,ho⟩:=hat i hi';obtain⟨q1,q3,q4,q5⟩:=hop i o ho;simp only[List.getElem?_toArray,ho,Option.map_some,Option.getD_some,Bool.and_eq_true];refine⟨?_,?_⟩
  ·rw[List.all_eq_true];intro e he;cases hb:Region.binds .any e with
   |false=>simp
   |true=>simpa using(q1 e he hb).1
  ·cases hd:o.dst with
   |none=>rfl
   |some d=>simpa using(hdm d).2 ⟨i,by rw[ho];exact hd⟩
 ·intro s hs;obtain⟨j,hj⟩:=(hdm s).1 hs;rw[hsz0];exact(hdst j s hj).2.2.2
 ·have e0:sgD tr (look L0) (fun _=>false) ops.length=look L0:=by
   have:∀m,sgD tr (look L0) (fun _=>false) m=look L0:=by
    intro m;induction m with
    |zero=>rfl
    |succ m ih=>simp only[sgD,Bool.false_eq_true,if_false];exact ih
   exact this _
  refine⟨ρ0,(fun i j h=>by cases h),(fun i h=>by cases h),?_,hle0,hbl0.drew,(fun j t h=>by cases h),(fun t _=>rfl),?_,fun k _=>hn0 _ (by omega)⟩
  ·rw[e0];exact hs0.drew
  ·rw[e0];exact hf0
 ·intro i o D V w ho ⟨ρ,g1,g2,g3,g4,g5,g6,g7,g8,g9⟩ hD hpre _;have ho':ops[i]? =some o:=by simpa using ho
  have hi:=hget i o ho';obtain⟨q1,q3,q4,q5⟩:=hop i o ho';have hanc:∀j,(fA anc i).contains j=true->D j=true:=by
   intro j hj;obtain⟨_,e,he,hb,h⟩:=q3 j hj;have:=hpre e he hb;rcases h with rfl|h
   ·exact this
   ·exact g1 _ _ this h
  have hdesc:∀j,(fA anc j).contains i=true->D j=false:=by
   intro j hj;cases hx:D j with
   |false=>rfl
   |true=>rw[g1 _ _ hx hj]at hD;cases hD
  have hT:=hokT i (List.mem_range.2 hi);rw[ho']at hT;simp only[Option.map_some,Option.getD_some,Bool.and_eq_true]at hT;obtain⟨hT1,hT2⟩:=hT
  let Fi:=qF ops tr F0 i
  have hslot:∀t,t∈Sw o\/(∃(j:Nat) (b:Bool),o.guard=some (j,b)/\(ops[j]?).bind (·.dst)=some t)->aO ρ (aY C0 B w ρ (sgD tr (look L0) D ops.length)) (Fi.getD t .any) (V t):=by
   intro t ht;have hdone:∀(j:Nat),j<i->(ops[j]?).bind (·.dst)=some t->D j=true:=by
    intro j hji hj;rcases ht with ht|⟨j',b,hg,hj'⟩
    ·rw[List.all_eq_true]at hT1;have:=hT1 t ht;rw[List.all_eq_true]at this;have:=this j (List.mem_range.2 (by omega))
     simp only[Bool.or_eq_true,beq_iff_eq,bne_iff_ne,ne_eq]at this;rcases this with((h|h)|h)|h
     ·omega
     ·exact absurd (hdst j t hj).1 h
     ·exact hanc j h
     ·have h1:=(hop j _ (List.getElem?_eq_getElem (by omega))).2.1 i h
      omega
    ·have:j=j':=by
      rcases Nat.decEq j j' with h|h
      ·exact absurd hj (huniq j' t hj' j h)
      ·exact h
     subst this;rw[hg]at hT2;simp only[Bool.and_eq_true]at hT2;exact hanc j hT2.1
   have hnot:∀(j:Nat),i<=j->(ops[j]?).bind (·.dst)=some t->D j=false:=by
    intro j hij hj;by_cases e:j=i
    ·rw[e];exact hD
    rcases ht with ht|⟨j',b,hg,hj'⟩
    ·rw[List.all_eq_true]at hT1;have:=hT1 t ht;rw[List.all_eq_true]at this;have:=this j (List.mem_range.2 (hdst j t hj).2.2.1);simp only[Bool.or_eq_true,beq_iff_eq,bne_iff_ne,ne_eq]at this;rcases this with((h|h)|h)|h
     ·omega
     ·exact absurd (hdst j t hj).1 h
     ·have:=(q3 j h).1;omega
     ·exact hdesc j h
    ·have:j=j':=by
      rcases Nat.decEq j j' with h|h
      ·exact absurd hj (huniq j' t hj' j h)
      ·exact h
     subst this;rw[hg]at hT2;simp only[Bool.and_eq_true]at hT2;have:=(q3 j hT2.1).1;omega
   by_cases hw:∃(j:Nat),j<i/\(ops[j]?).bind (·.dst)=some t
   ·obtain⟨j,hji,hj⟩:=hw;have:=sX (tr:=tr) hj (hdst j t hj).2.2.2 (huniq j t hj) i hji;show aO _ _ ((qF ops tr F0 i).getD t .any) _;rw[this];exact g6 j t (hdone j hji hj) hj
   ·have:=qC (ops:=ops) (tr:=tr) (F0:=F0) (t:=t) i fun k hk e=>hw ⟨k,hk,e⟩
    show aO _ _ ((qF ops tr F0 i).getD t .any) _;rw[this,g7 t fun j hDj e=> ?_]
    ·exact g8 t
    ·rcases Nat.lt_or_ge j i with h|h
     ·exact hw ⟨j,h,e⟩
     ·rw[hnot j h e]at hDj;cases hDj
  have hgi:=hgood i hi o ho';have hDset:∀s,sgD tr (look L0) (fun j=>if j=i then true else D j) ops.length s=eM (sgD tr (look L0) D ops.length) (tr i).W s:=by
   intro s;have hlt:∀m,m<=i->sgD tr (look L0) (fun j=>if j=i then true else D j) m=sgD tr (look L0) D m:=fun m hm=>oU _ m (fun _ _=>rfl) (fun j hj=>by rw[if_neg (by omega)])
   cases hl:(tr i).W.lookup s with
   |none=>
    rw[Lp hl];have:∀m,i<m->sgD tr (look L0) (fun j=>if j=i then true else D j) m s=sgD tr (look L0) D m s:=by
     intro m;induction m with
     |zero=>intro h;omega
     |succ m ih=>
      intro hm;by_cases e:m=i
      ·subst e;simp only[sgD,if_true,hD,Bool.false_eq_true,if_false];rw[Lp hl,hlt m (Nat.le_refl _)]
      ·simp only[sgD,if_neg e];cases hDm:D m with
       |false=>simp only[Bool.false_eq_true,if_false];exact ih (by omega)
       |true=>simp only[if_true];unfold eM;rw[ih (by omega)]
    exact this _ hi
   |some x=>
    have:∀m,i<m->m<=ops.length->sgD tr (look L0) (fun j=>if j=i then true else D j) m s=x:=by
     intro m;induction m with
     |zero=>intro h;omega
     |succ m ih=>
      intro hm hmn;by_cases e:m=i
      ·subst e;simp only[sgD,if_true];unfold eM;rw[hl]
      ·simp only[sgD,if_neg e];have hlm:D m=true->(tr m).W.lookup s=none:=by
        intro hDm;cases hl2:(tr m).W.lookup s with
        |none=>rfl
        |some y=>
         have:=(hclash i m hi (by omega) e s (.inr (Gn (by rw[hl];simp))) (by rw[hl2];simp)).2 (by omega)
         rw[hdesc m this]at hDm;cases hDm
       cases hDm:D m with
       |false=>simp only[Bool.false_eq_true,if_false];exact ih (by omega) (by omega)
       |true=>simp only[if_true];rw[Lp (hlm hDm)];exact ih (by omega) (by omega)
    rw[this _ hi (Nat.le_refl _)];unfold eM;rw[hl]
  have key:∀(ρ':Ren) (v:Value) (w':World),(∀s,s≠N+i->ρ' s=ρ s)->
    (∀b o' x,aY C0 B w ρ (sgD tr (look L0) D ops.length) b o' x->aY C0 B w' ρ' (eM (sgD tr (look L0) D ops.length) (tr i).W) b o' x)->
    StR C0 ρ' (eM (sgD tr (look L0) D ops.length) (tr i).W) w' B->aO ρ' (aY C0 B w' ρ' (eM (sgD tr (look L0) D ops.length) (tr i).W)) (tr i).r v->Below B w w'->
    G (fun j=>if j=i then true else D j) (match o.dst with|some d=>fun s=>if s=d then v else V s|none=>V) w':=by
   intro ρ' v w' k1 k2 k3 k4 k5;have hsg:sgD tr (look L0) (fun j=>if j=i then true else D j) ops.length=eM (sgD tr (look L0) D ops.length) (tr i).W:=funext hDset
   have hext:∀s q,ρ s=some q->ρ' s=some q:=by
    intro s q hq;rw[k1 s (fun e=>by rw[e,g9 i hD]at hq;cases hq)];exact hq
   have hVd:∀(t:Nat),(ops[i]?).bind (·.dst)=some t->(match o.dst with|some d=>fun s=>if s=d then v else V s|none=>V) t=v:=by
    intro t ht;rw[ho']at ht;have:o.dst=some t:=ht;rw[this];simp
   have hVn:∀(t:Nat),(ops[i]?).bind (·.dst)≠some t->(match o.dst with|some d=>fun s=>if s=d then v else V s|none=>V) t=V t:=by
    intro t ht;rw[ho']at ht;cases hd:o.dst with
    |none=>rfl
    |some d=>
     have:t≠d:=fun e=>ht (by rw[e];exact hd)
     simp[this]
   show G _ _ _;refine⟨ρ',?_,?_,by rw[hsg];exact k3,Nat.le_trans g4 k5.size,g5.trans k5,?_,?_,?_,?_⟩
   ·intro i' j h1 h2;dsimp only at h1|-;by_cases e:j=i
    ·rw[if_pos e]
    ·rw[if_neg e];by_cases e':i'=i
     ·subst e';exact hanc j h2
     ·rw[if_neg e']at h1;exact g1 _ _ h1 h2
   ·intro i' h1;dsimp only at h1;by_cases e':i'=i
    ·rw[e'];exact hi
    ·rw[if_neg e']at h1;exact g2 _ h1
   ·intro j t h1 h2;dsimp only at h1;rw[hsg];by_cases e:j=i
    ·subst e;rw[hVd t h2];exact k4
    ·rw[if_neg e]at h1;rw[hVn t (huniq j t h2 i (fun h=>e h.symm))]
     exact aO.mono hext k2 _ _ (g6 j t h1 h2)
   ·intro t ht;rw[hVn t (ht i (by simp))]
    refine g7 t fun j hj=>ht j ?_
    dsimp only;by_cases e:j=i
    ·rw[if_pos e]
    ·rw[if_neg e];exact hj
   ·intro t;rw[hsg];exact aO.mono hext k2 _ _ (g8 t)
   ·intro k hk;dsimp only at hk;by_cases e:k=i
    ·rw[if_pos e]at hk;cases hk
    ·rw[if_neg e]at hk;rw[k1 _ (by omega)];exact g9 k hk
  have hgv:∀j b q,o.guard=some (j,b)->gdA (ops.map (·.dst)) Fi j=some q->gdV ops.toArray V j=q:=by
   intro j b q hg hq;unfold gdA at hq;rw[aBO]at hq;cases hd:(ops[j]?).bind (·.dst)with
   |none=>rw[hd]at hq;cases hq
   |some d=>
    rw[hd]at hq;have hrep:=hslot d (.inr ⟨j,b,hg,hd⟩);unfold gdV;rw[show(ops.toArray[j]?).bind (·.dst)=some d by simpa using hd]
    dsimp only at hq|-;split at hq
    ·rename_i bb e;rw[e]at hrep;unfold aO bF at hrep;cases hq;rw[hrep]
    ·rename_i e;rw[e]at hrep;unfold aO at hrep;cases hq;rw[hrep];rfl
    ·cases hq
  rcases hgi with⟨hgd,hsim⟩|⟨j,want,q,hgd,hq,hne,htr⟩
  ·have hwant:Region.wanted o (gdV ops.toArray V)=true:=by
    unfold Region.wanted;rcases hgd with h|⟨j,b,h,hq⟩
    ·rw[h]
    ·rw[h];dsimp only;rw[hgv j b _ h hq];simp
   rw[if_pos hwant];have hsg:∀s,s∈(tr i).R\/s∈(tr i).W.map (·.1)->sgD tr (look L0) D ops.length s=sgD tr (look L0) (fun _=>true) i s:=by
    intro s hs;refine aHS (Nat.le_of_lt hi) ?_ ?_
    ·intro k hk hw;exact hanc k ((hclash i k hi (by omega) (by omega) s hs hw).1 hk)
    ·intro k hk1 hk2 hw;by_cases e:k=i
     ·rw[e];exact hD
     ·exact hdesc k ((hclash i k hi hk2 e s hs hw).2 (by omega))
   have hgn:sgD tr (look L0) D ops.length (N+i)=none:=by
    cases hx:sgD tr (look L0) D ops.length (N+i)with
    |none=>rfl
    |some ob=>obtain⟨q,c,h1,_⟩:=g3.ob _ _ hx;rw[g9 i hD]at h1;cases h1
   refine Gk (hsim C0 ρ _ V w B g3 g4 (fun s hs=>hsg s (.inl hs)) (g9 i hD) hgn ?_) ?_
   ·intro x hx;refine Bc fun t e=> ?_
    subst e;exact hslot t (.inl (Ty hx))
   ·rintro v w' ⟨ρ',k1,k2,k3,k4,k5⟩;exact key ρ' v w' k1 k2 k3 k4 k5
  ·have hwant:Region.wanted o (gdV ops.toArray V)=false:=by
    unfold Region.wanted;rw[hgd];dsimp only;rw[hgv j want _ hgd hq];simpa using hne
   rw[hwant,if_neg (by simp)]
   have e1:(tr i).W=[] :=by rw[htr]
   have e2:(tr i).r= .undef:=by rw[htr]
   refine key ρ Go.undef w (fun _ _=>rfl) ?_ ?_ ?_ (Below.refl _ _)
   ·rw[e1];exact fun _ _ _ h=>h
   ·rw[e1];exact g3
   ·rw[e2];unfold aO;rfl
 ·intro D V w ⟨ρ,g1,g2,g3,g4,g5,g6,g7,g8,g9⟩ hall;simp only[List.size_toArray]at hall;have hsg:sgD tr (look L0) D ops.length=look L':=by
   rw[hL'];exact oU _ _ (fun _ _=>rfl) (fun j hj=>hall j hj)
  obtain⟨p1,p2,p3⟩:=mT V dsts a0 (fun s hs=>by
   obtain⟨j,hj⟩:=(hdm s).1 hs;rw[hsz0];exact(hdst j s hj).2.2.2)
  refine hK _ L' _ w hKK (oD _ _ _ _) ⟨⟨ρ,by rw[<-hsg];exact g3,?_,?_⟩,g4,p1.trans hdf0,by rw[p2,hsz0,oD],g5⟩
  ·intro s hs;have:D (s-N)=false:=by
    cases hx:D (s-N)with
    |false=>rfl
    |true=>have:=g2 _ hx;omega
   have h1:=g9 _ this;have hNs:N<=s:=by omega
   rw[show N+(s-N)=s by omega]at h1
   exact h1
  ·intro t;rw[<-hsg];by_cases ht:t<a0.tmps.size
   ·rw[p3 t ht];by_cases hm:t∈dsts
    ·rw[if_pos hm];obtain⟨j,hj⟩:=(hdm t).1 hm;obtain⟨_,_,h3,h4⟩:=hdst j t hj;rw[sX hj h4 (huniq j t hj) _ h3];exact g6 j t (hall j h3) hj
    ·rw[if_neg hm,qC _ fun k _ e=>hm ((hdm t).2 ⟨k,e⟩)]
     exact g8 t
   ·have:(qF ops tr F0 ops.length).getD t .any= .any:=by
     rw[List.getD_eq_getElem?_getD,List.getElem?_eq_none (by rw[oD];omega)];rfl
    rw[this];unfold aO;trivial
attribute [irreducible] fE
end Go.Proofs.YtdaeofhdgabhjaaGreat
namespace Go.Proofs.YtdaeofhdgabhjaaGreat
open Go.RowKit
abbrev Sto:=List (Nat×Option Ob)
abbrev yD:=Exit->List AV->Sto->Nat->Prop
theorem Hv{P:Program}{ops:Array Oper}{Q:Exit->Act->World->Prop}{i:Nat}{o:Oper}{a:Act}{w:World}{next:Act->World->Prop}(ho:ops[i]? =some o)
  (h:if Region.wanted o (gdV ops fun s=>a.tmps.getD s Go.undef)=true then cC P o (fun s=>a.tmps.getD s Go.undef) w fun v w'=>next (a.put o.dst v) w' else next (a.put o.dst Go.undef) w):wpOp P ops Q i next a w:=by
 unfold wpOp;rw[ho];simp only[];rw[qN];by_cases hw:Region.wanted o (gdV ops fun s=>a.tmps.getD s undef)=true
 ·rw[if_pos hw]at h|-;refine .inl ?_;unfold Oper.wp;rw[Act.eval_evalV];unfold cC at h;cases hr:(execOp (bI fun s=>a.tmps.getD s undef) o).run P w with
  |halt x w'=>rw[hr]at h;exact h.elim
  |ok n w'=>
   rw[hr]at h;cases n<;>simp only[]at h<;>first|exact h.elim|skip
   ·exact h
   ·exact h
   ·rename_i f args;show Calls P f args w' _;refine h.mono ?_;rintro e w'' ⟨v,rfl,hK⟩;exact hK
 ·rw[if_neg hw]at h|-;exact h
theorem aCo(a:Act)(d:Option Nat)(v:Value)(t:Nat):(a.put d v).tmps.getD t Go.undef=if d=some t/\t<a.tmps.size then v else a.tmps.getD t Go.undef:=by
 cases d with
 |none=>simp[Act.put]
 |some d=>
  simp only[Act.put,Array.getD_eq_getD_getElem?,Array.getElem?_setIfInBounds,Option.some.injEq];by_cases e:d=t
  ·subst e;by_cases h:d<a.tmps.size
   ·rw[if_pos rfl,if_pos h,if_pos ⟨rfl,h⟩];rfl
   ·rw[if_pos rfl,if_neg h,if_neg (fun hh=>h hh.2),Array.getElem?_eq_none (by omega)]
  ·rw[if_neg e,if_neg (fun hh=>e hh.1)]
theorem Zv(F:List AV)(d:Option Nat)(r:AV)(t:Nat):(iX F d r).getD t .any=if d=some t/\t<F.length then r else F.getD t .any:=by
 cases d with
 |none=>simp[iX]
 |some d=>
  simp only[iX,List.getD_eq_getElem?_getD,List.getElem?_set,Option.some.injEq];by_cases e:d=t
  ·subst e;by_cases h:d<F.length
   ·rw[if_pos rfl,if_pos h,if_pos ⟨rfl,h⟩];rfl
   ·rw[if_pos rfl,if_neg h,if_neg (fun hh=>h hh.2),List.getElem?_eq_none (by omega)]
  ·rw[if_neg e,if_neg (fun hh=>e hh.1)]
section
variable {P:Program} {C0:cE} {B:Nat} {wI:World}
theorem St.mono{F:List AV}{σ:Nat->Option Ob}{N N':Nat}{a:Act}{w:World}(h:St C0 B wI F σ N a w)(hN:N<=N'):St C0 B wI F σ N' a w:=by
 obtain⟨⟨ρ,h1,h2,h3⟩,h4,h5,h6,h7⟩:=h;exact⟨⟨ρ,h1,fun s hs=>h2 s (by omega),h3⟩,h4,h5,h6,h7⟩
theorem Ap{ops:List Oper}{N:Nat}{Q:Exit->Act->World->Prop}{K:List AV->Sto->nA->Prop}(hg:ops.all (fun o=>match o.guard with|none=>true|some (j,_)=>((ops[j]?).bind (·.dst)).isSome)=true)(hK:∀F L log a w,K F L log->St C0 B wI F (look L) (N+ops.length) a w->Q .normal a w):
  ∀(rest:List Oper) (i:Nat) (F:List AV) (L:Sto) (log:nA) (a:Act) (w:World),i<=ops.length->ops.drop i=rest->fE P N (ops.map (·.dst)) rest i F L log K->St C0 B wI F (look L) (N+i) a w->wpOps P ops.toArray Q (List.range' i rest.length) a w
 |[],i,F,L,log,a,w,hil,hd,h,hS=>by
  have hi:i=ops.length:=by
   have:=congrArg List.length hd;simp at this;omega
  subst hi;unfold fE at h;exact hK F L log a w h hS
 |o::rest,i,F,L,log,a,w,hil,hd,h,hS=>by
  have hlt:i<ops.length:=by
   have:=congrArg List.length hd;simp at this;omega
  have ho:ops[i]? =some o:=by
   have:=congrArg (fun l=>l[0]?) hd
   simpa using this
  have hd':ops.drop (i+1)=rest:=by
   have:=congrArg List.tail hd;simpa using this
  rw[List.length_cons,List.range'_succ,wpOps_cons];refine Hv (by simpa using ho) ?_
  have hS':=hS;obtain⟨⟨ρ,s1,s2,s3⟩,s4,s5,s6,s7⟩:=hS;have fin:∀(ρ':Ren) (W:Sto) (r:AV) (v:Value) (w':World) (K':Prop),(∀s,s≠N+i->ρ' s=ρ s)->(∀b o' x,aY C0 B w ρ (look L) b o' x->aY C0 B w' ρ' (eM (look L) W) b o' x)->StR C0 ρ' (eM (look L) W) w' B->
    aO ρ' (aY C0 B w' ρ' (eM (look L) W)) r v->Below B w w'->St C0 B wI (iX F o.dst r) (look (W++L)) (N+(i+1)) (a.put o.dst v) w':=by
   intro ρ' W r v w' _ k1 k2 k3 k4 k5;rw[uR];have hext:∀s q,ρ s=some q->ρ' s=some q:=by
    intro s q hq;rw[k1 s (fun e=>by rw[e,s2 _ (Nat.le_refl _)]at hq;cases hq)];exact hq
   refine⟨⟨ρ',k3,fun s hs=>by rw[k1 s (by omega)];exact s2 s (by omega),fun t=> ?_⟩,Nat.le_trans s4 k5.size,by cases hd2:o.dst<;>exact s5,by rw[Bz];cases hd2:o.dst<;>simpa[Act.put]using s6,s7.trans k5⟩
   rw[Zv,aCo,s6];by_cases e:o.dst=some t/\t<F.length
   ·rw[if_pos e,if_pos e];exact k4
   ·rw[if_neg e,if_neg e];exact aO.mono hext k2 _ _ (s3 t)
  have run:(∃r R W,AOp P (N+i) o (eG F) (look L) (fun r' R' W'=>r'=r/\R'=R/\W'=W)/\fE P N (ops.map (·.dst)) rest (i+1) (iX F o.dst r) (W++L) (log++[(R,W.map (·.1))]) K)->
    cC P o (fun s=>a.tmps.getD s Go.undef) w fun v w'=>wpOps P ops.toArray Q (List.range' (i+1) rest.length) (a.put o.dst v) w':=by
   rintro⟨r,R,W,hA,hk⟩;obtain⟨r,R,W,hsim,rfl,rfl,rfl⟩:=Bi hA;have hgn:look L (N+i)=none:=by
    cases hx:look L (N+i)with
    |none=>rfl
    |some ob=>obtain⟨q,c,h1,_⟩:=s1.ob _ _ hx;rw[s2 _ (Nat.le_refl _)]at h1;cases h1
   refine Gk (hsim C0 ρ (look L) _ w B s1 s4 (fun _ _=>rfl) (s2 _ (Nat.le_refl _)) hgn (fun x _=>Bc fun t _=>s3 t)) ?_
   rintro v w' ⟨ρ',k1,k2,k3,k4,k5⟩;exact Ap hg hK rest (i+1) _ _ _ _ w' hlt hd' hk (fin ρ' W r v w' True k1 k2 k3 k4 k5)
  have skip:fE P N (ops.map (·.dst)) rest (i+1) (iX F o.dst .undef) L (log++[([],[])]) K->wpOps P ops.toArray Q (List.range' (i+1) rest.length) (a.put o.dst Go.undef) w:=by
   intro h;exact Ap hg hK rest (i+1) _ _ _ _ w hlt hd' h (fin ρ [] .undef Go.undef w True (fun _ _=>rfl) (fun _ _ _ h=>h) s1 (by unfold aO;rfl) (Below.refl _ _))
  have hgv:∀j b q,o.guard=some (j,b)->gdA (ops.map (·.dst)) F j=some q->gdV ops.toArray (fun s=>a.tmps.getD s Go.undef) j=q:=by
   intro j b q hgd hq;unfold gdA at hq;rw[aBO]at hq;cases hd:(ops[j]?).bind (·.dst)with
   |none=>rw[hd]at hq;cases hq
   |some d=>
    rw[hd]at hq;have hrep:=s3 d;unfold gdV;rw[show(ops.toArray[j]?).bind (·.dst)=some d by simpa using hd]
    dsimp only at hq|-;split at hq
    ·rename_i bb e;rw[e]at hrep;unfold aO bF at hrep;cases hq;rw[hrep]
    ·rename_i e;rw[e]at hrep;unfold aO at hrep;cases hq;rw[hrep];rfl
    ·cases hq
  unfold fE at h;split at h
  ·rename_i hgd;have hw:Region.wanted o (gdV ops.toArray fun s=>a.tmps.getD s Go.undef)=true:=by unfold Region.wanted;rw[hgd]
   rw[if_pos hw];exact run h
  ·rename_i j want hgd;split at h
   ·rename_i b hb;split at h
    ·rename_i e;subst e;have hw:Region.wanted o (gdV ops.toArray fun s=>a.tmps.getD s Go.undef)=true:=by
      unfold Region.wanted;rw[hgd];dsimp only;rw[hgv j b _ hgd hb];simp
     rw[if_pos hw];exact run h
    ·rename_i e;have hw:Region.wanted o (gdV ops.toArray fun s=>a.tmps.getD s Go.undef)=false:=by
      unfold Region.wanted;rw[hgd];dsimp only;rw[hgv j want _ hgd hb];simpa using e
     rw[hw,if_neg (by simp)]
     exact skip h
   ·rename_i hb;have hw:Region.wanted o (gdV ops.toArray fun s=>a.tmps.getD s Go.undef)=false:=by
     unfold Region.wanted;rw[hgd];dsimp only;rw[hgv j want _ hgd hb];rfl
    rw[hw,if_neg (by simp)]
    exact skip h
   ·exact h.elim
theorem Na{id N:Nat}{ops:List Oper}{Q:Exit->Act->World->Prop}{a:Act}{w:World}{F:List AV}{L:Sto}{K:List AV->Sto->Prop}
  (hg:ops.all (fun o=>match o.guard with|none=>true|some (j,_)=>((ops[j]?).bind (·.dst)).isSome)=true)
  (hS:St C0 B wI F (look L) N a w) (h:fE P N (ops.map (·.dst)) ops 0 F L [] fun F L _=>K F L)
  (hK:∀F L a w,K F L->St C0 B wI F (look L) (N+ops.length) a w->Q .normal a w):(Code.region id ops.toArray false).wp P Q a w:=by
 refine wp_region ?_;have:=Ap (P:=P) (C0:=C0) (B:=B) (wI:=wI) (Q:=Q) hg (fun F L _ a w=>hK F L a w) ops 0 F L [] a w (Nat.zero_le _) rfl h (by simpa using hS)
 rw[List.range_eq_range'];simpa using this
end
def qX(F:List AV)(L:Sto)(N:Nat)(F':List AV)(L':Sto)(N':Nat):Prop:=∀(C0:cE) (B:Nat) (wI:World) (a:Act) (w:World),St C0 B wI F (look L) N a w->St C0 B wI F' (look L') N' a w
theorem qX.rfl{F:List AV}{L:Sto}{N:Nat}:qX F L N F L N:=fun _ _ _ _ _ h=>h
def aHB(P:Program)(draw:Bool)(ops:List Oper)(F:List AV)(L:Sto)(N:Nat)(K:List AV->Sto->Prop):Prop:=match draw with
 |true=>∃anc:List (List Nat),P.follows .mixedOrders=true/\Wc ops anc=true/\((List.range ops.length).all fun i=>match(ops[i]?).bind (·.dst)with|some d=>decide (d<F.length)|none=>true)=true/\fE P N (ops.map (·.dst)) ops 0 F L [] fun F L log=>Dt anc log=true/\K F L
 |false=>(ops.all (fun o=>match o.guard with|none=>true|some (j,_)=>((ops[j]?).bind (·.dst)).isSome)=true)/\fE P N (ops.map (·.dst)) ops 0 F L [] fun F L _=>K F L
def awp(P:Program):Code->yD->List AV->Sto->Nat->Prop
 | .skip,Q,F,L,N=>Q .normal F L N
 | .region _ ops draw,Q,F,L,N=>aHB P draw ops.toList F L N fun F L=>Q .normal F L (N+ops.size)
 | .seq a b,Q,F,L,N=>∃M:List AV->Sto->Nat->Prop,awp P a (fun e F L N=>match e with| .normal=>M F L N|e=>Q e F L N) F L N/\∀F L N,M F L N->∃F' L' N',qX F L N F' L' N'/\awp P b Q F' L' N'
 | .cond c t e,Q,F,L,N=>∃b,eG F c= .p (.bool b)/\(b=true->awp P t Q F L N)/\(b=false->awp P e Q F L N)
 | .block id c,Q,F,L,N=>awp P c (fun e F L N=>match e with| .exit id'=>if id'=id then Q .normal F L N else Q (.exit id') F L N|e=>Q e F L N) F L N
 | .loop c,Q,F,L,N=>∃(Inv:List AV->Sto->Nat->Prop) (μ:List AV->Sto->Nat->Nat),(∃F' L' N',qX F L N F' L' N'/\Inv F' L' N')/\
    ∀F L N,Inv F L N->awp P c (fun e F1 L1 N1=>match e with| .normal=>∃F' L' N',qX F1 L1 N1 F' L' N'/\Inv F' L' N'/\μ F' L' N'<μ F L N|e=>Q e F1 L1 N1) F L N
 | .exit id,Q,F,L,N=>Q (.exit id) F L N
 | .ret,Q,F,L,N=>Q .ret F L N
 |_,_,_,_,_=>False
theorem Bu{P:Program}{c:Code}{Q:Exit->Act->World->Prop}:∀{n:Nat} {a:Act} {w:World},Code.rounds P c Q n a w->Code.rounds P c Q (n+1) a w
 |0,_,_,h=>h.elim
 |n+1,a,w,h=>by
  refine wp_mono h ?_;intro e a w h;cases e<;>first|exact h|exact Bu h
theorem Zp{P:Program}{c:Code}{Q:Exit->Act->World->Prop}{n m:Nat}(h:n<=m){a:Act}{w:World}(hr:Code.rounds P c Q n a w):Code.rounds P c Q m a w:=by
 induction h with
 |refl=>exact hr
 |step _ ih=>exact Bu ih
theorem Ys{P:Program}{c:Code}{Q:Exit->Act->World->Prop}{a:Act}{w:World}(I:Nat->Act->World->Prop){n:Nat}(h0:I n a w)
  (hr:∀n a w,I n a w->c.wp P (Exit.then (fun a' w'=>∃m,m<n/\I m a' w') Q) a w):(Code.loop c).wp P Q a w:=by
 have key:∀n a w,I n a w->Code.rounds P c Q (n+1) a w:=by
  intro n;induction n using Nat.strongRecOn with
  |ind n ih=>
   intro a w h;refine wp_mono (hr n a w h) ?_;intro e a' w' h';cases e<;>first|exact h'|skip
   obtain⟨m,hm,hI⟩:=h';exact Zp (show m+1<=n by omega) (ih m hm a' w' hI)
 exact wp_loop_rounds (n+1) (key n a w h0)
theorem Kj{P:Program}{C0:cE}{B:Nat}{wI:World}:∀(c:Code) (Q:yD) (F:List AV) (L:Sto) (N:Nat) (a:Act) (w:World),awp P c Q F L N->St C0 B wI F (look L) N a w->
  c.wp P (fun e a' w'=>∃F' L' N',Q e F' L' N'/\St C0 B wI F' (look L') N' a' w') a w:=by
 intro c;induction c with
 |skip=>intro Q F L N a w h hS;exact wp_skip ⟨F,L,N,h,hS⟩
 |region id ops draw=>
  intro Q F L N a w h hS;cases draw with
  |true=>
   obtain⟨anc,h1,h2,h3,h4⟩:=h;have:=Nb (id:=id) (P:=P) (Q:=fun e a' w'=>∃F' L' N',Q e F' L' N'/\St C0 B wI F' (look L') N' a' w') h1 anc h2 h3 hS h4 (fun F' L' a' w' hk _ hs=>⟨F',L',_,hk,by simpa using hs⟩)
   simpa using this
  |false=>
   obtain⟨h1,h4⟩:=h;have:=Na (id:=id) (P:=P) (Q:=fun e a' w'=>∃F' L' N',Q e F' L' N'/\St C0 B wI F' (look L') N' a' w') h1 hS h4 (fun F' L' a' w' hk hs=>⟨F',L',_,hk,by simpa using hs⟩)
   simpa using this
 |seq x y ihx ihy=>
  intro Q F L N a w h hS;obtain⟨M,h1,h2⟩:=h;refine wp_seq (wp_mono (ihx _ F L N a w h1 hS) ?_);rintro e a' w' ⟨F',L',N',hq,hs⟩;cases e<;>first|exact⟨F',L',N',hq,hs⟩|(obtain⟨F2,L2,N2,hw,hy⟩:=h2 _ _ _ hq;exact ihy Q F2 L2 N2 a' w' hy (hw C0 B wI a' w' hs))
 |cond c t e iht ihe=>
  intro Q F L N a w h hS;obtain⟨b,hb,h1,h2⟩:=h;obtain⟨⟨ρ,s1,s2,s3⟩,_⟩:=id hS;have hc:a.eval c= .bool b:=by
   rw[Act.eval_evalV];have:=Bc (x:=c) (F:=F) (V:=fun s=>a.tmps.getD s undef) (ρ:=ρ) (C:=aY C0 B w ρ (look L)) (fun t _=>s3 t)
   rw[hb]at this;unfold aO bF at this;exact this
  exact wp_cond_split hc (fun e=>iht Q F L N a w (h1 e) hS) (fun e=>ihe Q F L N a w (h2 e) hS)
 |block id c ih=>
  intro Q F L N a w h hS;refine wp_block (wp_mono (ih _ F L N a w h hS) ?_);rintro e a' w' ⟨F',L',N',hq,hs⟩;cases e<;>first|exact⟨F',L',N',hq,hs⟩|skip
  rename_i id';show Exit.inBlock id _ (.exit id') a' w';unfold Exit.inBlock;dsimp only at hq|-;split at hq
  ·rename_i e;rw[if_pos e];exact⟨F',L',N',hq,hs⟩
  ·rename_i e;rw[if_neg e];exact⟨F',L',N',hq,hs⟩
 |loop c ih=>
  intro Q F L N a w h hS;obtain⟨Inv,μ,⟨F0,L0,N0,hw0,hI0⟩,hround⟩:=h;refine Ys (fun n a w=>∃F L N,Inv F L N/\St C0 B wI F (look L) N a w/\μ F L N=n) ⟨F0,L0,N0,hI0,hw0 C0 B wI a w hS,rfl⟩ ?_
  rintro n a' w' ⟨F1,L1,N1,hI1,hS1,rfl⟩;refine wp_mono (ih _ F1 L1 N1 a' w' (hround F1 L1 N1 hI1) hS1) ?_;rintro e a2 w2 ⟨F2,L2,N2,hq,hs⟩;cases e<;>first|exact⟨F2,L2,N2,hq,hs⟩|skip
  obtain⟨F3,L3,N3,hw,hI3,hlt⟩:=hq;exact⟨_,hlt,F3,L3,N3,hI3,hw C0 B wI a2 w2 hs,rfl⟩
 |exit id=>intro Q F L N a w h hS;exact wp_exit ⟨F,L,N,h,hS⟩
 |ret=>intro Q F L N a w h hS;exact wp_ret ⟨F,L,N,h,hS⟩
 |rangeFunc f params x y _ _=>intro Q F L N a w h;exact h.elim
 |scope c _=>intro Q F L N a w h;exact h.elim
 |label l=>intro Q F L N a w h;exact h.elim
 |goto l=>intro Q F L N a w h;exact h.elim
 |refuse s=>intro Q F L N a w h;exact h.elim
section
variable {P:Program} {y:Code} {Q:yD} {F:List AV} {L:Sto} {N:Nat}
def gOk(l:List Oper):Bool:=l.all fun o=>match o.guard with|none=>true|some (j,_)=>((l[j]?).bind (·.dst)).isSome
def dOk(l:List Oper)(n:Nat):Bool:=(List.range l.length).all fun i=>match(l[i]?).bind (·.dst)with|some d=>decide (d<n)|none=>true
theorem aAM{id:Nat}{l:List Oper}{N':Nat}(hg:gOk l=true)(hN:N+l.length=N')
  (h:∀K:List AV->Sto->Nat->Prop,(∀F L N,awp P y Q F L N->K F L N)->fE P N (l.map (·.dst)) l 0 F L [] fun F L _=>K F L N'):awp P (.seq (.region id l.toArray false) y) Q F L N:=
 by subst hN;exact⟨awp P y Q,⟨hg,h _ fun _ _ _ h=>h⟩,fun _ _ _ h=>⟨_,_,_,qX.rfl,h⟩⟩
theorem Ib{id:Nat}{l:List Oper}{N':Nat}(hg:gOk l=true)(hN:N+l.length=N')
  (h:∀K:List AV->Sto->Nat->Prop,(∀F L N,Q .normal F L N->K F L N)->fE P N (l.map (·.dst)) l 0 F L [] fun F L _=>K F L N'):awp P (.region id l.toArray false) Q F L N:=
 by subst hN;exact⟨hg,h _ fun _ _ _ h=>h⟩
theorem lH{x:Code}(h:∀K:List AV->Sto->Nat->Prop,(∀F L N,awp P y Q F L N->K F L N)->awp P x (fun e F L N=>match e with| .normal=>K F L N|e=>Q e F L N) F L N):awp P (.seq x y) Q F L N:=⟨awp P y Q,h _ fun _ _ _ h=>h,fun _ _ _ h=>⟨_,_,_,qX.rfl,h⟩⟩
theorem zS{x:Code}(J:List AV->Sto->Nat->Prop)(h1:awp P x (fun e F L N=>match e with| .normal=>∃F' L' N',qX F L N F' L' N'/\J F' L' N'|e=>Q e F L N) F L N)(h2:∀F L N,J F L N->awp P y Q F L N):awp P (.seq x y) Q F L N:=
 ⟨fun F L N=>∃F' L' N',qX F L N F' L' N'/\J F' L' N',h1,fun _ _ _ ⟨F',L',N',hw,hj⟩=>⟨F',L',N',hw,h2 _ _ _ hj⟩⟩
theorem Fk{c:Operand}{t e:Code}{b:Bool}(hb:eG F c= .p (.bool b))(ht:b=true->awp P t Q F L N)(he:b=false->awp P e Q F L N):awp P (.cond c t e) Q F L N:=⟨b,hb,ht,he⟩
theorem Fh(h:Q .normal F L N):awp P .skip Q F L N:=h
theorem Yi(h:Q .ret F L N):awp P .ret Q F L N:=h
theorem Fj{id:Nat}(h:Q (.exit id) F L N):awp P (.exit id) Q F L N:=h
theorem pC{id:Nat}{c:Code}(h:awp P c (fun e F L N=>match e with| .exit id'=>if id'=id then Q .normal F L N else Q (.exit id') F L N|e=>Q e F L N) F L N):awp P (.block id c) Q F L N:=h
theorem zJ{c:Code}(Inv:List AV->Sto->Nat->Prop)(μ:List AV->Sto->Nat)(h0:∃F' L' N',qX F L N F' L' N'/\Inv F' L' N')
 (hr:∀F L N,Inv F L N->awp P c (fun e F1 L1 N1=>match e with| .normal=>∃F' L' N',qX F1 L1 N1 F' L' N'/\Inv F' L' N'/\μ F' L'<μ F L|e=>Q e F1 L1 N1) F L N):awp P (.loop c) Q F L N:=⟨Inv,fun F L _=>μ F L,h0,hr⟩
theorem aAN{c:Code}(Inv:List AV->Sto->Nat->Prop)(μ:List AV->Sto->Nat->Nat)(h0:∃F' L' N',qX F L N F' L' N'/\Inv F' L' N')
 (hr:∀F L N,Inv F L N->awp P c (fun e F1 L1 N1=>match e with| .normal=>∃F' L' N',qX F1 L1 N1 F' L' N'/\Inv F' L' N'/\μ F' L' N'<μ F L N|e=>Q e F1 L1 N1) F L N):awp P (.loop c) Q F L N:=⟨Inv,μ,h0,hr⟩
end
section
variable {P:Program} {N:Nat} {ds:List (Option Nat)} {K:List AV->Sto->nA->Prop}
theorem wD{o:Oper}{rest:List Oper}{i n i':Nat}{F F':List AV}{L L':Sto}{log log':nA}{r:AV}{R:List Nat}{W:Sto}(hg:o.guard=none)(hn:N+i=n)(hi:i+1=i')
  (h1:AOp P n o (eG F) (look L) (fun r' R' W'=>r'=r/\R'=R/\W'=W)) (hF:iX F o.dst r=F') (hL:W++L=L') (hl:log++[(R,W.map (·.1))] =log') (h2:fE P N ds rest i' F' L' log' K):fE P N ds (o::rest) i F L log K:=by
 subst hn hi hF hL hl;unfold fE;rw[hg];exact⟨r,R,W,h1,h2⟩
theorem qV{o:Oper}{rest:List Oper}{i n i':Nat}{F F':List AV}{L L':Sto}{log log':nA}{r:AV}{R:List Nat}{W:Sto}{j:Nat}{b:Bool}(hg:o.guard=some (j,b))(hb:gdA ds F j=some (some b))(hn:N+i=n)(hi:i+1=i')
  (h1:AOp P n o (eG F) (look L) (fun r' R' W'=>r'=r/\R'=R/\W'=W)) (hF:iX F o.dst r=F') (hL:W++L=L') (hl:log++[(R,W.map (·.1))] =log') (h2:fE P N ds rest i' F' L' log' K):fE P N ds (o::rest) i F L log K:=by
 subst hn hi hF hL hl;unfold fE;rw[hg];dsimp only;rw[hb];dsimp only;rw[if_pos rfl];exact⟨r,R,W,h1,h2⟩
theorem Bh{o:Oper}{rest:List Oper}{i i':Nat}{F F':List AV}{L:Sto}{log log':nA}{j:Nat}{b:Bool}{q:Option Bool}(hg:o.guard=some (j,b))(hb:gdA ds F j=some q)(hne:q≠some b)(hi:i+1=i')
  (hF:iX F o.dst .undef=F') (hl:log++[([],[])] =log') (h2:fE P N ds rest i' F' L log' K):fE P N ds (o::rest) i F L log K:=by
 subst hi hF hl;unfold fE;rw[hg];dsimp only;rw[hb];cases q with
 |none=>exact h2
 |some x=>
  dsimp only;rw[if_neg (fun e=>hne (by rw[e]))]
  exact h2
theorem dK{i:Nat}{F:List AV}{L:Sto}{log:nA}(h:K F L log):fE P N ds [] i F L log K:=by unfold fE;exact h
end
end Go.Proofs.YtdaeofhdgabhjaaGreat
namespace Go.Proofs.YtdaeofhdgabhjaaGreat
open Go.RowKit
def wF(P:Program):List ResultVar->List AV->(Nat->Option Ob)->(List AV->Prop)->Prop
 |[],_,_,K=>K []
 | .tmp t::rs,F,σ,K=>wF P rs F σ fun l=>K (F.getD t .any::l)
 | .cell a t::rs,F,σ,K=>(match F.getD a .any with
   | .ptr s off=>∃ob,σ s=some ob/\yA P t ob.cells off fun r=>wF P rs F σ fun l=>K (r::l)
   |_=>False)
def Nr:List PV->PV
 |[x] =>x
 |m=> .tup m
def aDN(tmps:Array Value):ResultVar->Sem Value
 | .tmp t=>pure (tmps.getD t Go.undef)
 | .cell a t=>do loadVar t (<-asAddr (tmps.getD a Go.undef))
theorem zL(fn:Func)(tmps:Array Value):results fn tmps=(do let vs<-fn.results.mapM (aDN tmps);pure (if h:vs.size=1 then vs[0]else .tuple vs)):=by
 unfold results
 congr 1
def Sk(P:Program)(rs:List ResultVar)(r:PV):yD:=fun e F L _=>match e with
 | .normal| .ret=>wF P rs F (look L) fun l=>∃m,mY (iU 3 (look L)) l=some m/\Nr m=r
 |_=>False
section
variable {P:Program} {C0:cE} {B:Nat} {wI:World}
theorem zA{ρ:Ren}{σ:Nat->Option Ob}{a:Act}{w:World}{F:List AV}(hs:StR C0 ρ σ w B)(hf:∀t,aO ρ (aY C0 B w ρ σ) (F.getD t .any) (a.tmps.getD t Go.undef)):
  ∀(rs:List ResultVar) (K:List AV->Prop),wF P rs F σ K->∃l vs,K l/\(rs.mapM (aDN a.tmps)).run P w= .ok vs w/\aZ ρ (aY C0 B w ρ σ) l vs
 |[],K,h=>⟨[],[],h,by simp,by unfold aZ;rfl⟩
 | .tmp t::rs,K,h=>by
   unfold wF at h;obtain⟨l,vs,h1,h2,h3⟩:=zA hs hf rs _ h;refine⟨_,_::vs,h1,?_,by unfold aZ;exact⟨_,vs,rfl,hf t,h3⟩⟩
   simp[List.mapM_cons,h2,aDN]
 | .cell x t::rs,K,h=>by
   unfold wF at h;split at h
   ·rename_i s off e;obtain⟨ob,hob,hl⟩:=h;obtain⟨r,hr,hv⟩:=Jr hl;obtain⟨l,vs,h1,h2,h3⟩:=zA hs hf rs _ hr;have hx:=hf x;rw[e]at hx;unfold aO at hx;obtain⟨b,c,hq,hpt⟩:=hx;obtain⟨_,arr,hO⟩:=hs.at hob hq;obtain⟨v,hrun,hrep⟩:=hv _ _ w b c arr hO;have hrun':(loadVar t ⟨b,off,none⟩).run P w= .ok v w:=by
     simpa[Instr.loadAt,Instr.sureAddr]using hrun
    refine⟨_,v::vs,h1,?_,by unfold aZ;exact⟨_,vs,rfl,hrep,h3⟩⟩
    simp only[Array.getD_eq_getD_getElem?]at hpt;simp[List.mapM_cons,h2,aDN,hpt,asAddr,hrun']
   ·exact h.elim
theorem xC{f:FuncId}{fn:Func}{c:Code}{A:List PV}{r:PV}(hok:Cg P f=true)(hf:P.funcs[f]? =some fn)(hb:fn.body=some c)
  (h:awp P c (Sk P fn.results.toList r) (A.map .p++List.replicate (fn.ntmps-A.length) .undef) [] 0):Sat P false f A r:=by
 refine⟨hok,fun C w vs hC hrep=> ?_⟩
 have hlen:=hrep.length;refine calls_of_wp hf hb (wp_mono (Kj (C0:=C) (B:=w.heap.size) (wI:=w) c _ _ _ _ _ _ h ?_) ?_)
 ·refine⟨⟨fun _=>none,⟨fun s o h=>by simp[look]at h,fun s s' o o' b c c' h=>by simp[look]at h⟩,fun _ _=>rfl,fun t=> ?_⟩,Nat.le_refl _,rfl,by simp[hlen],Below.refl _ _⟩
  by_cases ht:t<A.length
  ·have e1:(A.map AV.p++List.replicate (fn.ntmps-A.length) AV.undef).getD t .any= .p A[t] :=by
    rw[List.getD_eq_getElem?_getD,List.getElem?_append_left (by simpa using ht)];simp[ht]
   obtain⟨v,h1,h2⟩:=hrep.get _ _ t A[t] (List.getElem?_eq_getElem ht);have e2:(vs.toArray++Array.replicate (fn.ntmps-vs.toArray.size) undef).getD t undef=v:=by
    rw[Array.getD_eq_getD_getElem?,Array.getElem?_append_left (by simp;omega)];simp[h1]
   rw[e1];show aO _ _ _ ((vs.toArray++Array.replicate (fn.ntmps-vs.toArray.size) undef).getD t undef);rw[e2];unfold aO;refine bF.mono (fun b o x hx=>⟨hC b o x hx,fun s c h=>(by cases h),.inr hx⟩) _ v h2
  ·by_cases ht2:t<A.length+(fn.ntmps-A.length)
   ·have e1:(A.map AV.p++List.replicate (fn.ntmps-A.length) AV.undef).getD t .any= .undef:=by
     rw[List.getD_eq_getElem?_getD,List.getElem?_append_right (by simp;omega),List.getElem?_replicate,if_pos (by simp;omega)];rfl
    have e2:(vs.toArray++Array.replicate (fn.ntmps-vs.toArray.size) undef).getD t undef=undef:=by
     rw[Array.getD_eq_getD_getElem?,Array.getElem?_append_right (by simp;omega),Array.getElem?_replicate]
     split<;>rfl
    rw[e1];show aO _ _ _ ((vs.toArray++Array.replicate (fn.ntmps-vs.toArray.size) undef).getD t undef);rw[e2];unfold aO;rfl
   ·have e1:(A.map AV.p++List.replicate (fn.ntmps-A.length) AV.undef).getD t .any= .any:=by
     rw[List.getD_eq_getElem?_getD,List.getElem?_eq_none (by simp;omega)];rfl
    rw[e1];unfold aO;trivial
 ·rintro e a w' ⟨F,L,N,hq,⟨ρ,s1,s2,s3⟩,s4,s5,s6,s7⟩;have fin:wF P fn.results.toList F (look L) (fun l=>∃m,mY (iU 3 (look L)) l=some m/\Nr m=r)->a.defers=[]/\∃v,(results fn a.tmps).run P w'= .ok v w'/\∃v',Ending.returned v= .returned v'/\bF (fun b o x=>((false:Bool)=false/\C b o x)\/(w.heap.size<=b/\w'.cell? ⟨b,o,none⟩=some x)) r v'/\Below w.heap.size w w':=by
   intro h;refine⟨s5,?_⟩;obtain⟨l,us,⟨m,hm,hr⟩,h2,h3⟩:=zA s1 s3 _ _ h;have hres:(results fn a.tmps).run P w'= .ok (if h:us.toArray.size=1 then us.toArray[0]else .tuple us.toArray) w':=by
    rw[zL,Array.mapM_eq_mapM_toList];simp only[Sem.run_bind,Sem.run_map,h2,Result.andThen_ok,Sem.run_pure]
   refine⟨_,hres,_,rfl,?_,s7⟩;obtain⟨g1,g2⟩:=rO hm;have hrl:cG (fun b o x=>((false:Bool)=false/\C b o x)\/(w.heap.size<=b/\w'.cell? ⟨b,o,none⟩=some x)) m us:=by
    refine cG.of _ _ (by rw[<-g1];exact h3.length) fun i y hi=> ?_
    have hlt:i<l.length:=by rw[g1];exact(List.getElem?_eq_some_iff.1 hi).1
    obtain⟨y',h5,h6⟩:=g2 i _ (List.getElem?_eq_getElem hlt);rw[hi]at h5;cases h5;obtain⟨v,k1,k2⟩:=h3.get _ _ i _ (List.getElem?_eq_getElem hlt);refine⟨v,k1,Ow s1 _ (fun _=>True) ?_ ?_ 3 _ _ v h6 (fun s hs'=>⟨trivial,rfl⟩) k2⟩
    ·rintro b o x ⟨e1,e2,e3⟩;rcases e3 with e3|e3
     ·exact .inr ⟨e3,e1⟩
     ·exact .inl ⟨rfl,e3⟩
    ·intro s ob b c _ _ _ hb o x hx;exact .inr ⟨hb,hx⟩
   rw[<-hr];cases m with
   |nil=>
    unfold cG at hrl;subst hrl;unfold Nr bF;exact⟨[],rfl,by unfold cG;rfl⟩
   |cons x m=>
    cases m with
    |nil=>
     unfold cG at hrl;obtain⟨v,r',rfl,h7,h8⟩:=hrl;unfold cG at h8;subst h8;unfold Nr;simpa using h7
    |cons y m=>
     have hl:¬us.toArray.size=1:=by have:=hrl.length;simp at this;simp;omega
     rw[dif_neg hl];unfold Nr bF;exact⟨us,rfl,hrl⟩
  cases e<;>first|exact fin hq|exact hq.elim
end
theorem gQ:∀{l:List AV} {A:List PV},cR l=some A->l=A.map .p
 |[],A,h=>by simp[cR]at h;subst h;rfl
 |x::l,A,h=>by
  unfold cR at h;split at h
  ·rename_i e;cases e
  ·rename_i y l' e;cases e;simp only[Option.map_eq_some_iff]at h;obtain⟨r,h1,rfl⟩:=h;rw[gQ h1];rfl
  ·cases h
section
variable {P:Program} {σ:Nat->Option Ob} {f:FuncId} {fr:Bool} {A:List PV} {r:PV} {avs:List AV} {K:Res}
theorem mI(hs:Sat P fr f A r)(hA:cR avs=some A)(hK:K (.p r) [] []):qZ P σ f avs K:=by
 have:=gQ hA;subst this;refine .inl ⟨A,wU 3 σ A,fr,r,hs,.inl ⟨.inr hA,?_⟩⟩;rw[Cw];exact hK
theorem mV{R:List Nat}(hs:Sat P true f A r)(hA:mY (iU 3 σ) avs=some A)(hR:dM (iQ 3 σ) avs=R)(hK:K (.p r) R []):qZ P σ f avs K:=by
 subst hR;exact .inl ⟨A,hA,true,r,hs,.inl ⟨.inl rfl,hK⟩⟩
theorem uU{R:List Nat}(hs:Sat P fr f A r)(hA:mY (iU 3 σ) avs=some A)(hR:dM (iQ 3 σ) avs=R)(hK:K (.p r) R (R.map (·,none))):qZ P σ f avs K:=by
 subst hR;exact .inl ⟨A,hA,fr,r,hs,.inr hK⟩
def PV.flat:PV->Bool
 | .int .. | .bool _| .str _=>true
 | .agg l| .tup l=>l.all fun x=>match x with| .int .. | .bool _| .str _=>true|_=>false
 |_=>false
theorem bF.flat1{C C':cE}{x:PV}{v:Value}(hf:(match x with| .int .. | .bool _| .str _=>true|_=>false)=true)(h:bF C x v):bF C' x v:=by
 cases x<;>first|(cases hf;done)|(unfold bF at*;exact h)
theorem cG.flat{C C':cE}:∀{l:List PV} {vs:List Value},l.all (fun x=>match x with| .int .. | .bool _| .str _=>true|_=>false)=true->cG C l vs->cG C' l vs
 |[],vs,_,h=>by unfold cG at*;exact h
 |x::l,vs,hf,h=>by
  unfold cG at*;obtain⟨v,r,rfl,h1,h2⟩:=h;simp only[List.all_cons,Bool.and_eq_true]at hf;exact⟨v,r,rfl,bF.flat1 hf.1 h1,cG.flat hf.2 h2⟩
theorem bF.flat{C C':cE}{x:PV}{v:Value}(hf:x.flat=true)(h:bF C x v):bF C' x v:=by
 cases x<;>first|(cases hf;done)|(unfold bF at*;exact h)|skip
 ·unfold bF at*;obtain⟨vs,h1,h2,h3⟩:=h;exact⟨vs,h1,cG.flat hf h2,h3⟩
 ·unfold bF at*;obtain⟨vs,h1,h2⟩:=h;exact⟨vs,h1,cG.flat hf h2⟩
theorem Sat.fresh(hs:Sat P fr f A r)(hf:r.flat=true):Sat P true f A r:=
 ⟨hs.1,fun C w vs hC hr=>(hs.2 C w vs hC hr).mono fun _e _w' ⟨v,h1,h2,h3⟩=>⟨v,h1,bF.flat hf h2,h3⟩⟩
end
def aHr(P:Program)(rs:List ResultVar)(ty esz:Nat)(cells:List PV)(m:Nat)(ys:List PV):yD:=fun e F L _=>match e with
 | .normal| .ret=>wF P rs F (look L) fun l=>(∃s,l= .own s 0 m::ys.map .p/\look L s=some ⟨ty,esz,cells.map .p⟩)\/(l= .nil::ys.map .p/\m=0/\cells=[])
 |_=>False
section
variable {P:Program} {C0:cE} {B:Nat} {wI:World}
theorem aZ.Er{ρ:Ren}{C:cE}:∀{l:List PV} {vs:List Value},aZ ρ C (l.map .p) vs->cG C l vs
 |[],vs,h=>by simp only[List.map_nil]at h;unfold aZ at h;unfold cG;exact h
 |x::l,vs,h=>by
  simp only[List.map_cons]at h;unfold aZ at h;obtain⟨v,r,rfl,h2,h3⟩:=h;unfold aO at h2;unfold cG;exact⟨v,r,rfl,h2,aZ.Er h3⟩
theorem Zc{f:FuncId}{fn:Func}{c:Code}{A:List PV}{Q:yD}{C:cE}{w:World}{vs:List Value}{R:Ending->World->Prop}(hf:P.funcs[f]? =some fn)(hb:fn.body=some c)(hC:∀b o v,C b o v->w.cell? ⟨b,o,none⟩=some v)(hrep:cG C A vs)
  (h:awp P c Q (A.map .p++List.replicate (fn.ntmps-A.length) .undef) [] 0)
  (hR:∀e a w' F L N,Q e F L N->St C w.heap.size w F (look L) N a w'->(match e with| .normal| .ret=>a.defers=[]/\∃v,(results fn a.tmps).run P w'= .ok v w'/\R (.returned v) w'|_=>False)):Calls P f vs.toArray w R:=by
 have hlen:=hrep.length;refine calls_of_wp hf hb (wp_mono (Kj (C0:=C) (B:=w.heap.size) (wI:=w) c _ _ _ _ _ _ h ?_) ?_)
 ·refine⟨⟨fun _=>none,⟨fun s o h=>by simp[look]at h,fun s s' o o' b c c' h=>by simp[look]at h⟩,fun _ _=>rfl,fun t=> ?_⟩,Nat.le_refl _,rfl,by simp[hlen],Below.refl _ _⟩
  by_cases ht:t<A.length
  ·have e1:(A.map AV.p++List.replicate (fn.ntmps-A.length) AV.undef).getD t .any= .p A[t] :=by
    rw[List.getD_eq_getElem?_getD,List.getElem?_append_left (by simpa using ht)];simp[ht]
   obtain⟨v,h1,h2⟩:=hrep.get _ _ t A[t] (List.getElem?_eq_getElem ht);have e2:(vs.toArray++Array.replicate (fn.ntmps-vs.toArray.size) undef).getD t undef=v:=by
    rw[Array.getD_eq_getD_getElem?,Array.getElem?_append_left (by simp;omega)];simp[h1]
   rw[e1];show aO _ _ _ ((vs.toArray++Array.replicate (fn.ntmps-vs.toArray.size) undef).getD t undef);rw[e2];unfold aO;refine bF.mono (fun b o x hx=>⟨hC b o x hx,fun s c h=>(by cases h),.inr hx⟩) _ v h2
  ·by_cases ht2:t<A.length+(fn.ntmps-A.length)
   ·have e1:(A.map AV.p++List.replicate (fn.ntmps-A.length) AV.undef).getD t .any= .undef:=by
     rw[List.getD_eq_getElem?_getD,List.getElem?_append_right (by simp;omega),List.getElem?_replicate,if_pos (by simp;omega)];rfl
    have e2:(vs.toArray++Array.replicate (fn.ntmps-vs.toArray.size) undef).getD t undef=undef:=by
     rw[Array.getD_eq_getD_getElem?,Array.getElem?_append_right (by simp;omega),Array.getElem?_replicate]
     split<;>rfl
    rw[e1];show aO _ _ _ ((vs.toArray++Array.replicate (fn.ntmps-vs.toArray.size) undef).getD t undef);rw[e2];unfold aO;rfl
   ·have e1:(A.map AV.p++List.replicate (fn.ntmps-A.length) AV.undef).getD t .any= .any:=by
     rw[List.getD_eq_getElem?_getD,List.getElem?_eq_none (by simp;omega)];rfl
    rw[e1];unfold aO;trivial
 ·rintro e a w' ⟨F,L,N,hq,hS⟩;have:=hR e a w' F L N hq hS;cases e<;>first|exact this|exact this.elim
theorem Rh{f:FuncId}{fn:Func}{c:Code}{A:List PV}{ty esz:Nat}{cells:List PV}{m:Nat}{ys:List PV}(hok:Cg P f=true)(he:esz≠0)(hf:P.funcs[f]? =some fn)(hb:fn.body=some c)
  (h:awp P c (aHr P fn.results.toList ty esz cells m ys) (A.map .p++List.replicate (fn.ntmps-A.length) .undef) [] 0):aD1 P f A ty esz cells m ys:=by
 refine⟨hok,he,fun C w vs hC hrep=>Zc hf hb hC hrep h ?_⟩
 rintro e a w' F L N hq ⟨⟨ρ,s1,s2,s3⟩,s4,s5,s6,s7⟩;have fin:wF P fn.results.toList F (look L) (fun l=>(∃s,l= .own s 0 m::ys.map .p/\look L s=some ⟨ty,esz,cells.map .p⟩)\/(l= .nil::ys.map .p/\m=0/\cells=[]))->a.defers=[]/\∃v,(results fn a.tmps).run P w'= .ok v w'/\∃v' us q c,Ending.returned v= .returned (Ym v' us)/\Below w.heap.size w w'/\cG (wM C w.heap.size q w') ys us/\
   ((q=none/\v'= .slice none 0 0/\m=0/\cells=[]/\c=0)\/∃b arr,q=some b/\v'= .slice (some ⟨b,0,none⟩) m c/\m<=c/\w.heap.size<=b/\w'.heap[b]? =some (.cells arr ty (0,0))/\
     arr.size=c*esz/\cells.length<=arr.size/\c<=maxLen/\∀(i:Nat) x,cells[i]? =some x->∃u,arr[i]? =some u/\u.oneCell'=true/\bF (wM C w.heap.size q w') x u):=by
  intro h;refine⟨s5,?_⟩;obtain⟨l,us,hl,h2,h3⟩:=zA s1 s3 _ _ h;have hres:(results fn a.tmps).run P w'= .ok (if h:us.toArray.size=1 then us.toArray[0]else .tuple us.toArray) w':=by
   rw[zL,Array.mapM_eq_mapM_toList];simp only[Sem.run_bind,Sem.run_map,h2,Result.andThen_ok,Sem.run_pure]
  refine⟨_,hres,?_⟩;have hout:∀v us',us=v::us'->(if h:us.toArray.size=1 then us.toArray[0]else Value.tuple us.toArray)=Ym v us':=by
   rintro v us' rfl;cases us' with
   |nil=>rfl
   |cons u us'=>rw[dif_neg (by simp)];rfl
  rcases hl with⟨s,rfl,hs⟩|⟨rfl,hm,hc⟩
  ·unfold aZ at h3;obtain⟨v,us',rfl,hv,hys⟩:=h3;unfold aO at hv;obtain⟨q,c,hρ,hcase⟩:=hv;have hkeep:∀b o x,aY C w.heap.size w' ρ (look L) b o x->wM C w.heap.size q w' b o x:=by
    rintro b o x ⟨e1,e2,e3|e3⟩
    ·refine .inr ⟨e3,fun hq=> ?_,e1⟩
     subst hq;have:=e2 s c hρ;rw[hs]at this;cases this
    ·exact .inl e3
   refine⟨v,us',q,c,by rw[hout v us' rfl],s7,cG.mono hkeep _ _ (aZ.Er hys),?_⟩
   obtain⟨q2,c2,hρ2,hob⟩:=s1.ob s _ hs;rw[hρ]at hρ2;cases hρ2;rcases hcase with⟨h1,h4,h5,_⟩|⟨b,o',c',h1,h4,h5,h6,h7⟩
   ·rcases hob with⟨_,_,h8,h9⟩|⟨b,arr,h8,_⟩
    ·exact .inl ⟨h1,h4,h5,by simpa using h8,h9⟩
    ·rw[h1]at h8;cases h8
   ·obtain⟨rfl,rfl⟩:=h7 rfl;rcases hob with⟨h8,_⟩|⟨b2,arr,h8,h9,h10⟩
    ·rw[h1]at h8;cases h8
    ·rw[h1]at h8;cases h8;obtain⟨r1,r2,r3⟩:=h10.row he;refine .inr ⟨b,arr,h1,h4,h5,h9,h10.blk,r1,by simpa using r2,r3,fun i x hi=> ?_⟩
     obtain⟨u,k1,k2,k3⟩:=h10.cells i (.p x) (by show(cells.map AV.p)[i]? =_;rw[List.getElem?_map,hi];rfl)
     unfold aO at k3;exact⟨u,k1,k2,bF.mono hkeep x u k3⟩
  ·unfold aZ at h3;obtain⟨v,us',rfl,hv,hys⟩:=h3;unfold aO at hv;refine⟨v,us',none,0,by rw[hout v us' rfl],s7,cG.mono ?_ _ _ (aZ.Er hys),.inl ⟨rfl,hv,hm,hc,rfl⟩⟩
   rintro b o x ⟨e1,e2,e3|e3⟩
   ·exact .inr ⟨e3,(fun h=>by cases h),e1⟩
   ·exact .inl e3
 cases e<;>first|exact fin hq|exact hq.elim
end
end Go.Proofs.YtdaeofhdgabhjaaGreat
namespace Go.Proofs.YtdaeofhdgabhjaaGreat
open Go.RowKit
theorem aFP:aU Tryz.prog 1=1:=by kernel_rfl
theorem aIP:iT Tryz.prog 1=false:=by kernel_rfl
theorem aIN:tok Tryz.prog 1=true:=by kernel_rfl
theorem aFQ:(Tryz.prog.info? 1).isSome=true:=by kernel_rfl
theorem aIM:(Tryz.prog.underlying 1).isSome=true:=by kernel_rfl
theorem aFO:gD Tryz.prog 1=some [.any] :=by kernel_rfl
theorem aFN:gI Tryz.prog 1=true:=by kernel_rfl
theorem aIO:oF Tryz.prog 1=true:=by kernel_rfl
theorem aFz:aU Tryz.prog 2=1:=by kernel_rfl
theorem aIH:iT Tryz.prog 2=false:=by kernel_rfl
theorem aIE:tok Tryz.prog 2=true:=by kernel_rfl
theorem aFA:(Tryz.prog.info? 2).isSome=true:=by kernel_rfl
theorem aID:(Tryz.prog.underlying 2).isSome=true:=by kernel_rfl
theorem aIF:Sj Tryz.prog 2=some .i64:=by kernel_rfl
theorem aFy:gD Tryz.prog 2=some [.p (.int .i64 0)] :=by kernel_rfl
theorem aFx:gI Tryz.prog 2=true:=by kernel_rfl
theorem aIG:oF Tryz.prog 2=true:=by kernel_rfl
theorem aFr:aU Tryz.prog 3=1:=by kernel_rfl
theorem aIC:iT Tryz.prog 3=false:=by kernel_rfl
theorem aIz:tok Tryz.prog 3=true:=by kernel_rfl
theorem aFs:(Tryz.prog.info? 3).isSome=true:=by kernel_rfl
theorem aIy:(Tryz.prog.underlying 3).isSome=true:=by kernel_rfl
theorem aIA:Sj Tryz.prog 3=some .i64:=by kernel_rfl
theorem aFq:gD Tryz.prog 3=some [.p (.int .i64 0)] :=by kernel_rfl
theorem aFp:gI Tryz.prog 3=true:=by kernel_rfl
theorem aIB:oF Tryz.prog 3=true:=by kernel_rfl
theorem aDC:aU Tryz.prog 23=1:=by kernel_rfl
theorem aFM:iT Tryz.prog 23=false:=by kernel_rfl
theorem aFK:tok Tryz.prog 23=true:=by kernel_rfl
theorem aDD:(Tryz.prog.info? 23).isSome=true:=by kernel_rfl
theorem aFJ:(Tryz.prog.underlying 23).isSome=true:=by kernel_rfl
theorem aDE:fJ Tryz.prog 23=some 44:=by kernel_rfl
theorem aDB:gD Tryz.prog 23=some [.nil] :=by kernel_rfl
theorem aDA:gI Tryz.prog 23=true:=by kernel_rfl
theorem aFL:oF Tryz.prog 23=true:=by kernel_rfl
theorem aDx:aU Tryz.prog 24=1:=by kernel_rfl
theorem aFI:iT Tryz.prog 24=false:=by kernel_rfl
theorem aFG:tok Tryz.prog 24=true:=by kernel_rfl
theorem aDy:(Tryz.prog.info? 24).isSome=true:=by kernel_rfl
theorem aFF:(Tryz.prog.underlying 24).isSome=true:=by kernel_rfl
theorem aDz:fJ Tryz.prog 24=some 23:=by kernel_rfl
theorem aDw:gD Tryz.prog 24=some [.nil] :=by kernel_rfl
theorem aDv:gI Tryz.prog 24=true:=by kernel_rfl
theorem aFH:oF Tryz.prog 24=true:=by kernel_rfl
theorem aDt:aU Tryz.prog 26=2:=by kernel_rfl
theorem aFE:iT Tryz.prog 26=true:=by kernel_rfl
theorem aFC:tok Tryz.prog 26=true:=by kernel_rfl
theorem aDu:(Tryz.prog.info? 26).isSome=true:=by kernel_rfl
theorem aFB:(Tryz.prog.underlying 26).isSome=true:=by kernel_rfl
theorem aIJ:iZ Tryz.prog 26 0=some (0,1):=by kernel_rfl
theorem aIL:sB Tryz.prog 26 0=some (0,23):=by kernel_rfl
theorem aII:iZ Tryz.prog 26 1=some (1,1):=by kernel_rfl
theorem aIK:sB Tryz.prog 26 1=some (1,24):=by kernel_rfl
theorem aAU:kU Tryz.prog 26=true:=by kernel_rfl
theorem aDs:gD Tryz.prog 26=some [.nil,.nil] :=by kernel_rfl
theorem aDr:gI Tryz.prog 26=true:=by kernel_rfl
theorem aFD:oF Tryz.prog 26=true:=by kernel_rfl
theorem aDo:aU Tryz.prog 32=1:=by kernel_rfl
theorem aFw:iT Tryz.prog 32=false:=by kernel_rfl
theorem aFu:tok Tryz.prog 32=true:=by kernel_rfl
theorem aDp:(Tryz.prog.info? 32).isSome=true:=by kernel_rfl
theorem aFt:(Tryz.prog.underlying 32).isSome=true:=by kernel_rfl
theorem aDq:fJ Tryz.prog 32=some 46:=by kernel_rfl
theorem aDn:gD Tryz.prog 32=some [.nil] :=by kernel_rfl
theorem aDm:gI Tryz.prog 32=true:=by kernel_rfl
theorem aFv:oF Tryz.prog 32=true:=by kernel_rfl
theorem aDk:aU Tryz.prog 44=2:=by kernel_rfl
theorem aFo:iT Tryz.prog 44=true:=by kernel_rfl
theorem aFm:tok Tryz.prog 44=true:=by kernel_rfl
theorem aDl:(Tryz.prog.info? 44).isSome=true:=by kernel_rfl
theorem aFl:(Tryz.prog.underlying 44).isSome=true:=by kernel_rfl
theorem aIv:iZ Tryz.prog 44 0=some (0,1):=by kernel_rfl
theorem aIx:sB Tryz.prog 44 0=some (0,3):=by kernel_rfl
theorem aIu:iZ Tryz.prog 44 1=some (1,1):=by kernel_rfl
theorem aIw:sB Tryz.prog 44 1=some (1,3):=by kernel_rfl
theorem aAT:kU Tryz.prog 44=true:=by kernel_rfl
theorem aDj:gD Tryz.prog 44=some [.p (.int .i64 0),.p (.int .i64 0)] :=by kernel_rfl
theorem aDi:gI Tryz.prog 44=true:=by kernel_rfl
theorem aFn:oF Tryz.prog 44=true:=by kernel_rfl
theorem aDg:aU Tryz.prog 46=4:=by kernel_rfl
theorem aFk:iT Tryz.prog 46=true:=by kernel_rfl
theorem aFi:tok Tryz.prog 46=true:=by kernel_rfl
theorem aDh:(Tryz.prog.info? 46).isSome=true:=by kernel_rfl
theorem aFh:(Tryz.prog.underlying 46).isSome=true:=by kernel_rfl
theorem aIr:iZ Tryz.prog 46 0=some (0,2):=by kernel_rfl
theorem aIt:sB Tryz.prog 46 0=some (0,44):=by kernel_rfl
theorem aIq:iZ Tryz.prog 46 1=some (2,2):=by kernel_rfl
theorem aIs:sB Tryz.prog 46 1=some (2,44):=by kernel_rfl
theorem aAS:kU Tryz.prog 46=true:=by kernel_rfl
theorem aDf:gD Tryz.prog 46=some [.p (.int .i64 0),.p (.int .i64 0),.p (.int .i64 0),.p (.int .i64 0)] :=by kernel_rfl
theorem aDe:gI Tryz.prog 46=true:=by kernel_rfl
theorem aFj:oF Tryz.prog 46=true:=by kernel_rfl
theorem aDb:aU Tryz.prog 65=1:=by kernel_rfl
theorem aFg:iT Tryz.prog 65=false:=by kernel_rfl
theorem aFe:tok Tryz.prog 65=true:=by kernel_rfl
theorem aDc:(Tryz.prog.info? 65).isSome=true:=by kernel_rfl
theorem aFd:(Tryz.prog.underlying 65).isSome=true:=by kernel_rfl
theorem aDd:fJ Tryz.prog 65=some 67:=by kernel_rfl
theorem aDa:gD Tryz.prog 65=some [.nil] :=by kernel_rfl
theorem aC9:gI Tryz.prog 65=true:=by kernel_rfl
theorem aFf:oF Tryz.prog 65=true:=by kernel_rfl
theorem aC7:aU Tryz.prog 67=2:=by kernel_rfl
theorem aFc:iT Tryz.prog 67=true:=by kernel_rfl
theorem aE9:tok Tryz.prog 67=true:=by kernel_rfl
theorem aC8:(Tryz.prog.info? 67).isSome=true:=by kernel_rfl
theorem aE8:(Tryz.prog.underlying 67).isSome=true:=by kernel_rfl
theorem aFa:Hq Tryz.prog 67=some (2,3):=by kernel_rfl
theorem aIp:iZ Tryz.prog 67 0=some (0,1):=by kernel_rfl
theorem aIo:iZ Tryz.prog 67 1=some (1,1):=by kernel_rfl
theorem aAR:kU Tryz.prog 67=true:=by kernel_rfl
theorem aC6:gD Tryz.prog 67=some [.p (.int .i64 0),.p (.int .i64 0)] :=by kernel_rfl
theorem aC5:gI Tryz.prog 67=true:=by kernel_rfl
theorem aFb:oF Tryz.prog 67=true:=by kernel_rfl
theorem Vv:kU Tryz.prog 129=true:=by kernel_rfl
end Go.Proofs.YtdaeofhdgabhjaaGreat
namespace Go.Proofs.YtdaeofhdgabhjaaGreat
open Go.RowKit
abbrev Rn:=List (Nat×Option Nat)
def rF:Rn->Nat->Option (Option Nat)
 |[],_=>none
 |(k,x)::m,s=>if s=k then some x else rF m s
def rnQ(m:Rn):AV->AV
 | .ptr s off=>(match rF m s with|some (some o)=> .ptr o off|_=> .any)
 |x=>x
def okQ(m:Rn):AV->Bool
 | .p _=>true
 | .ptr s _=>(match rF m s with|some (some _)=>true|_=>false)
 |_=>false
def Yl(m:Rn)(x' y:AV):Prop:=match x' with
 | .any=>True
 | .p x=>y= .p x
 | .nil=>y= .nil
 | .undef=>y= .undef
 | .ptr s off=>(match rF m s with|some (some o)=>y= .ptr o off|_=>False)
 | .own s o n=>(match rF m s with|some (some s')=>y= .own s' o n|some none=>y= .nil/\o=0/\n=0|none=>False)
 | .fn f a b=>y= .fn f (a.map (rnQ m)) (b.map (rnQ m))/\a.all (okQ m)=true/\b.all (okQ m)=true
 |_=>False
def Ko(m:Rn):List AV->List AV->Prop
 |[],[] =>True
 |x::l,y::r=>Yl m x y/\Ko m l r
 |_,_=>False
def aHs(m:Rn)(ob' ob:Ob):Prop:=ob'.ty=ob.ty/\ob'.esz=ob.esz/\if ob.esz=0 then Ko m ob'.cells ob.cells else∃l:List PV,ob'.cells=l.map .p/\ob.cells=l.map .p
def okL(m:Rn)(L:Sto):Sto->Prop
 |[] =>True
 |(_,none)::r=>okL m L r
 |(s,some ob')::r=>(match rF m s with|some (some o)=>∃ob,look L o=some ob/\aHs m ob' ob|some none=>ob'.esz≠0/\ob'.cells=[] |none=>False)/\okL m L r
def aHq(m:Rn)(N:Nat):Bool:=m.all (fun q=>decide (q.1<N))&&(let l:=m.filterMap (·.2);(List.range l.length).all fun i=>(List.range i).all fun j=>l[i]? !=l[j]?)
theorem Ph{m:Rn}{s:Nat}{x:Option Nat}(h:rF m s=some x):(s,x)∈m:=by
 induction m with
 |nil=>cases h
 |cons q m ih=>
  obtain⟨k,y⟩:=q;unfold rF at h;split at h
  ·rename_i e;cases h;subst e;exact List.mem_cons_self
  ·exact List.mem_cons_of_mem _ (ih h)
theorem rQ{m:Rn}{L:Sto}:∀{L':Sto},okL m L L'->∀s ob',look L' s=some ob'->match rF m s with|some (some o)=>∃ob,look L o=some ob/\aHs m ob' ob|some none=>ob'.esz≠0/\ob'.cells=[] |none=>False
 |[],_,s,ob',h=>by simp[look]at h
 |(k,none)::r,hk,s,ob',h=>by
  unfold look at h;split at h
  ·cases h
  ·exact rQ (by simpa[okL]using hk) s ob' h
 |(k,some ob)::r,hk,s,ob',h=>by
  unfold look at h;unfold okL at hk;split at h
  ·rename_i e;cases h;subst e;exact hk.1
  ·exact rQ hk.2 s ob' h
theorem aCi{m:Rn}{N:Nat}(h:aHq m N=true):(∀s x,rF m s=some x->s<N)/\∀s s' o,rF m s=some (some o)->rF m s'=some (some o)->s=s':=by
 unfold aHq at h;rw[Bool.and_eq_true]at h;obtain⟨h1,h2⟩:=h;refine⟨?_,?_⟩
 ·intro s x hs;rw[List.all_eq_true]at h1;simpa using h1 _ (Ph hs)
 ·dsimp only at h2;have key:∀(m:Rn),(∀i j,j<i->i<(m.filterMap (·.2)).length->(m.filterMap (·.2))[i]? ≠(m.filterMap (·.2))[j]?)->∀s s' o,rF m s=some (some o)->rF m s'=some (some o)->s=s':=by
   intro m;induction m with
   |nil=>intro _ s s' o h;cases h
   |cons q m ih=>
    obtain⟨k,y⟩:=q;intro hn s s' o hs hs';have hmem:∀(m:Rn) (s o:Nat),rF m s=some (some o)->o∈m.filterMap (·.2):=fun m s o h=>List.mem_filterMap.2 ⟨_,Ph h,rfl⟩
    cases y with
    |none=>
     unfold rF at hs hs';split at hs
     ·cases hs
     ·split at hs'
      ·cases hs'
      ·exact ih (by simpa using hn) s s' o hs hs'
    |some y=>
     have hno:y∉m.filterMap (·.2):=by
      intro hm;obtain⟨i,hi,he⟩:=List.getElem_of_mem hm;have:=hn (i+1) 0 (by omega) (by simp at hi|-;omega)
      apply this;simp at he|-;rw[List.getElem?_eq_getElem (by simpa using hi)]
      simpa using he
     have hn':∀i j,j<i->i<(m.filterMap (·.2)).length->(m.filterMap (·.2))[i]? ≠(m.filterMap (·.2))[j]? :=by
      intro i j hj hi;have:=hn (i+1) (j+1) (by omega) (by simp at hi|-;omega)
      simpa using this
     unfold rF at hs hs';split at hs
     ·rename_i e1;cases hs;split at hs'
      ·rename_i e2;rw[e1,e2]
      ·exact absurd (hmem m s' o hs') hno
     ·split at hs'
      ·cases hs';exact absurd (hmem m s o hs) hno
      ·exact ih hn' s s' o hs hs'
  refine key m ?_;intro i j hj hi;rw[List.all_eq_true]at h2;have:=h2 i (List.mem_range.2 hi);rw[List.all_eq_true]at this;simpa using this j (List.mem_range.2 hj)
theorem rK{F F':List AV}{L L':Sto}{N N':Nat}(m:Rn)(hm:aHq m N'=true)(hF:Ko m F' F)(hL:okL m L L'):qX F L N F' L' N':=by
 intro C0 B wI a w ⟨⟨ρ,s1,s2,s3⟩,s4,s5,s6,s7⟩;obtain⟨hlt,hinj⟩:=aCi hm
 let ρ':Ren:=fun s=>match rF m s with|some (some o)=>ρ o|some none=>some (none,0)|none=>none
 have hCC:∀b o v,aY C0 B w ρ (look L) b o v->aY C0 B w ρ' (look L') b o v:=by
  intro b o v ⟨e1,e2,e3⟩;refine⟨e1,fun s c hs=> ?_,e3⟩
  cases hl:look L' s with
  |none=>rfl
  |some ob'=>
   have:=rQ hL s ob' hl;simp only[ρ']at hs;split at hs
   ·rename_i o' ho;rw[ho]at this;obtain⟨ob,h1,_⟩:=this;rw[e2 o' c hs]at h1;cases h1
   ·cases hs
   ·cases hs
 have hQ:∀x' v,okQ m x'=true->aO ρ (aY C0 B w ρ (look L)) (rnQ m x') v->aO ρ' (aY C0 B w ρ' (look L')) x' v:=by
  intro x' v hk hx;unfold okQ at hk;split at hk
  ·unfold rnQ aO at hx;unfold aO;exact bF.mono hCC _ v hx
  ·rename_i s off;split at hk
   ·rename_i o ho;have e:rnQ m (.ptr s off)= .ptr o off:=by simp only[rnQ,ho]
    rw[e]at hx;unfold aO at*;obtain⟨b,c,h1,h2⟩:=hx;exact⟨b,c,by simp only[ρ',ho];exact h1,h2⟩
   ·cases hk
  ·cases hk
 have hQL:∀(l:List AV) (vs:List Value),l.all (okQ m)=true->aZ ρ (aY C0 B w ρ (look L)) (l.map (rnQ m)) vs->aZ ρ' (aY C0 B w ρ' (look L')) l vs:=by
  intro l;induction l with
  |nil=>intro vs _ h;simp only[List.map_nil]at h;unfold aZ at*;exact h
  |cons x l ih=>
   intro vs hk h;simp only[List.map_cons]at h;simp only[List.all_cons,Bool.and_eq_true]at hk;unfold aZ at h|-;obtain⟨v,r,rfl,h1,h2⟩:=h;exact⟨v,r,rfl,hQ x v hk.1 h1,ih r hk.2 h2⟩
 have hrel:∀x' x v,Yl m x' x->aO ρ (aY C0 B w ρ (look L)) x v->aO ρ' (aY C0 B w ρ' (look L')) x' v:=by
  intro x' x v hr hx;unfold Yl at hr;split at hr
  ·unfold aO;trivial
  ·subst hr;unfold aO at*;exact bF.mono hCC _ v hx
  ·subst hr;unfold aO at*;exact hx
  ·subst hr;unfold aO at*;exact hx
  ·split at hr
   ·rename_i o ho;subst hr;unfold aO at*;obtain⟨b,c,h1,h2⟩:=hx;exact⟨b,c,by simp only[ρ',ho];exact h1,h2⟩
   ·exact hr.elim
  ·split at hr
   ·rename_i o ho;subst hr;unfold aO at*;obtain⟨q,c,h1,h2⟩:=hx;exact⟨q,c,by simp only[ρ',ho];exact h1,h2⟩
   ·rename_i ho;obtain⟨rfl,rfl,rfl⟩:=hr;unfold aO at*;exact⟨none,0,by simp only[ρ',ho],.inl ⟨rfl,hx,rfl,rfl⟩⟩
   ·exact hr.elim
  ·obtain⟨rfl,k1,k2⟩:=hr;unfold aO at*;obtain⟨vs1,vs2,h1,h2,h3⟩:=hx;exact⟨vs1,vs2,h1,hQL _ _ k1 h2,hQL _ _ k2 h3⟩
  ·exact hr.elim
 have hrelL:∀(l' l:List AV),Ko m l' l->l'.length=l.length/\∀(i:Nat) x',l'[i]? =some x'->∃x,l[i]? =some x/\Yl m x' x:=by
  intro l';induction l' with
  |nil=>intro l h;cases l with|nil=>exact⟨rfl,fun i x' h=>by simp at h⟩|cons _ _=>exact h.elim
  |cons y l' ih=>
   intro l h;cases l with
   |nil=>exact h.elim
   |cons z l=>
    obtain⟨h1,h2⟩:=h;obtain⟨g1,g2⟩:=ih l h2;refine⟨by simp[g1],fun i x' hi=> ?_⟩
    cases i with
    |zero=>simp at hi;subst hi;exact⟨z,rfl,h1⟩
    |succ i=>simpa using g2 i x' (by simpa using hi)
 obtain⟨hlen,hsl⟩:=hrelL F' F hF;refine⟨⟨ρ',⟨?_,?_⟩,?_,?_⟩,s4,s5,by rw[s6,hlen],s7⟩
 ·intro s ob' hl;have:=rQ hL s ob' hl;split at this
  ·rename_i o ho;obtain⟨ob,h1,h2,h3,h4⟩:=this;replace h4:(∃l:List PV,ob'.cells=l.map .p/\ob.cells=l.map .p)\/Ko m ob'.cells ob.cells:=by
    split at h4
    ·exact .inr h4
    ·exact .inl h4
   obtain⟨q,c,k1,k2⟩:=s1.ob o ob h1;refine⟨q,c,by simp only[ρ',ho];exact k1,?_⟩
   rcases k2 with⟨k2,k3,k4,k5⟩|⟨b,arr,k2,k3,k4⟩
   ·refine .inl ⟨k2,by rw[h3];exact k3,?_,k5⟩
    rcases h4 with⟨l,e1,e2⟩|h4
    ·rw[e1,<-e2];exact k4
    ·rw[k4]at h4;have:=(hrelL _ _ h4).1;exact List.length_eq_zero_iff.1 (by simpa using this)
   ·have hlen2:ob'.cells.length=ob.cells.length:=by
     rcases h4 with⟨l,e1,e2⟩|h4
     ·rw[e1,e2]
     ·exact(hrelL _ _ h4).1
    refine .inr ⟨b,arr,k2,k3,⟨by rw[h2];exact k4.blk,fun hz=>by rw[hlen2];exact k4.box (by rw[<-h3];exact hz),fun hz=>by rw[h3,hlen2];exact k4.row (by rw[<-h3];exact hz),?_⟩⟩
    intro i x' hi;rcases h4 with⟨l,e1,e2⟩|h4
    ·rw[e1,<-e2]at hi;obtain⟨v,g1,g2,g3⟩:=k4.cells i x' hi;refine⟨v,g1,g2,?_⟩;rw[e2,List.getElem?_map]at hi;cases hli:l[i]? with
     |none=>rw[hli]at hi;cases hi
     |some y=>
      rw[hli]at hi;simp only[Option.map_some,Option.some.injEq]at hi;subst hi;exact hrel _ _ v rfl g3
    ·obtain⟨x,hx,hr⟩:=(hrelL _ _ h4).2 i x' hi;obtain⟨v,g1,g2,g3⟩:=k4.cells i x hx;exact⟨v,g1,g2,hrel _ _ v hr g3⟩
  ·rename_i ho;exact⟨none,0,by simp only[ρ',ho],.inl ⟨rfl,this.1,this.2,rfl⟩⟩
  ·exact this.elim
 ·intro s s' o o' b c c' h1 h2 h3 h4;have g1:=rQ hL s o h1;have g2:=rQ hL s' o' h2;simp only[ρ']at h3 h4;split at h3
  ·rename_i x hx;rw[hx]at g1;obtain⟨ob,k1,_⟩:=g1;split at h4
   ·rename_i x' hx';rw[hx']at g2;obtain⟨ob',k2,_⟩:=g2;have:=s1.inj x x' ob ob' b c c' k1 k2 h3 h4;subst this;exact hinj _ _ _ hx hx'
   ·cases h4
   ·cases h4
  ·cases h3
  ·cases h3
 ·intro s hs;cases hr:rF m s with
  |none=>simp only[ρ',hr]
  |some x=>have:=hlt s x hr;omega
 ·intro t;by_cases ht:t<F'.length
  ·obtain⟨x,h1,h2⟩:=hsl t F'[t] (List.getElem?_eq_getElem ht);have:=s3 t;rw[List.getD_eq_getElem?_getD,h1]at this;rw[List.getD_eq_getElem?_getD,List.getElem?_eq_getElem ht];exact hrel _ _ _ h2 this
  ·rw[List.getD_eq_getElem?_getD,List.getElem?_eq_none (by omega)]
   unfold aO;trivial
theorem aMm(l:List PV):(∃k:List PV,List.map AV.p l=List.map AV.p k/\List.map AV.p l=List.map AV.p k)=True:=by
 simp only[eq_iff_iff,iff_true];exact⟨l,rfl,rfl⟩
theorem aIe(l:List PV):(∃k:List PV,List.map AV.p l=List.map AV.p k)=True:=by
 simp only[eq_iff_iff,iff_true];exact⟨l,rfl⟩
def ctr(t:Nat)(F:List AV):Nat:=match F.getD t .any with
 | .p (.int _ k)=>k.toNat
 |_=>0
end Go.Proofs.YtdaeofhdgabhjaaGreat
namespace Go.Proofs.YtdaeofhdgabhjaaGreat
open Go.RowKit
theorem GD:(∀{α:Type} (a:α) (l:List α) (n:Nat) (d:α),(a::l).getD (n+1) d=l.getD n d)/\(∀{α:Type} (a:α) (l:List α) (d:α),(a::l).getD 0 d=a):=⟨fun _ _ _ _=>rfl,fun _ _ _=>rfl⟩
theorem GS:(∀{α:Type} (a:α) (l:List α) (n:Nat) (d:α),(a::l).set (n+1) d=a::l.set n d)/\(∀{α:Type} (a:α) (l:List α) (d:α),(a::l).set 0 d=d::l)/\(∀{α:Type} (a:α) (l m:List α),(a::l)++m=a::(l++m))/\(∀{α:Type} (m:List α),([] :List α)++m=m):=⟨fun _ _ _ _=>rfl,fun _ _ _=>rfl,fun _ _ _=>rfl,fun _=>rfl⟩
theorem LA:(∀{α:Type} {_h:Decidable True} (t e:α),ite True t e=t)/\(∀{α:Type} {_h:Decidable False} (t e:α),ite False t e=e)/\(∀{α:Type} (a:α),(a=a)=True)/\
  (∀{α:Type} (a b:α),(some a=some b)=(a=b))/\(∀{α:Type} {p:α->Prop} {a':α},(∃a,a'=a/\p a)↔p a')/\(∀{α:Type} {p:α->Prop} {a':α},(∃a,a=a'/\p a)↔p a')/\
  (∀(p:Prop),(True/\p)=p)/\(∀(p:Prop),(p/\True)=p)/\((false=true)=False)/\(∀n:Nat,n+0=n)/\(∀n:Nat,0+n=n)/\
  (∀{α:Type} {p:α->Prop} {b:Prop},(∃x,b/\p x)↔b/\∃x,p x)/\(∀{α:Type} {p:α->Prop} {b:Prop},(∃x,p x/\b)↔(∃x,p x)/\b):=
 ⟨fun{_} {h} _ _=>by cases h<;>simp,fun{_} {h} _ _=>by cases h<;>simp,fun _=>by simp,fun _ _=>by simp,by simp,by simp,by simp,by simp,by simp,by simp,by simp,by simp,by simp⟩
theorem LB:(∀{α:Type} (a:α) (l:List α),(a::l)[0]? =some a)/\(∀{α:Type} (a:α) (l:List α) (i:Nat),(a::l)[i+1]? =l[i]?)/\(∀{α β:Type} (f:α->β) (a:α) (l:List α),List.map f (a::l)=f a::List.map f l)/\(∀{α β:Type} (f:α->β),List.map f [] =[])/\
  (∀{α:Type} (a:α) (l:List α),(a::l).length=l.length+1)/\(∀{α:Type},([] :List α).length=0)/\(∀{α:Type} (a:α) (l:List α) (i:Nat),List.take (i+1) (a::l)=a::List.take i l)/\(∀{α:Type} (l:List α),List.take 0 l=[])/\
  (∀{α:Type} (a:α) (l:List α) (i:Nat),List.drop (i+1) (a::l)=List.drop i l)/\(∀{α:Type} (l:List α),List.drop 0 l=l)/\(∀{α:Type} (a:α) (l m:List α),(a::l)++m=a::(l++m))/\(∀{α:Type} (m:List α),([] :List α)++m=m)/\
  (∀{α β:Type} (f:α->β) (a:α),Option.map f (some a)=some (f a))/\(∀{α β:Type} (f:α->β),Option.map f none=none)/\(∀{α:Type} (i:Nat),List.take i ([] :List α)=[]):=
 ⟨fun _ _=>rfl,fun _ _ _=>rfl,fun _ _ _=>rfl,fun _=>rfl,fun _ _=>rfl,rfl,fun _ _ _=>rfl,fun _=>rfl,fun _ _ _=>rfl,fun _=>rfl,fun _ _ _=>rfl,fun _=>rfl,fun _ _=>rfl,fun _=>rfl,fun i=>by simp⟩
theorem LC:(∀{α:Type} (a:α) (l:List α) (n:Nat) (d:α),(a::l).set (n+1) d=a::l.set n d)/\(∀{α:Type} (a:α) (l:List α) (d:α),(a::l).set 0 d=d::l)/\(∀{α:Type} (l:List α) (n:Nat) (d:α),(l.set n d).length=l.length)/\(∀n:Nat,0*n=0)/\(∀n:Nat,1*n=n)/\(∀n:Nat,n*1=n)/\(∀n:Nat,(n<=n)=True)/\(∀{α:Type} (l:List α),l++[] =l)/\(∀{α:Type} (a b:α),(a≠b)=¬(a=b))/\((¬False)=True)/\(∀(p:Prop),(p/\p)=p)/\(∀{α:Type} (a:α),(some a).isSome=true):=
 ⟨fun _ _ _ _=>rfl,fun _ _ _=>rfl,fun _ _ _=>by simp,by simp,by simp,by simp,by simp,by simp,fun _ _=>rfl,by simp,by simp,fun _=>rfl⟩
theorem LI:(Int.toNat 0=0)/\(Int.toNat 1=1)/\(∀n:Nat,((n:Int)).toNat=n)/\(∀n:Nat,((0:Int)<=(n:Int))=True)/\(∀n:Nat,Int.ofNat n=(n:Int)):=
 ⟨rfl,rfl,fun _=>by simp,fun _=>by simp,fun _=>rfl⟩
section
variable {P:Program} {N:Nat} {ds:List (Option Nat)} {K:List AV->Sto->nA->Prop} {o:Oper} {rest:List Oper} {i:Nat} {F F':List AV} {L L':Sto} {log:nA} {r:AV} {R:List Nat} {W:Sto} {j:Nat} {b:Bool} {x:Operand}
theorem st(n i':Nat)(hg:o.guard=none)(hn:N+i=n)(hi:i+1=i')(h1:AOp P n o (eG F) (look L) (fun r' R' W'=>r'=r/\R'=R/\W'=W))(hF:iX F o.dst r=F')(hL:W++L=L')(h2:fE P N ds rest i' F' L' (log++[(R,W.map (·.1))]) K):fE P N ds (o::rest) i F L log K:=wD hg hn hi h1 hF hL rfl h2
theorem stg(n i':Nat)(hg:o.guard=some (j,b))(hb:gdA ds F j=some (some b))(hn:N+i=n)(hi:i+1=i')(h1:AOp P n o (eG F) (look L) (fun r' R' W'=>r'=r/\R'=R/\W'=W))(hF:iX F o.dst r=F')(hL:W++L=L')(h2:fE P N ds rest i' F' L' (log++[(R,W.map (·.1))]) K):fE P N ds (o::rest) i F L log K:=qV hg hb hn hi h1 hF hL rfl h2
theorem sp(i':Nat)(hg:o.guard=none)(hi:i+1=i')(h1:AOp P (N+i) o (eG F) (look L) (fun r' R' W'=>r'=r/\R'=R/\W'=[]))(hF:iX F o.dst r=F')(h2:fE P N ds rest i' F' L (log++[(R,[])]) K):fE P N ds (o::rest) i F L log K:=wD hg rfl hi h1 hF rfl rfl h2
theorem spg(i':Nat)(hg:o.guard=some (j,b))(hb:gdA ds F j=some (some b))(hi:i+1=i')(h1:AOp P (N+i) o (eG F) (look L) (fun r' R' W'=>r'=r/\R'=R/\W'=[]))(hF:iX F o.dst r=F')(h2:fE P N ds rest i' F' L (log++[(R,[])]) K):fE P N ds (o::rest) i F L log K:=qV hg hb rfl hi h1 hF rfl rfl h2
theorem aIT{n:Nat}{E:Operand->AV}{σ:Nat->Option Ob}{Q:Res}(ho:o.op= .move x\/o.op= .assign x)(h:Q (E x) [] []):AOp P n o E σ Q:=by
 unfold AOp;rcases ho with h|h<;>rw[h]
 ·assumption
 ·exact Or.inl (by assumption)
theorem mv(i':Nat)(hg:o.guard=none)(ho:o.op= .move x\/o.op= .assign x)(hi:i+1=i')(hr:eG F x=r)(hF:iX F o.dst r=F')(h2:fE P N ds rest i' F' L (log++[([],[])]) K):fE P N ds (o::rest) i F L log K:=wD (R:=[]) (W:=[]) hg rfl hi (aIT ho ⟨hr,rfl,rfl⟩) hF rfl rfl h2
end
def an:Nat->List AV->List AV
 |0,l=>l
 |n+1,l=> .any::an n l
theorem RL:(∀{α:Type} {_h:Decidable True} (t e:α),ite True t e=t)/\(∀{α:Type} {_h:Decidable False} (t e:α),ite False t e=e)/\(∀{α:Type} (a b:α),(some a=some b)=(a=b))/\(∀{α:Type} {p:α->Prop} {a':α},(∃a,a'=a/\p a)↔p a')/\(∀(p:Prop),(True/\p)=p)/\(∀(p:Prop),(p/\True)=p)/\(∀(p:Prop),(p/\p)=p)/\(∀(p:Prop),(p\/True)=True)/\(∀(p:Prop),(True\/p)=True)/\(∀{α:Type} (a b:α),(a≠b)=¬(a=b))/\((¬False)=True)/\(∀{α β:Type} (f:α->β),List.map f [] =[])/\(∀l:List PV,(∃k:List PV,List.map AV.p l=List.map AV.p k/\List.map AV.p l=List.map AV.p k)=True)/\(∀l:List PV,(∃k:List PV,List.map AV.p l=List.map AV.p k)=True):=
 ⟨fun{_} {h} _ _=>by cases h<;>simp,fun{_} {h} _ _=>by cases h<;>simp,fun _ _=>by simp,by simp,by simp,by simp,by simp,by simp,by simp,fun _ _=>rfl,by simp,fun _=>rfl,aMm,aIe⟩
theorem BI:(∀a b:Bool,((a&&b)=true)=(a=true/\b=true))/\(∀a b:Bool,((a||b)=true)=(a=true\/b=true))/\(∀a b:Bool,((a&&b)=false)=(a=false\/b=false))/\(∀a b:Bool,((a||b)=false)=(a=false/\b=false))/\(∀b:Bool,((!b)=true)=(b=false))/\(∀b:Bool,((!b)=false)=(b=true))/\(∀(p:Prop) [Decidable p],(decide p=true)=p)/\(∀(p:Prop) [Decidable p],(decide p=false)=¬p)/\(∀{α:Type} [BEq α] [LawfulBEq α] (a b:α),((a==b)=true)=(a=b))/\(∀{α:Type} [BEq α] [LawfulBEq α] (a b:α),((a==b)=false)=(a≠b))/\(∀{α:Type} [BEq α] [LawfulBEq α] (a b:α),((a !=b)=true)=(a≠b))/\(∀{α:Type} [BEq α] [LawfulBEq α] (a b:α),((a !=b)=false)=(a=b)):=
 ⟨by simp,by simp,by simp,by simp,by simp,by simp,fun p _=>by simp,fun p _=>by simp,fun a b=>by simp,fun a b=>by simp,fun a b=>by simp,fun a b=>by simp⟩
theorem T1:(aU Tryz.prog 1=1)/\(iT Tryz.prog 1=false)/\(tok Tryz.prog 1=true)/\((Tryz.prog.info? 1).isSome=true)/\((Tryz.prog.underlying 1).isSome=true)/\(gD Tryz.prog 1=some [.any])/\(gI Tryz.prog 1=true)/\(oF Tryz.prog 1=true):=⟨aFP,aIP,aIN,aFQ,aIM,aFO,aFN,aIO⟩
theorem T2:(aU Tryz.prog 2=1)/\(iT Tryz.prog 2=false)/\(tok Tryz.prog 2=true)/\((Tryz.prog.info? 2).isSome=true)/\((Tryz.prog.underlying 2).isSome=true)/\(Sj Tryz.prog 2=some .i64)/\(gD Tryz.prog 2=some [.p (.int .i64 0)])/\(gI Tryz.prog 2=true)/\(oF Tryz.prog 2=true):=⟨aFz,aIH,aIE,aFA,aID,aIF,aFy,aFx,aIG⟩
theorem T3:(aU Tryz.prog 3=1)/\(iT Tryz.prog 3=false)/\(tok Tryz.prog 3=true)/\((Tryz.prog.info? 3).isSome=true)/\((Tryz.prog.underlying 3).isSome=true)/\(Sj Tryz.prog 3=some .i64)/\(gD Tryz.prog 3=some [.p (.int .i64 0)])/\(gI Tryz.prog 3=true)/\(oF Tryz.prog 3=true):=⟨aFr,aIC,aIz,aFs,aIy,aIA,aFq,aFp,aIB⟩
theorem T23:(aU Tryz.prog 23=1)/\(iT Tryz.prog 23=false)/\(tok Tryz.prog 23=true)/\((Tryz.prog.info? 23).isSome=true)/\((Tryz.prog.underlying 23).isSome=true)/\(fJ Tryz.prog 23=some 44)/\(gD Tryz.prog 23=some [.nil])/\(gI Tryz.prog 23=true)/\(oF Tryz.prog 23=true):=⟨aDC,aFM,aFK,aDD,aFJ,aDE,aDB,aDA,aFL⟩
theorem T24:(aU Tryz.prog 24=1)/\(iT Tryz.prog 24=false)/\(tok Tryz.prog 24=true)/\((Tryz.prog.info? 24).isSome=true)/\((Tryz.prog.underlying 24).isSome=true)/\(fJ Tryz.prog 24=some 23)/\(gD Tryz.prog 24=some [.nil])/\(gI Tryz.prog 24=true)/\(oF Tryz.prog 24=true):=⟨aDx,aFI,aFG,aDy,aFF,aDz,aDw,aDv,aFH⟩
theorem T26:(aU Tryz.prog 26=2)/\(iT Tryz.prog 26=true)/\(tok Tryz.prog 26=true)/\((Tryz.prog.info? 26).isSome=true)/\((Tryz.prog.underlying 26).isSome=true)/\(iZ Tryz.prog 26 0=some (0,1))/\(sB Tryz.prog 26 0=some (0,23))/\(iZ Tryz.prog 26 1=some (1,1))/\(sB Tryz.prog 26 1=some (1,24))/\(kU Tryz.prog 26=true)/\(gD Tryz.prog 26=some [.nil,.nil])/\(gI Tryz.prog 26=true)/\(oF Tryz.prog 26=true):=⟨aDt,aFE,aFC,aDu,aFB,aIJ,aIL,aII,aIK,aAU,aDs,aDr,aFD⟩
theorem T32:(aU Tryz.prog 32=1)/\(iT Tryz.prog 32=false)/\(tok Tryz.prog 32=true)/\((Tryz.prog.info? 32).isSome=true)/\((Tryz.prog.underlying 32).isSome=true)/\(fJ Tryz.prog 32=some 46)/\(gD Tryz.prog 32=some [.nil])/\(gI Tryz.prog 32=true)/\(oF Tryz.prog 32=true):=⟨aDo,aFw,aFu,aDp,aFt,aDq,aDn,aDm,aFv⟩
theorem T44:(aU Tryz.prog 44=2)/\(iT Tryz.prog 44=true)/\(tok Tryz.prog 44=true)/\((Tryz.prog.info? 44).isSome=true)/\((Tryz.prog.underlying 44).isSome=true)/\(iZ Tryz.prog 44 0=some (0,1))/\(sB Tryz.prog 44 0=some (0,3))/\(iZ Tryz.prog 44 1=some (1,1))/\(sB Tryz.prog 44 1=some (1,3))/\(kU Tryz.prog 44=true)/\(gD Tryz.prog 44=some [.p (.int .i64 0),.p (.int .i64 0)])/\(gI Tryz.prog 44=true)/\(oF Tryz.prog 44=true):=⟨aDk,aFo,aFm,aDl,aFl,aIv,aIx,aIu,aIw,aAT,aDj,aDi,aFn⟩
theorem T46:(aU Tryz.prog 46=4)/\(iT Tryz.prog 46=true)/\(tok Tryz.prog 46=true)/\((Tryz.prog.info? 46).isSome=true)/\((Tryz.prog.underlying 46).isSome=true)/\(iZ Tryz.prog 46 0=some (0,2))/\(sB Tryz.prog 46 0=some (0,44))/\(iZ Tryz.prog 46 1=some (2,2))/\(sB Tryz.prog 46 1=some (2,44))/\(kU Tryz.prog 46=true)/\(gD Tryz.prog 46=some [.p (.int .i64 0),.p (.int .i64 0),.p (.int .i64 0),.p (.int .i64 0)])/\(gI Tryz.prog 46=true)/\(oF Tryz.prog 46=true):=⟨aDg,aFk,aFi,aDh,aFh,aIr,aIt,aIq,aIs,aAS,aDf,aDe,aFj⟩
theorem T65:(aU Tryz.prog 65=1)/\(iT Tryz.prog 65=false)/\(tok Tryz.prog 65=true)/\((Tryz.prog.info? 65).isSome=true)/\((Tryz.prog.underlying 65).isSome=true)/\(fJ Tryz.prog 65=some 67)/\(gD Tryz.prog 65=some [.nil])/\(gI Tryz.prog 65=true)/\(oF Tryz.prog 65=true):=⟨aDb,aFg,aFe,aDc,aFd,aDd,aDa,aC9,aFf⟩
theorem T67:(aU Tryz.prog 67=2)/\(iT Tryz.prog 67=true)/\(tok Tryz.prog 67=true)/\((Tryz.prog.info? 67).isSome=true)/\((Tryz.prog.underlying 67).isSome=true)/\(Hq Tryz.prog 67=some (2,3))/\(iZ Tryz.prog 67 0=some (0,1))/\(iZ Tryz.prog 67 1=some (1,1))/\(kU Tryz.prog 67=true)/\(gD Tryz.prog 67=some [.p (.int .i64 0),.p (.int .i64 0)])/\(gI Tryz.prog 67=true)/\(oF Tryz.prog 67=true):=⟨aC7,aFc,aE9,aC8,aE8,aFa,aIp,aIo,aAR,aC6,aC5,aFb⟩
end Go.Proofs.YtdaeofhdgabhjaaGreat
namespace Go.Proofs.YtdaeofhdgabhjaaGreat
open Go.RowKit
theorem oJ{k:IntKind}{a b:Int}(h:a=b):Ending.returned (.int k a)= .returned (.int k b):=by rw[h]
theorem aAl(x:Int)(w:World):Calls Tryz.prog 184 #[.int .i64 x] w fun e w'=>e= .returned (.bool false)/\w=w':=by
 go_enter Tryz.func184,Tryz.ntmps184
 go_wp2
 go_ret
 exact⟨rfl,rfl⟩
def fV(x y:Int):Int:=if x<y then-1 else if y<x then 1 else 0
theorem aES{x y:Int}(h:x<y):fV x y= -1:=if_pos h
theorem aET{x y:Int}(h:y<x):fV x y=1:=by unfold fV;rw[if_neg (by omega),if_pos h]
theorem aEU{x y:Int}(h:x=y):fV x y=0:=by unfold fV;rw[if_neg (by omega),if_neg (by omega)]
theorem Yf(x y:Int)(w:World):Calls Tryz.prog 137 #[.int .i64 x,.int .i64 y] w fun e w'=>e= .returned (.int .i64 (fV x y))/\w=w':=by
 go_enter Tryz.func137,Tryz.ntmps137
 go_wp2_with (go_at_call 184;refine(aAl _ _).mono ?_;rintro e w' ⟨rfl,rfl⟩)
 ·have h:x<y:=by assumption
  go_ret
  exact⟨oJ (aES h).symm,rfl⟩
 ·have h:y<x:=by assumption
  go_ret
  exact⟨oJ (aET h).symm,rfl⟩
 ·go_ret
  exact⟨oJ (aEU (by omega)).symm,rfl⟩
def orI(p q:Int):Int:=if p=0 then q else p
set_option maxHeartbeats 400000 in
theorem aHZ(p q:Int)(b:Nat)(w:World)(h0:w.cell? ⟨b,0,none⟩=some (.int .i64 p))(h1:w.cell? ⟨b,1,none⟩=some (.int .i64 q)):
  Calls Tryz.prog 148 #[.slice (some ⟨b,0,none⟩) 2 2] w fun e w'=>e= .returned (.int .i64 (orI p q))/\w=w':=by
 by_cases hp:p=0
 ·subst hp;by_cases hq:q=0
  ·subst hq
   go_enter Tryz.func148,Tryz.ntmps148
   go_wp2
   go_loop [5,8] (fun _ i=>∃k:Nat,k<=2/\i= .int .i64 k) (fun _ i=>2-(intOf i).toNat)
   case atStart=>exact⟨0,by omega,rfl⟩
   case round=>
    obtain⟨k,hk,rfl⟩:=hrel;match k,hk with
    |0,_=>
     go_wp2
     go_round
     case rel=>exact⟨1,by omega,by go_num⟩
     case measure=>simp[intOf]
    |1,_=>
     go_wp2
     go_round
     case rel=>exact⟨2,by omega,by go_num⟩
     case measure=>simp[intOf]
    |2,_=>
     go_wp2
     go_ret
     exact⟨rfl,rfl⟩
  ·have hq1:(q !=0)=true:=by simpa using hq
   go_enter Tryz.func148,Tryz.ntmps148
   go_wp2
   go_loop [5,8] (fun _ i=>∃k:Nat,k<=1/\i= .int .i64 k) (fun _ i=>2-(intOf i).toNat)
   case atStart=>exact⟨0,by omega,rfl⟩
   case round=>
    obtain⟨k,hk,rfl⟩:=hrel;match k,hk with
    |0,_=>
     go_wp2
     go_round
     case rel=>exact⟨1,by omega,by go_num⟩
     case measure=>simp[intOf]
    |1,_=>
     go_wp2
     go_ret
     exact⟨rfl,rfl⟩
 ·have hp1:(p !=0)=true:=by simpa using hp
  go_enter Tryz.func148,Tryz.ntmps148
  go_wp2
  go_loop [5,8] (fun _ i=>i= .int .i64 0) (fun _ i=>2-(intOf i).toNat)
  case atStart=>rfl
  case round=>
   subst hrel
   go_wp2
   go_ret
   exact⟨oJ (by unfold orI;rw[if_neg hp]),rfl⟩
def oH(ax ay bx b_y:Int):Int:=orI (fV ay b_y) (fV ax bx)
end Go.Proofs.YtdaeofhdgabhjaaGreat
namespace Go.Proofs.YtdaeofhdgabhjaaGreat
open Go.RowKit
theorem aMn(ax ay bx b_y:Int)(w:World):Sem.run Tryz.prog (binOp .eql 44 (.agg #[.int .i64 ax,.int .i64 ay]) (.agg #[.int .i64 bx,.int .i64 b_y])) w= .ok (.bool (ax==bx&&ay==b_y)) w:=by
 have u3:=Tryz.underlying3;have a3:=Tryz.isAgg3;have z3:=Tryz.sizeOf3;have hS:Tryz.prog.underlying 44=some (.struct (Tryz.prog.fieldsOf 44)):=by kernel_rfl
 have hp:Tryz.prog.stoodInHeld 44=false:=by kernel_rfl
 rw[run_eql_struct,show(10000:Nat)=9999+1 from rfl,run_equalIn_agg w 9999 44 _ _ hS hp]
 simp only[Program.fieldsOf,Tryz.underlying44]
 go_simp
 by_cases h1:ax=bx<;>by_cases h2:ay=b_y<;>simp[h1,h2]
end Go.Proofs.YtdaeofhdgabhjaaGreat
