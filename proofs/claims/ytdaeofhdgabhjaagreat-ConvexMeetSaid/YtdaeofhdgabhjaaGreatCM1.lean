/- What the statements about triangulations stand on: contracts of functions, plain laws. Part 1 of 5, no condition of its own. (N1 E0 E5 N2 N3 E11 E12 N4 N5 N6 N7 E15 N19 N8 N9 N10 N20 N21) -/
import Derived.WalkKit
import Derived.Below
import Derived.Deep.MidRow
import Derived.Test.YtdaeofhdgabhjaaGreatProg
import Derived.WalkSpells
import Derived.WalkLawsBesides
import Derived.Lib.Hide
import Derived.Deep.QuietTactic
import Derived.BigQuiet
import Derived.WalkSmall
import Derived.Deep.RegionHeld3
import Derived.LoopTactic
import Derived.Orders
import Derived.Deep.AppendLies
import Derived.Laws.OwnMore
import Derived.Maps.AppendAt
import Derived.Laws.Small
import Derived.Scope
namespace Go.Proofs.YtdaeofhdgabhjaaGreat
open Go.RowKit
inductive PV where
 |int (k:IntKind) (n:Int)
 |bool (b:Bool)
 |str (s:ByteArray)
 |agg (l:List PV)
 |tup (l:List PV)
 |sl (n:Nat) (cells:List PV)
 |pro (cells:List PV) (off:Nat)
 |fn (f:Fn) (first caps:List PV)
 |junk
deriving Inhabited
abbrev bI:=Nat->Nat->Value->Prop
def lT(vs:List Value):Prop:=∀u∈vs,u.oneCell'=true
mutual
def aU(C:bI):PV->Value->Prop
 | .int k n,v=>v= .int k n
 | .bool b,v=>v= .bool b
 | .str s,v=>v= .string s
 | .agg l,v=>∃vs:List Value,v= .agg vs.toArray/\bO C l vs/\lT vs
 | .tup l,v=>∃vs:List Value,v= .tuple vs.toArray/\bO C l vs
 | .sl n cs,v=>∃a c,v= .slice a n c/\n<=c/\(a=none->c=0/\cs=[])/\∀ad,a=some ad->(0<n->ad.spot=none)/\dS C cs ad.block ad.off
 | .pro cs off,v=>∃b o,v= .pointer (some ⟨b,o+off,none⟩)/\dS C cs b o
 | .fn f l1 l2,v=>∃vs1 vs2:List Value,v= .func f vs1.toArray vs2.toArray/\bO C l1 vs1/\bO C l2 vs2
 | .junk,_=>True
def bO(C:bI):List PV->List Value->Prop
 |[],vs=>vs=[]
 |x::l,vs=>∃v r,vs=v::r/\aU C x v/\bO C l r
def dS(C:bI):List PV->Nat->Nat->Prop
 |[],_,_=>True
 |x::l,b,o=>(∃v,C b o v/\v.oneCell'=true/\aU C x v)/\dS C l b (o+1)
end
section
variable {C C':bI}
mutual
theorem aU.mono(h:∀b o v,C b o v->C' b o v):∀(x:PV) (v:Value),aU C x v->aU C' x v
 | .int ..,v,hx=>by unfold aU at*;exact hx
 | .bool ..,v,hx=>by unfold aU at*;exact hx
 | .str ..,v,hx=>by unfold aU at*;exact hx
 | .agg l,v,hx=>by unfold aU at*;obtain⟨vs,h1,h2,h3⟩:=hx;exact⟨vs,h1,bO.mono h l vs h2,h3⟩
 | .tup l,v,hx=>by unfold aU at*;obtain⟨vs,h1,h2⟩:=hx;exact⟨vs,h1,bO.mono h l vs h2⟩
 | .sl n cs,v,hx=>by
   unfold aU at*;obtain⟨a,c,h1,h2,h3,h4⟩:=hx;exact⟨a,c,h1,h2,h3,fun ad e=>⟨(h4 ad e).1,dS.mono h cs _ _ (h4 ad e).2⟩⟩
 | .pro cs off,v,hx=>by unfold aU at*;obtain⟨b,o,h1,h2⟩:=hx;exact⟨b,o,h1,dS.mono h cs _ _ h2⟩
 | .fn f l1 l2,v,hx=>by unfold aU at*;obtain⟨a,b,h1,h2,h3⟩:=hx;exact⟨a,b,h1,bO.mono h l1 a h2,bO.mono h l2 b h3⟩
 | .junk,v,hx=>by unfold aU;trivial
theorem bO.mono(h:∀b o v,C b o v->C' b o v):∀(l:List PV) (vs:List Value),bO C l vs->bO C' l vs
 |[],vs,hx=>by unfold bO at*;exact hx
 |x::l,vs,hx=>by unfold bO at*;obtain⟨v,r,h1,h2,h3⟩:=hx;exact⟨v,r,h1,aU.mono h x v h2,bO.mono h l r h3⟩
theorem dS.mono(h:∀b o v,C b o v->C' b o v):∀(l:List PV) (b o:Nat),dS C l b o->dS C' l b o
 |[],b,o,hx=>by unfold dS;trivial
 |x::l,b,o,hx=>by
  unfold dS at*;obtain⟨⟨v,h1,h2,h3⟩,h4⟩:=hx;exact⟨⟨v,h _ _ _ h1,h2,aU.mono h x v h3⟩,dS.mono h l b (o+1) h4⟩
end
theorem bO.length:∀(l:List PV) (vs:List Value),bO C l vs->vs.length=l.length
 |[],vs,h=>by unfold bO at h;subst h;rfl
 |x::l,vs,h=>by unfold bO at h;obtain⟨v,r,rfl,_,h3⟩:=h;simp[bO.length l r h3]
theorem bO.get:∀(l:List PV) (vs:List Value),bO C l vs->∀(i:Nat) x,l[i]? =some x->∃v,vs[i]? =some v/\aU C x v
 |[],vs,h,i,x,hi=>by simp at hi
 |y::l,vs,h,0,x,hi=>by unfold bO at h;obtain⟨v,r,rfl,h2,h3⟩:=h;simp at hi;subst hi;exact⟨v,rfl,h2⟩
 |y::l,vs,h,i+1,x,hi=>by
  unfold bO at h;obtain⟨v,r,rfl,h2,h3⟩:=h;exact bO.get l r h3 i x (by simpa using hi)
theorem bO.of:∀(l:List PV) (vs:List Value),vs.length=l.length->(∀(i:Nat) x,l[i]? =some x->∃v,vs[i]? =some v/\aU C x v)->bO C l vs
 |[],vs,hl,h=>by unfold bO;exact List.length_eq_zero_iff.1 hl
 |y::l,[],hl,h=>by simp at hl
 |y::l,v::r,hl,h=>by
  unfold bO;obtain⟨v',h1,h2⟩:=h 0 y rfl;simp at h1;subst h1;exact⟨v,r,rfl,h2,bO.of l r (by simpa using hl) (fun i x hi=>h (i+1) x (by simpa using hi))⟩
theorem dS.get:∀(l:List PV) (b o:Nat),dS C l b o->∀(i:Nat) x,l[i]? =some x->∃v,C b (o+i) v/\v.oneCell'=true/\aU C x v
 |[],b,o,h,i,x,hi=>by simp at hi
 |y::l,b,o,h,0,x,hi=>by unfold dS at h;simp at hi;subst hi;exact h.1
 |y::l,b,o,h,i+1,x,hi=>by
  unfold dS at h;have:=dS.get l b (o+1) h.2 i x (by simpa using hi)
  rwa[show o+1+i=o+(i+1) by omega]at this
theorem dS.of:∀(l:List PV) (b o:Nat),(∀(i:Nat) x,l[i]? =some x->∃v,C b (o+i) v/\v.oneCell'=true/\aU C x v)->dS C l b o
 |[],b,o,h=>by unfold dS;trivial
 |y::l,b,o,h=>by
  unfold dS;refine⟨h 0 y rfl,dS.of l b (o+1) (fun i x hi=> ?_)⟩
  have:=h (i+1) x (by simpa using hi)
  rwa[show o+(i+1)=o+1+i by omega]at this
theorem dS.drop{l:List PV}{b o:Nat}(h:dS C l b o)(k:Nat):dS C (l.drop k) b (o+k):=
 dS.of _ _ _ fun i x hi=>by
  rw[List.getElem?_drop]at hi;have:=dS.get l b o h (k+i) x hi;rwa[show o+(k+i)=o+k+i by omega]at this
theorem dS.take{l:List PV}{b o:Nat}(h:dS C l b o)(k:Nat):dS C (l.take k) b o:=
 dS.of _ _ _ fun i x hi=>by
  rw[List.getElem?_take]at hi;split at hi
  ·exact dS.get l b o h i x hi
  ·cases hi
end
inductive AV where
 |any
 |undef
 |nil
 |p (x:PV)
 |ptr (s off:Nat)
 |own (s o n:Nat)
 |agg (l:List AV)
 |tup (l:List AV)
 |fn (f:Fn) (first caps:List AV)
 |mp (s:Nat)
deriving Inhabited
abbrev Ren:=Nat->Option (Option Nat×Nat)
mutual
def aE(ρ:Ren)(C:bI):AV->Value->Prop
 | .any,_=>True
 | .undef,v=>v=Go.undef
 | .nil,v=>v= .slice none 0 0
 | .p x,v=>aU C x v
 | .ptr s off,v=>∃b c,ρ s=some (some b,c)/\v= .pointer (some ⟨b,off,none⟩)
 | .own s o n,v=>∃q c,ρ s=some (q,c)/\((q=none/\v= .slice none 0 0/\n=0/\o=0)\/∃b o' c',q=some b/\v= .slice (some ⟨b,o',none⟩) n c'/\n<=c'/\(n≠0->o'=o)/\(o=0->o'=0/\c'=c))
 | .agg l,v=>∃vs:List Value,v= .agg vs.toArray/\aP ρ C l vs/\lT vs
 | .tup l,v=>∃vs:List Value,v= .tuple vs.toArray/\aP ρ C l vs
 | .fn f l1 l2,v=>∃vs1 vs2:List Value,v= .func f vs1.toArray vs2.toArray/\aP ρ C l1 vs1/\aP ρ C l2 vs2
 | .mp s,v=>∃c,ρ s=some (none,c)/\v= .map (some c)
def aP(ρ:Ren)(C:bI):List AV->List Value->Prop
 |[],vs=>vs=[]
 |x::l,vs=>∃v r,vs=v::r/\aE ρ C x v/\aP ρ C l r
end
section
variable {C C':bI} {ρ ρ':Ren}
mutual
theorem aE.mono(hr:∀s q,ρ s=some q->ρ' s=some q)(h:∀b o v,C b o v->C' b o v):∀(x:AV) (v:Value),aE ρ C x v->aE ρ' C' x v
 | .any,v,hx=>by unfold aE;trivial
 | .undef,v,hx=>by unfold aE at*;exact hx
 | .nil,v,hx=>by unfold aE at*;exact hx
 | .p x,v,hx=>by unfold aE at*;exact aU.mono h x v hx
 | .ptr ..,v,hx=>by unfold aE at*;obtain⟨b,c,h1,h2⟩:=hx;exact⟨b,c,hr _ _ h1,h2⟩
 | .own ..,v,hx=>by unfold aE at*;obtain⟨q,c,h1,h2⟩:=hx;exact⟨q,c,hr _ _ h1,h2⟩
 | .agg l,v,hx=>by unfold aE at*;obtain⟨vs,h1,h2,h3⟩:=hx;exact⟨vs,h1,aP.mono hr h l vs h2,h3⟩
 | .tup l,v,hx=>by unfold aE at*;obtain⟨vs,h1,h2⟩:=hx;exact⟨vs,h1,aP.mono hr h l vs h2⟩
 | .fn f l1 l2,v,hx=>by unfold aE at*;obtain⟨a,b,h1,h2,h3⟩:=hx;exact⟨a,b,h1,aP.mono hr h l1 a h2,aP.mono hr h l2 b h3⟩
 | .mp s,v,hx=>by unfold aE at*;obtain⟨c,h1,h2⟩:=hx;exact⟨c,hr _ _ h1,h2⟩
theorem aP.mono(hr:∀s q,ρ s=some q->ρ' s=some q)(h:∀b o v,C b o v->C' b o v):∀(l:List AV) (vs:List Value),aP ρ C l vs->aP ρ' C' l vs
 |[],vs,hx=>by unfold aP at*;exact hx
 |x::l,vs,hx=>by unfold aP at*;obtain⟨v,r,h1,h2,h3⟩:=hx;exact⟨v,r,h1,aE.mono hr h x v h2,aP.mono hr h l r h3⟩
end
theorem aP.length:∀(l:List AV) (vs:List Value),aP ρ C l vs->vs.length=l.length
 |[],vs,h=>by unfold aP at h;subst h;rfl
 |x::l,vs,h=>by unfold aP at h;obtain⟨v,r,rfl,_,h3⟩:=h;simp[aP.length l r h3]
theorem aP.get:∀(l:List AV) (vs:List Value),aP ρ C l vs->∀(i:Nat) x,l[i]? =some x->∃v,vs[i]? =some v/\aE ρ C x v
 |[],vs,h,i,x,hi=>by simp at hi
 |y::l,vs,h,0,x,hi=>by unfold aP at h;obtain⟨v,r,rfl,h2,h3⟩:=h;simp at hi;subst hi;exact⟨v,rfl,h2⟩
 |y::l,vs,h,i+1,x,hi=>by
  unfold aP at h;obtain⟨v,r,rfl,h2,h3⟩:=h;exact aP.get l r h3 i x (by simpa using hi)
theorem aP.of:∀(l:List AV) (vs:List Value),vs.length=l.length->(∀(i:Nat) x,l[i]? =some x->∃v,vs[i]? =some v/\aE ρ C x v)->aP ρ C l vs
 |[],vs,hl,h=>by unfold aP;exact List.length_eq_zero_iff.1 hl
 |y::l,[],hl,h=>by simp at hl
 |y::l,v::r,hl,h=>by
  unfold aP;obtain⟨v',h1,h2⟩:=h 0 y rfl;simp at h1;subst h1;exact⟨v,r,rfl,h2,aP.of l r (by simpa using hl) (fun i x hi=>h (i+1) x (by simpa using hi))⟩
end
structure Ob where
 ty:TypeId
 esz:Nat
 cells:List AV
deriving Inhabited
def aJ(C0:bI)(B:Nat)(w:World)(ρ:Ren)(g:Nat->Option Ob):bI:=fun b o v=>w.cell? ⟨b,o,none⟩=some v/\(∀s c,ρ s=some (some b,c)->g s=none)/\(B<=b\/C0 b o v)
structure ObRep(ρ:Ren)(C:bI)(w:World)(b c:Nat)(ob:Ob)(arr:Array Value):Prop where
 blk:w.heap[b]? =some (.cells arr ob.ty (0,0))
 box:ob.esz=0->arr.size=ob.cells.length
 row:ob.esz≠0->arr.size=c*ob.esz/\ob.cells.length<=arr.size/\c<=maxLen
 cells:∀(i:Nat) x,ob.cells[i]? =some x->∃v,arr[i]? =some v/\v.oneCell'=true/\aE ρ C x v
def wA(C0:bI)(B:Nat)(ρ:Ren)(C:bI)(w:World)(c:Nat)(o:Ob):Prop:=
 (o.ty=0/\(∀(i:Nat) x,o.cells[i]? =some x->∀v,C0 B i v->aE ρ C x v)/\∀i v,C0 B i v->i<o.cells.length)\/
 (o.ty=1/\B<=c/\∃es clock,w.heap[c]? =some (.map es clock)/\aP ρ C o.cells (es.toList.flatMap fun e=>[e.key,e.val]))
def Kl(o:Ob)(c:Nat)(o':Ob)(c':Nat):Prop:=(o.ty=1/\o'.ty=1/\c=c')\/(o.ty=0/\o'.ty=0)
theorem Kl.symm{o:Ob}{c:Nat}{o':Ob}{c':Nat}(h:Kl o c o' c'):Kl o' c' o c:=by
 rcases h with⟨h1,h2,h3⟩|⟨h1,h2⟩
 ·exact .inl ⟨h2,h1,h3.symm⟩
 ·exact .inr ⟨h2,h1⟩
structure StR(C0:bI)(ρ:Ren)(g:Nat->Option Ob)(w:World)(B:Nat):Prop where
 ob:∀s o,g s=some o->∃q c,ρ s=some (q,c)/\((q=none/\((o.esz≠0/\o.cells=[]/\c=0)\/(o.esz=0/\wA C0 B ρ (aJ C0 B w ρ g) w c o)))\/∃b arr,q=some b/\B<=b/\ObRep ρ (aJ C0 B w ρ g) w b c o arr)
 inj:∀s s' o o' b c c',g s=some o->g s'=some o'->ρ s=some (some b,c)->ρ s'=some (some b,c')->s=s'
 mpi:∀s s' o o' c c',g s=some o->g s'=some o'->o.esz=0->o'.esz=0->ρ s=some (none,c)->ρ s'=some (none,c')->Kl o c o' c'->s=s'
theorem ObRep.lt{ρ:Ren}{C:bI}{w:World}{b c:Nat}{ob:Ob}{arr:Array Value}(h:ObRep ρ C w b c ob arr):b<w.heap.size:=by
 rcases Nat.lt_or_ge b w.heap.size with hlt|hge
 ·exact hlt
 ·have:=h.blk;rw[Array.getElem?_eq_none hge]at this;cases this
theorem ObRep.cell{ρ:Ren}{C:bI}{w:World}{b c:Nat}{ob:Ob}{arr:Array Value}(h:ObRep ρ C w b c ob arr)(i:Nat):w.cell? ⟨b,i,none⟩=arr[i]? :=cell_of_row w b i arr ob.ty (0,0) h.blk
theorem ObRep.frozen{ρ:Ren}{C:bI}{w:World}{b c:Nat}{ob:Ob}{arr:Array Value}(h:ObRep ρ C w b c ob arr)(i:Nat):w.frozen? ⟨b,i,none⟩=false:=by
 simp[World.frozen?,h.blk]
theorem StR.at{C0:bI}{ρ:Ren}{g:Nat->Option Ob}{w:World}{B s b c:Nat}{o:Ob}(h:StR C0 ρ g w B)(hg:g s=some o)(hr:ρ s=some (some b,c)):B<=b/\∃arr,ObRep ρ (aJ C0 B w ρ g) w b c o arr:=by
 obtain⟨q,c',h1,h2⟩:=h.ob s o hg;rw[hr]at h1;cases h1;rcases h2 with⟨h2,_⟩|⟨b',arr,h2,h3,h4⟩
 ·cases h2
 ·cases h2;exact⟨h3,arr,h4⟩
end Go.Proofs.YtdaeofhdgabhjaaGreat
namespace Go.Proofs.YtdaeofhdgabhjaaGreat
open Go.RowKit
structure GrD where
 n:Nat
 os:Array Obj
instance:Nonempty GrD:=⟨⟨0, #[]⟩⟩
def grD(w:World)(n:Nat)(os:Array Obj):World:={w with heap:=w.heap++os,drawn:=n}
theorem Gr(w:World)(n:Nat)(os:Array Obj):Below w.heap.size w (grD w n os):=
 ⟨rfl,rfl,rfl,by simp[grD],fun k hk=>by simp[grD,Array.getElem?_append_left hk]⟩
theorem wW{w w':World}(h:Below w.heap.size w w'):∃p:GrD,w'=grD w p.n p.os:=by
 refine⟨⟨w'.drawn,w'.heap.extract w.heap.size w'.heap.size⟩,?_⟩;obtain⟨h1,h2,h3,h4,h5⟩:=h;have hh:w'.heap=w.heap++w'.heap.extract w.heap.size w'.heap.size:=by
  apply Array.ext_getElem?;intro i;by_cases hi:i<w.heap.size
  ·rw[h5 i hi,Array.getElem?_append_left hi]
  ·rw[Array.getElem?_append_right (by omega),Array.getElem?_extract]
   by_cases h6:i<w'.heap.size
   ·rw[if_pos (by omega)];congr 1;omega
   ·rw[if_neg (by omega),Array.getElem?_eq_none (by omega)]
 unfold grD;cases w';cases w;simp only[World.mk.injEq]at*;exact⟨hh,h2,trivial,h1,h3⟩
theorem Calls.qb{P:Program}{f:FuncId}{args:Array Value}{w:World}{n:Nat}{os:Array Obj}{v:Value}
  (h:Calls P f args (grD w n os) fun e w'=>e= .returned v/\Below (grD w n os).heap.size (grD w n os) w'):Calls P f args (grD w n os) fun e w''=>e= .returned v/\∃p:GrD,w''=grD w p.n p.os:=
 h.mono fun _ _ ⟨he,hb⟩=>⟨he,wW ((Gr w n os).trans (hb.mono (Gr w n os).size))⟩
theorem Below.then_{W w1 w2:World}(h1:Below W.heap.size W w1)(h2:Below w1.heap.size w1 w2):Below W.heap.size W w2:=h1.trans (h2.mono h1.size)
def Blk(w:World)(g:Nat)(t:TypeId)(cs:Array Value):Prop:=w.heap[g]? =some (.cells cs t (0,0))
section
variable {w w':World} {g:Nat} {t:TypeId} {cs:Array Value}
theorem Blk.lt(h:Blk w g t cs):g<w.heap.size:=by
 rcases Nat.lt_or_ge g w.heap.size with hlt|hge
 ·exact hlt
 ·unfold Blk at h;rw[Array.getElem?_eq_none hge]at h;cases h
theorem Blk.cell(h:Blk w g t cs)(i:Nat):w.cell? ⟨g,i,none⟩=cs[i]? :=cell_of_row w g i cs t (0,0) h
theorem Blk.frozen(h:Blk w g t cs)(i:Nat):w.frozen? ⟨g,i,none⟩=false:=by
 unfold Blk at h;simp[World.frozen?,h]
theorem Blk.new(w:World)(t:TypeId)(cs:Array Value):Blk (w.alloc (.cells cs t)) w.heap.size t cs:=heap_alloc_new w _
theorem Blk.drew(h:Blk w g t cs):Blk w.drew g t cs:=h
theorem Blk.alloc(h:Blk w g t cs)(o:Obj):Blk (w.alloc o) g t cs:=(Below.heap_alloc w o g h.lt).trans h
theorem Blk.oM(h:Blk w g t cs)(i:Nat)(u:Value):Blk (w.setCell ⟨g,i,none⟩ u) g t (cs.setIfInBounds i u):=by
 unfold Blk at h|-;simp[World.setCell,Array.getElem?_modify,h]
theorem Blk.far(h:Blk w g t cs){p:Addr}(hp:g≠p.block)(u:Value):Blk (w.setCell p u) g t cs:=(Below.heap_setCell w p u g hp).trans h
theorem Blk.below{B:Nat}(h:Blk w g t cs)(hb:Below B w w')(hg:g<B):Blk w' g t cs:=(hb.block g hg).trans h
theorem Blk.then_(h:Blk w g t cs)(hb:Below w.heap.size w w'):Blk w' g t cs:=h.below hb h.lt
end
end Go.Proofs.YtdaeofhdgabhjaaGreat
namespace Go.Proofs.YtdaeofhdgabhjaaGreat
open Go.RowKit
theorem sF:∀(l:List Bool) (i:Nat),l[i]? =some false->(l.set i true).count false+1=l.count false
 |[],i,h=>by simp at h
 |b::l,0,h=>by
  simp at h;subst h;simp
 |b::l,i+1,h=>by
  have ih:=sF l i (by simpa using h)
  simp only[List.set_cons_succ,List.count_cons];omega
theorem Fp{P:Program}{ops:Array Oper}{Q:Exit->Act->World->Prop}
  (hac:∀(i:Nat) (o:Oper),ops[i]? =some o->∀e∈o.after.toList,Region.binds .any e=true->e.on<i)
  (Inv:(Nat->Bool)->Act->World->Prop)
  (hstep:∀(i:Nat) (o:Oper) (D:Nat->Bool) (a:Act) (w:World),ops[i]? =some o->Inv D a w->D i=false->(∀e∈o.after.toList,Region.binds .any e=true->D e.on=true)->
    wpOp P ops Q i (fun a' w'=>Inv (fun j=>if j=i then true else D j) a' w') a w)
  (hend:∀(D:Nat->Bool) (a:Act) (w:World),Inv D a w->(∀i,i<ops.size->D i=true)->Q .normal a w):
  ∀(fuel:Nat) (L:Array Bool) (a:Act) (w:World),L.size=ops.size->L.toList.count false<=fuel->Inv (fun j=>L.getD j false) a w->wpAny P .any ops Q fuel L a w:=by
 have key:∀(L:Array Bool),L.size=ops.size->Region.ready .any ops L=[]->∀i,i<ops.size->L.getD i false=true:=by
  intro L hL hr i;induction i using Nat.strongRecOn with
  |ind i ih=>
   intro hi;rcases Bool.eq_false_or_eq_true (L.getD i false)with h|h
   ·exact h
   ·exfalso;have hmem:i∈Region.ready .any ops L:=by
     unfold Region.ready;rw[List.mem_filter];refine⟨List.mem_range.2 hi,?_⟩;have h1:L.getD i true=false:=by
      rw[Array.getD_eq_getD_getElem?,Array.getElem?_eq_getElem (by omega)]at h|-
      exact h
     obtain⟨o,ho⟩:∃o,ops[i]? =some o:=⟨_,Array.getElem?_eq_getElem hi⟩;rw[h1,ho];simp only[Bool.not_false,Bool.true_and,Option.map_some,Option.getD_some];rw[Array.all_eq_true'];intro e he;rcases Bool.eq_false_or_eq_true (Region.binds .any e)with hb|hb
     ·have:=ih e.on (hac i o ho e (Array.mem_toList_iff.2 he) hb) (by have:=hac i o ho e (Array.mem_toList_iff.2 he) hb;omega)
      rw[hb,this];rfl
     ·rw[hb];rfl
    rw[hr]at hmem;cases hmem
 intro fuel;induction fuel with
 |zero=>
  intro L a w hL hc hI;have hall:∀i,i<ops.size->L.getD i false=true:=by
   intro i hi;rcases Bool.eq_false_or_eq_true (L.getD i false)with h|h
   ·exact h
   ·exfalso;have h0:L.toList.count false=0:=by omega
    rw[List.count_eq_zero]at h0;apply h0;rw[Array.getD_eq_getD_getElem?,Array.getElem?_eq_getElem (by omega)]at h
    simp at h;rw[<-h];exact Array.mem_toList_iff.2 (Array.getElem_mem _)
  refine⟨?_,hend _ a w hI hall⟩;unfold Region.ready;rw[List.filter_eq_nil_iff];intro i hi;have hi':=List.mem_range.1 hi;have:=hall i hi';rw[Array.getD_eq_getD_getElem?,Array.getElem?_eq_getElem (by omega)]at this
  have h2:L.getD i true=true:=by
   rw[Array.getD_eq_getD_getElem?,Array.getElem?_eq_getElem (by omega)];exact this
  rw[h2];simp
 |succ fuel ih=>
  intro L a w hL hc hI;refine⟨fun hr=>hend _ a w hI (key L hL hr),?_⟩
  intro i hi;unfold Region.ready at hi;rw[List.mem_filter]at hi;obtain⟨hi1,hi2⟩:=hi;have hlt:=List.mem_range.1 hi1;obtain⟨o,ho⟩:∃o,ops[i]? =some o:=⟨_,Array.getElem?_eq_getElem hlt⟩;rw[ho]at hi2;simp only[Option.map_some,Option.getD_some,Bool.and_eq_true,Bool.not_eq_true']at hi2;obtain⟨hf,hall⟩:=hi2;have hLi:L[i]? =some false:=by
   rw[Array.getD_eq_getD_getElem?,Array.getElem?_eq_getElem (by omega)]at hf
   rw[Array.getElem?_eq_getElem (by omega)]
   simpa using hf
  have hD:L.getD i false=false:=by rw[Array.getD_eq_getD_getElem?,hLi];rfl
  have hpre:∀e∈o.after.toList,Region.binds .any e=true->L.getD e.on false=true:=by
   intro e he hb;rw[Array.all_eq_true']at hall;have:=hall e (Array.mem_toList_iff.1 he);rw[hb]at this;simpa using this
  refine wpOp_mono ?_ (hstep i o _ a w ho hI hD hpre);intro a' w' hI';refine ih (L.setIfInBounds i true) a' w' (by simpa using hL) ?_ ?_
  ·have:=sF L.toList i (by simpa using hLi)
   rw[Array.toList_setIfInBounds];omega
  ·have e:(fun j=>(L.setIfInBounds i true).getD j false)=(fun j=>if j=i then true else L.getD j false):=by
    funext j
    rw[Array.getD_eq_getD_getElem?,Array.getD_eq_getD_getElem?,Array.getElem?_setIfInBounds];by_cases h:i=j
    ·subst h;rw[if_pos rfl,if_pos (by omega),if_pos rfl];rfl
    ·rw[if_neg h,if_neg (fun h'=>h h'.symm)]
   rw[e];exact hI'
theorem Ej{P:Program}{id:Nat}{ops:Array Oper}{Q:Exit->Act->World->Prop}{a0:Act}{w0:World}(hm:P.follows .mixedOrders=true)
  (hac:∀(i:Nat) (o:Oper),ops[i]? =some o->∀e∈o.after.toList,Region.binds .any e=true->e.on<i)
  (Inv:(Nat->Bool)->Act->World->Prop) (h0:Inv (fun _=>false) a0 w0.drew)
  (hstep:∀(i:Nat) (o:Oper) (D:Nat->Bool) (a:Act) (w:World),ops[i]? =some o->Inv D a w->D i=false->(∀e∈o.after.toList,Region.binds .any e=true->D e.on=true)->
    wpOp P ops Q i (fun a' w'=>Inv (fun j=>if j=i then true else D j) a' w') a w)
  (hend:∀(D:Nat->Bool) (a:Act) (w:World),Inv D a w->(∀i,i<ops.size->D i=true)->Q .normal a w):
  (Code.region id ops true).wp P Q a0 w0:=by
 refine wp_region_any hm (Fp hac Inv hstep hend _ _ _ _ (by simp) ?_ ?_)
 ·simp
 ·have e:(fun j=>(Array.replicate ops.size false).getD j false)=(fun _=>false):=by
   funext j
   rw[Array.getD_eq_getD_getElem?,Array.getElem?_replicate];split<;>rfl
  rw[e];exact h0
def bB(V:Nat->Value):Operand->Value
 | .tmp t=>V t
 | .const v=>v
 | .global g=> .pointer (some ⟨g,0,none⟩)
 | .func f=> .func (.func f) #[] #[]
def bZ(P:Program)(o:Oper)(V:Nat->Value)(w:World)(K:Value->World->Prop):Prop:=
 match(execOp (bB V) o).run P w with
 | .ok (.value v) w'=>K v w'
 | .ok .skip w'=>K undef w'
 | .ok (.enter f args) w'=>Calls P f args w' fun e w''=>∃v,e= .returned v/\K v w''
 |_=>False
def dP(a0:Act)(dsts:List Nat)(V:Nat->Value):Act:=dsts.foldl (fun a s=>a.put (some s) (V s)) a0
theorem kB(V:Nat->Value):∀(dsts:List Nat) (a0:Act),(∀s∈dsts,s<a0.tmps.size)->
  (dP a0 dsts V).defers=a0.defers/\(dP a0 dsts V).tmps.size=a0.tmps.size/\∀s,s<a0.tmps.size->(dP a0 dsts V).tmps.getD s undef=if s∈dsts then V s else a0.tmps.getD s undef
 |[],a0,_=>⟨rfl,rfl,fun s _=>by simp[dP]⟩
 |d::dsts,a0,h=>by
  have hs:(a0.put (some d) (V d)).tmps.size=a0.tmps.size:=by simp[Act.put]
  obtain⟨h1,h2,h3⟩:=kB V dsts (a0.put (some d) (V d)) (fun s hs'=>by rw[hs];exact h s (List.mem_cons_of_mem _ hs'))
  refine⟨h1,h2.trans hs,?_⟩;intro s hlt;have:=h3 s (by rw[hs];exact hlt)
  show(dP (a0.put (some d) (V d)) dsts V).tmps.getD s undef=_;rw[this];by_cases hm:s∈dsts
  ·rw[if_pos hm,if_pos (List.mem_cons_of_mem _ hm)]
  ·rw[if_neg hm];have hd:=h d List.mem_cons_self;by_cases e:s=d
   ·subst e;rw[if_pos List.mem_cons_self];simp[Act.put,hlt]
   ·rw[if_neg (by simp[e,hm])]
    simp only[Act.put,Array.getD_eq_getD_getElem?,Array.getElem?_setIfInBounds];rw[if_neg (fun e'=>e e'.symm)]
theorem Act.eval_evalV(a:Act):a.eval=bB (fun s=>a.tmps.getD s undef):=by
 funext x
 cases x<;>rfl
def gdV(ops:Array Oper)(V:Nat->Value)(j:Nat):Option Bool:=
 match(ops[j]?).bind (·.dst)with
 |some d=>(match V d with| .bool b=>some b|_=>none)
 |none=>none
theorem nR(ops:Array Oper)(t:Array Value):yielded ops t=gdV ops (fun s=>t.getD s undef):=by
 funext j
 unfold yielded gdV;cases h:(ops[j]?).bind (·.dst)with
 |none=>rfl
 |some d=>
  simp only[Option.bind_some,Array.getD_eq_getD_getElem?];cases ht:t[d]? with
  |none=>rfl
  |some v=>cases v<;>rfl
theorem yZ{P:Program}{id:Nat}{ops:Array Oper}{Q:Exit->Act->World->Prop}{a0:Act}{w0:World}(hm:P.follows .mixedOrders=true)
  (dsts:List Nat)
  (hok:((List.range ops.size).all fun i=>((ops[i]?).map fun o=>(o.after.toList.all fun e=> !Region.binds .any e||decide (e.on<i))&&(match o.dst with|some d=>dsts.contains d|none=>true)).getD true)=true)
  (hds:∀s∈dsts,s<a0.tmps.size)
  (F:(Nat->Bool)->(Nat->Value)->World->Prop) (h0:F (fun _=>false) (fun s=>a0.tmps.getD s undef) w0.drew)
  (hstep:∀(i:Nat) (o:Oper) (D:Nat->Bool) (V:Nat->Value) (w:World),ops[i]? =some o->F D V w->D i=false->(∀e∈o.after.toList,Region.binds .any e=true->D e.on=true)->
    (∀s,s∉dsts->V s=a0.tmps.getD s undef)->
    if Region.wanted o (gdV ops V)=true then
     bZ P o V w (fun v w'=>F (fun j=>if j=i then true else D j) (match o.dst with|some d=>fun s=>if s=d then v else V s|none=>V) w')
    else F (fun j=>if j=i then true else D j) (match o.dst with|some d=>fun s=>if s=d then undef else V s|none=>V) w)
  (hend:∀(D:Nat->Bool) (V:Nat->Value) (w:World),F D V w->(∀i,i<ops.size->D i=true)->Q .normal (dP a0 dsts V) w):
  (Code.region id ops true).wp P Q a0 w0:=by
 have hops:∀(i:Nat) (o:Oper),ops[i]? =some o->(∀e∈o.after.toList,Region.binds .any e=true->e.on<i)/\(∀d,o.dst=some d->d∈dsts):=by
  intro i o ho;have hi:i<ops.size:=(Array.getElem?_eq_some_iff.1 ho).1;rw[List.all_eq_true]at hok;have:=hok i (List.mem_range.2 hi);rw[ho]at this;simp only[Option.map_some,Option.getD_some,Bool.and_eq_true]at this;obtain⟨g2,g3⟩:=this;refine⟨?_,?_⟩
  ·intro e he hb;rw[List.all_eq_true]at g2;have:=g2 e he;rw[hb]at this;simpa using this
  ·intro d hd;rw[hd]at g3;simpa using g3
 refine Ej hm (fun i o ho=>(hops i o ho).1) (fun D a w=>a.defers=a0.defers/\a.tmps.size=a0.tmps.size/\(∀s,s∉dsts->a.tmps.getD s undef=a0.tmps.getD s undef)/\F D (fun s=>a.tmps.getD s undef) w) ⟨rfl,rfl,fun _ _=>rfl,h0⟩ ?_ ?_
 ·intro i o D a w ho ⟨i1,i2,i3,i4⟩ hD hpre;obtain⟨_,hdst⟩:=hops i o ho;have hrun:=hstep i o D (fun s=>a.tmps.getD s undef) w ho i4 hD hpre i3
  have hput:∀(v:Value) (w':World),F (fun j=>if j=i then true else D j) (match o.dst with|some d=>fun s=>if s=d then v else a.tmps.getD s undef|none=>fun s=>a.tmps.getD s undef) w'->
    (a.put o.dst v).defers=a0.defers/\(a.put o.dst v).tmps.size=a0.tmps.size/\(∀s,s∉dsts->(a.put o.dst v).tmps.getD s undef=a0.tmps.getD s undef)/\F (fun j=>if j=i then true else D j) (fun s=>(a.put o.dst v).tmps.getD s undef) w':=by
   intro v w' hF;cases hd:o.dst with
   |none=>rw[hd]at hF;exact⟨i1,i2,i3,hF⟩
   |some d=>
    rw[hd]at hF;have hdm:=hdst d hd;have hlt:d<a.tmps.size:=by rw[i2];exact hds d hdm
    have hget:∀s,(a.put (some d) v).tmps.getD s undef=if s=d then v else a.tmps.getD s undef:=by
     intro s;simp only[Act.put,Array.getD_eq_getD_getElem?,Array.getElem?_setIfInBounds];by_cases e:d=s
     ·subst e;rw[if_pos rfl,if_pos hlt,if_pos rfl];rfl
     ·rw[if_neg e,if_neg (fun e'=>e e'.symm)]
    refine⟨i1,by simpa[Act.put]using i2,?_,?_⟩
    ·intro s hs;rw[hget,if_neg (fun e=>hs (by rw[e];exact hdm))]
     exact i3 s hs
    ·have e:(fun s=>(a.put (some d) v).tmps.getD s undef)=(fun s=>if s=d then v else a.tmps.getD s undef):=funext hget
     rw[e];exact hF
  unfold wpOp;rw[ho];simp only[];rw[nR];by_cases hw:Region.wanted o (gdV ops fun s=>a.tmps.getD s undef)=true
  ·rw[if_pos hw]at hrun|-;refine .inl ?_;unfold Oper.wp;rw[Act.eval_evalV];unfold bZ at hrun;cases hr:(execOp (bB fun s=>a.tmps.getD s undef) o).run P w with
   |halt x w'=>rw[hr]at hrun;exact hrun.elim
   |ok n w'=>
    rw[hr]at hrun;cases n<;>simp only[]at hrun<;>first|exact hrun.elim|skip
    ·exact hput _ _ hrun
    ·exact hput _ _ hrun
    ·rename_i f args;show Calls P f args w' _;refine hrun.mono ?_;rintro e w'' ⟨v,rfl,hK⟩;exact hput _ _ hK
  ·rw[if_neg hw]at hrun|-;exact hput _ _ hrun
 ·intro D a w ⟨i1,i2,i3,i4⟩ hall;have:=hend D _ w i4 hall;obtain⟨p1,p2,p3⟩:=kB (fun s=>a.tmps.getD s undef) dsts a0 hds
  have e:dP a0 dsts (fun s=>a.tmps.getD s undef)=a:=by
   obtain⟨t,df⟩:=a;have ht:(dP a0 dsts (fun s=>t.getD s undef)).tmps=t:=by
    apply Array.ext
    ·rw[p2];exact i2.symm
    ·intro s h1 h2;have h3:=p3 s (by rw[<-i2];exact h2)
     rw[Array.getD_eq_getD_getElem?,Array.getElem?_eq_getElem h1,Option.getD_some]at h3;rw[h3];by_cases hm:s∈dsts
     ·rw[if_pos hm];simp[Array.getD_eq_getD_getElem?,h2]
     ·rw[if_neg hm,<-i3 s hm];simp[Array.getD_eq_getD_getElem?,h2]
   have hdf:(dP a0 dsts (fun s=>t.getD s undef)).defers=df:=p1.trans i1.symm
   show dP a0 dsts (fun s=>t.getD s undef)={tmps:=t,defers:=df}
   cases hp:dP a0 dsts (fun s=>t.getD s undef)with
   |mk t' df'=>
    rw[hp]at ht hdf;have e1:t'=t:=ht;have e2:df'=df:=hdf;rw[e1,e2]
  rw[e]at this;exact this
end Go.Proofs.YtdaeofhdgabhjaaGreat
namespace Go.Proofs.YtdaeofhdgabhjaaGreat
open Go.RowKit
def cB(g:Nat->Option Ob)(W:List (Nat×Option Ob)):Nat->Option Ob:=fun s=>match W.lookup s with|some x=>x|none=>g s
def iU:Value->AV
 | .int k n=> .p (.int k n)
 | .bool b=> .p (.bool b)
 | .string s=> .p (.str s)
 | .slice none 0 0=> .nil
 |_=> .any
theorem Dn{ρ:Ren}{C:bI}(v:Value):aE ρ C (iU v) v:=by
 unfold iU;split<;>(unfold aE;try unfold aU)<;>first|rfl|trivial
theorem jJ{ρ:Ren}{C:bI}:∀(vs:List Value),aP ρ C (vs.map iU) vs
 |[] =>by simp only[List.map_nil];unfold aP;rfl
 |v::vs=>by simp only[List.map_cons];unfold aP;exact⟨v,vs,rfl,Dn v,jJ vs⟩
def cK:List AV->Option (List PV)
 |[] =>some []
 | .p x::l=>(cK l).map (x:: ·)
 |_::_=>none
def eN(l:List AV):AV:=match cK l with|some q=> .p (.agg q)|none=> .agg l
theorem kY{ρ:Ren}{C:bI}:∀{l:List AV} {q:List PV} {vs:List Value},cK l=some q->aP ρ C l vs->bO C q vs
 |[],q,vs,h,hr=>by simp[cK]at h;subst h;unfold aP at hr;unfold bO;exact hr
 |x::l,q,vs,h,hr=>by
  unfold cK at h;split at h
  ·rename_i e;cases e
  ·rename_i y l' e;cases e;simp only[Option.map_eq_some_iff]at h;obtain⟨r,h1,rfl⟩:=h;unfold aP at hr;obtain⟨v,vs',rfl,h2,h3⟩:=hr;unfold aE at h2;unfold bO;exact⟨v,vs',rfl,h2,kY h1 h3⟩
  ·cases h
theorem tI{ρ:Ren}{C:bI}{l:List AV}{vs:List Value}(h:aP ρ C l vs)(h1:lT vs):aE ρ C (eN l) (.agg vs.toArray):=by
 unfold eN;split
 ·rename_i q hq;unfold aE aU;exact⟨vs,rfl,kY hq h,h1⟩
 ·unfold aE;exact⟨vs,rfl,h,h1⟩
theorem bO.toA{ρ:Ren}{C:bI}:∀{l:List PV} {vs:List Value},bO C l vs->aP ρ C (l.map .p) vs
 |[],vs,h=>by unfold bO at h;unfold aP;exact h
 |x::l,vs,h=>by
  unfold bO at h;obtain⟨v,r,rfl,h2,h3⟩:=h;unfold aP;exact⟨v,r,rfl,by unfold aE;exact h2,bO.toA h3⟩
def pT:Value->AV
 | .agg cs=>if cs.toList.all (·.oneCell')=true then eN (cs.toList.map iU)else .any
 | .tuple vs=>if vs.toList=[]then .undef else .any
 |v=>iU v
theorem Nq{ρ:Ren}{C:bI}(v:Value):aE ρ C (pT v) v:=by
 unfold pT;split
 ·split
  ·rename_i cs h;have:=tI (jJ (ρ:=ρ) (C:=C) cs.toList) (fun u hu=>List.all_eq_true.1 h u hu)
   simpa using this
  ·unfold aE;trivial
 ·split
  ·rename_i vs h;unfold aE Go.undef
   congr 1
   exact Array.toList_inj.1 (by simpa using h)
  ·unfold aE;trivial
 ·exact Dn v
def kF(F:List AV):Operand->AV
 | .tmp t=>F.getD t .any
 | .const v=>pT v
 | .func f=> .p (.fn (.func f) [] [])
 | .global _=> .any
def aZ(P:Program)(t:TypeId):Nat:=((P.info? t).map (·.size)).getD 0
def oA(P:Program)(t:TypeId):Bool:=match P.underlying t with|some (.struct _)|some (.array _ _)=>true|_=>false
def tok(P:Program)(t:TypeId):Bool:=(P.info? t).isSome&&(P.underlying t).isSome
def vM(P:Program)(t:TypeId):Option (List AV):=(P.info? t).bind fun i=>i.zero.map fun z=>z.cells.toList.map iU
def vL(P:Program)(t:TypeId):Bool:=((P.info? t).bind fun i=>i.zero.map fun z=>z.cells.toList.all (·.oneCell')&&z.cells.size==i.size).getD false
def dO(P:Program)(t:TypeId):Option TypeId:=match P.underlying t with|some (.slice e)=>some e|_=>none
def Ki(P:Program)(t:TypeId):Option (Nat×TypeId):=match P.underlying t with|some (.array n e)=>some (n,e)|_=>none
def aEr(P:Program)(t:TypeId):Option IntKind:=match P.underlying t with|some (.int k)=>some k|_=>none
def Ot(P:Program)(t:TypeId)(f:Nat):Option (Nat×TypeId):=match P.underlying t with
 |some (.struct fs)=>(fs[f]?).bind fun x=>if aZ P x.type=0 then none else some (x.offset,x.type)
 |_=>none
def Xv:Nat->Nat->Nat
 |0,_=>0
 |f+1,s=>if s % 2=0 then Xv f (s/2)+1 else 0
def cls(s:Nat):Nat:=Xv s s
def sit(n i:Nat):Nat:=2^n*(2*i+1)
theorem Mv(i:Nat):∀(n f:Nat),n<f->Xv f (sit n i)=n
 |0,f+1,_=>by unfold Xv sit;rw[if_neg (by omega)]
 |n+1,f+1,h=>by
  have e:sit (n+1) i=2*sit n i:=by unfold sit;rw[Nat.pow_succ,Nat.mul_comm (2^n) 2,Nat.mul_assoc]
  unfold Xv;rw[e,if_pos (by omega),Nat.mul_div_cancel_left _ (by decide),Mv i n f (by omega)]
theorem dM(n i:Nat):cls (sit n i)=n:=Mv i n _ (by
 unfold sit;have h1:n<2^n:=Nat.lt_two_pow_self;have h2:2^n*1<=2^n*(2*i+1):=Nat.mul_le_mul_left _ (by omega)
 omega)
abbrev Res:=AV->List Nat->List (Nat×Option Ob)->Prop
def bM(P:Program)(o:Oper)(E:Operand->AV)(σ:Nat->Option Ob)(n:Nat)(r:AV)(R:List Nat)(W:List (Nat×Option Ob)):Prop:=
 ∀(C0:bI) (ρ:Ren) (g:Nat->Option Ob) (V:Nat->Value) (w:World) (B:Nat),StR C0 ρ g w B->B<=w.heap.size->(∀s∈R,g s=σ s)->(∀s,cls s=n->ρ s=none)->(∀s,cls s=n->g s=none)->
  (∀x∈o.op.operands.toList,aE ρ (aJ C0 B w ρ g) (E x) (bB V x))->
  bZ P o V w fun v w'=>∃ρ':Ren,(∀s,cls s≠n->ρ' s=ρ s)/\(∀b o' x,aJ C0 B w ρ g b o' x->aJ C0 B w' ρ' (cB g W) b o' x)/\
   StR C0 ρ' (cB g W) w' B/\aE ρ' (aJ C0 B w' ρ' (cB g W)) r v/\Below B w w'
theorem bM.pure{P:Program}{o:Oper}{E:Operand->AV}{σ:Nat->Option Ob}{n:Nat}{r:AV}{R:List Nat}
  (h:∀(C0:bI) (ρ:Ren) (g:Nat->Option Ob) (V:Nat->Value) (w:World) (B:Nat),StR C0 ρ g w B->(∀s∈R,g s=σ s)->(∀x∈o.op.operands.toList,aE ρ (aJ C0 B w ρ g) (E x) (bB V x))->
    bZ P o V w fun v w'=>w'=w/\aE ρ (aJ C0 B w ρ g) r v):bM P o E σ n r R [] :=by
 intro C0 ρ g V w B hs hB hR hn hg hE;have:=h C0 ρ g V w B hs hR hE;have hmono':∀(K K':Value->World->Prop),(∀v w,K v w->K' v w)->bZ P o V w K->bZ P o V w K':=by
  intro K K' hk h;unfold bZ at h|-;split at h
  ·exact hk _ _ h
  ·exact hk _ _ h
  ·exact h.mono fun e w'' ⟨v,he,hv⟩=>⟨v,he,hk _ _ hv⟩
  ·exact h.elim
 refine hmono' _ _ ?_ this;rintro v w' ⟨rfl,hr⟩;exact⟨ρ,fun _ _=>rfl,fun _ _ _ h=>h,hs,hr,Below.refl _ _⟩
def Yv(P:Program)(t:TypeId)(cs:List PV)(off:Nat)(K:PV->Prop):Prop:=
 tok P t=true/\if oA P t=true then∃l,(cs.drop off).take (aZ P t)=l/\l.length=aZ P t/\K (.agg l)else∃x,cs[off]? =some x/\K x
def yV(P:Program)(t:TypeId)(cs:List AV)(off:Nat)(K:AV->Prop):Prop:=
 tok P t=true/\if oA P t=true then∃l,(cs.drop off).take (aZ P t)=l/\l.length=aZ P t/\K (eN l)else∃x,cs[off]? =some x/\K x
theorem rZ{P:Program}(w:World)(b o:Nat)(t:TypeId)(ht:tok P t=true)(vs:List Value)(v:Value)
  (h:if oA P t=true then vs.length=aZ P t/\w.rangeAt b o vs/\v= .agg vs.toArray else w.cell? ⟨b,o,none⟩=some v):
  (Instr.loadAt t (.pointer (some ⟨b,o,none⟩))).run P w= .ok v w:=by
 unfold tok at ht;simp only[Bool.and_eq_true,Option.isSome_iff_exists]at ht;obtain⟨⟨i,hi⟩,d,hd⟩:=ht;cases hg:oA P t with
 |true=>
  rw[hg,if_pos rfl]at h;obtain⟨h1,h2,rfl⟩:=h;refine run_loadAt_mid w b o t vs d h2 hd ?_ ?_
  ·unfold oA at hg;rw[hd]at hg;unfold TypeDesc.isRow;split at hg<;>simp_all
  ·rw[h1];unfold aZ;rw[hi];rfl
 |false=>
  rw[hg]at h;simp only[Bool.false_eq_true,if_false]at h;have:(isAgg t).run P w= .ok false w:=by
   unfold isAgg;rw[Sem.run_bind,run_underlying hd w];unfold oA at hg;rw[hd]at hg;cases d<;>simp_all
  simp[Instr.loadAt,Instr.sureAddr,loadVar,this,h,load,Sem.run]
theorem Wh{P:Program}{o:Oper}{E:Operand->AV}{σ:Nat->Option Ob}{n:Nat}{t:TypeId}{x:Operand}(ho:o.op= .load t x){cs:List PV}{off:Nat}(hx:E x= .p (.pro cs off)){K:PV->Prop}
  (h:Yv P t cs off K):∃r,bM P o E σ n (.p r) [] []/\K r:=by
 obtain⟨ht,h⟩:=h;have key:∀(r:PV),(∀(C:bI) (w:World) (b oo:Nat),(∀b o v,C b o v->w.cell? ⟨b,o,none⟩=some v)->dS C cs b oo->∃v vs,(if oA P t=true then vs.length=aZ P t/\w.rangeAt b (oo+off) vs/\v= .agg vs.toArray else w.cell? ⟨b,oo+off,none⟩=some v)/\aU C r v)->
   bM P o E σ n (.p r) [] [] :=by
  intro r hr;refine bM.pure ?_;intro C0 ρ g V w B hs _ hE;have h1:=hE x (by rw[ho];simp[Op.operands])
  rw[hx]at h1;unfold aE aU at h1;obtain⟨b,oo,he,hc⟩:=h1;obtain⟨v,vs,h2,h3⟩:=hr _ w b oo (fun b o v hh=>hh.1) hc
  have:=rZ (P:=P) w b (oo+off) t ht vs v h2;unfold bZ execOp;simp only[ho,he,Sem.run_bind,this,Result.andThen_ok,Sem.run_pure];exact⟨trivial,by unfold aE;exact h3⟩
 split at h
 ·rename_i hg;obtain⟨l,hl,hlen,hK⟩:=h;refine⟨_,key _ ?_,hK⟩;intro C w b oo hC hc;rw[hg];have hc2:=(hc.drop off).take (aZ P t);rw[hl]at hc2;have:∀m,∀l':List PV,l'.length=m->∀o',dS C l' b o'->∃vs:List Value,vs.length=m/\w.rangeAt b o' vs/\bO C l' vs/\lT vs:=by
   intro m;induction m with
   |zero=>intro l' h0 o' _;refine⟨[],rfl,(fun j v hj=>by simp at hj),?_⟩;rw[List.length_eq_zero_iff.1 h0];exact⟨by unfold bO;rfl,fun u hu=>by cases hu⟩
   |succ m ih=>
    intro l' h1 o' h2;cases l' with
    |nil=>simp at h1
    |cons y l'=>
     unfold dS at h2;obtain⟨⟨v,h3,h6,h4⟩,h5⟩:=h2;obtain⟨vs,g1,g2,g3,g4⟩:=ih l' (by simpa using h1) (o'+1) h5
     refine⟨v::vs,by simp[g1],?_,?_,fun u hu=>by rcases List.mem_cons.1 hu with rfl|hu;exact h6;exact g4 u hu⟩
     ·intro j u hj;cases j with
      |zero=>simp at hj;subst hj;exact hC _ _ _ h3
      |succ j=>have:=g2 j u (by simpa using hj);rwa[show o'+1+j=o'+(j+1) by omega]at this
     ·unfold bO;exact⟨v,vs,rfl,h4,g3⟩
  obtain⟨vs,g1,g2,g3,g4⟩:=this _ l rfl _ hc2;refine⟨_,vs,?_,by unfold aU;exact⟨vs,rfl,g3,g4⟩⟩
  rw[if_pos rfl];exact⟨g1.trans hlen,g2,rfl⟩
 ·rename_i hg;obtain⟨y,hy,hK⟩:=h;refine⟨y,key _ ?_,hK⟩;intro C w b oo hC hc;obtain⟨v,h1,_,h2⟩:=dS.get cs b oo hc off y hy;refine⟨v,[],?_,h2⟩;rw[if_neg hg];exact hC _ _ _ h1
theorem Gh{P:Program}{t:TypeId}{ob:Ob}{off:Nat}{K:AV->Prop}(h:yV P t ob.cells off K):∃r,K r/\∀(ρ:Ren) (C:bI) (w:World) (b c:Nat) (arr:Array Value),ObRep ρ C w b c ob arr->
  ∃v,(Instr.loadAt t (.pointer (some ⟨b,off,none⟩))).run P w= .ok v w/\aE ρ C r v:=by
 obtain⟨ht,h⟩:=h;have key:∀(r:AV),(∀(ρ:Ren) (C:bI) (w:World) (b c:Nat) (arr:Array Value),ObRep ρ C w b c ob arr->∃v vs,(if oA P t=true then vs.length=aZ P t/\w.rangeAt b off vs/\v= .agg vs.toArray else w.cell? ⟨b,off,none⟩=some v)/\aE ρ C r v)->
   ∀(ρ:Ren) (C:bI) (w:World) (b c:Nat) (arr:Array Value),ObRep ρ C w b c ob arr->∃v,(Instr.loadAt t (.pointer (some ⟨b,off,none⟩))).run P w= .ok v w/\aE ρ C r v:=by
  intro r hr ρ C w b c arr h3;obtain⟨v,vs,h4,h5⟩:=hr _ _ w b c arr h3;exact⟨v,rZ (P:=P) w b off t ht vs v h4,h5⟩
 split at h
 ·rename_i hg;obtain⟨l,hl,hlen,hK⟩:=h;refine⟨_,hK,key _ ?_⟩;intro ρ C w b c arr hc;rw[hg];have:∀m,∀l':List AV,l'.length=m->∀o',(∀(i:Nat) x,l'[i]? =some x->∃v,arr[o'+i]? =some v/\v.oneCell'=true/\aE ρ C x v)->∃vs:List Value,vs.length=m/\w.rangeAt b o' vs/\aP ρ C l' vs/\lT vs:=by
   intro m;induction m with
   |zero=>intro l' h0 o' _;refine⟨[],rfl,(fun j v hj=>by simp at hj),?_⟩;rw[List.length_eq_zero_iff.1 h0];exact⟨by unfold aP;rfl,fun u hu=>by cases hu⟩
   |succ m ih=>
    intro l' h1 o' h2;cases l' with
    |nil=>simp at h1
    |cons y l'=>
     obtain⟨v,h3,h6,h4⟩:=h2 0 y rfl;obtain⟨vs,g1,g2,g3,g4⟩:=ih l' (by simpa using h1) (o'+1) (fun i x hi=>by
      have:=h2 (i+1) x (by simpa using hi)
      rwa[show o'+(i+1)=o'+1+i by omega]at this)
     refine⟨v::vs,by simp[g1],?_,?_,fun u hu=>by rcases List.mem_cons.1 hu with rfl|hu;exact h6;exact g4 u hu⟩
     ·intro j u hj;cases j with
      |zero=>simp at hj;subst hj;rw[hc.cell];exact h3
      |succ j=>have:=g2 j u (by simpa using hj);rwa[show o'+1+j=o'+(j+1) by omega]at this
     ·unfold aP;exact⟨v,vs,rfl,h4,g3⟩
  obtain⟨vs,g1,g2,g3,g4⟩:=this _ l rfl off (fun i x hi=>hc.cells _ x (by
   rw[<-hl,List.getElem?_take]at hi;split at hi
   ·rwa[List.getElem?_drop]at hi
   ·cases hi))
  refine⟨_,vs,?_,tI g3 g4⟩;rw[if_pos rfl];exact⟨g1.trans hlen,g2,rfl⟩
 ·rename_i hg;obtain⟨y,hy,hK⟩:=h;refine⟨y,hK,key _ ?_⟩;intro ρ C w b c arr hc;obtain⟨v,h1,_,h2⟩:=hc.cells off y hy;refine⟨v,[],?_,h2⟩;rw[if_neg hg,hc.cell];exact h1
theorem Wi{P:Program}{o:Oper}{E:Operand->AV}{σ:Nat->Option Ob}{n:Nat}{t:TypeId}{x:Operand}(ho:o.op= .load t x){s off:Nat}(hx:E x= .ptr s off){ob:Ob}(hob:σ s=some ob){K:AV->Prop}
  (h:yV P t ob.cells off K):∃r,bM P o E σ n r [s] []/\K r:=by
 obtain⟨r,hK,hr⟩:=Gh h;refine⟨r,bM.pure ?_,hK⟩;intro C0 ρ g V w B hs hR hE;have h1:=hE x (by rw[ho];simp[Op.operands])
 rw[hx]at h1;unfold aE at h1;obtain⟨b,c,he,hv⟩:=h1;obtain⟨_,arr,h3⟩:=hs.at ((hR s (by simp)).trans hob) he
 obtain⟨v,h4,h5⟩:=hr _ _ w b c arr h3;unfold bZ execOp;simp only[ho,hv,Sem.run_bind,h4,Result.andThen_ok,Sem.run_pure];exact⟨trivial,h5⟩
end Go.Proofs.YtdaeofhdgabhjaaGreat
namespace Go.Proofs.YtdaeofhdgabhjaaGreat
open Go.RowKit
section
variable {P:Program} {o:Oper} {E:Operand->AV} {σ:Nat->Option Ob} {n:Nat}
theorem bM.val{r:AV}(h:∀(ρ:Ren) (C:bI) (V:Nat->Value) (w:World),(∀x∈o.op.operands.toList,aE ρ C (E x) (bB V x))->
  ∃v,(execOp (bB V) o).run P w= .ok (.value v) w/\aE ρ C r v):bM P o E σ n r [] [] :=by
 refine bM.pure ?_;intro C0 ρ g V w B _ _ hE;obtain⟨v,h1,h2⟩:=h ρ _ V w hE;unfold bZ;rw[h1];exact⟨rfl,h2⟩
theorem Ly{x:Operand}(ho:o.op= .move x\/o.op= .assign x):bM P o E σ n (E x) [] [] :=by
 refine bM.val ?_;intro ρ C V w hE;have h1:=hE x (by rcases ho with ho|ho<;>rw[ho] <;>simp[Op.operands])
 refine⟨bB V x,?_,h1⟩;rcases ho with ho|ho<;>(unfold execOp;rw[ho];rfl)
theorem Ww{x:Operand}(ho:o.op= .move x\/o.op= .assign x)(hx:E x= .nil):bM P o E σ n (.p (.sl 0 [])) [] [] :=by
 refine bM.val ?_;intro ρ C V w hE;have h1:=hE x (by rcases ho with ho|ho<;>rw[ho] <;>simp[Op.operands])
 rw[hx]at h1;unfold aE at h1;refine⟨bB V x,?_,?_⟩
 ·rcases ho with ho|ho<;>(unfold execOp;rw[ho];rfl)
 ·rw[h1];unfold aE aU;exact⟨none,0,rfl,Nat.le_refl _,fun _=>⟨rfl,rfl⟩,fun ad e=>by cases e⟩
def Fa(c a b:AV)(K:AV->Prop):Prop:=match c with
 | .p (.bool t)=>K (if t=true then a else b)
 |_=>False
theorem aAP{c a b:Operand}(ho:o.op= .pick c a b){K:AV->Prop}(h:Fa (E c) (E a) (E b) K):∃r,bM P o E σ n r [] []/\K r:=by
 unfold Fa at h;have key:∀t:Bool,E c= .p (.bool t)->bM P o E σ n (if t=true then E a else E b) [] [] :=by
  intro t ht;refine bM.val ?_;intro ρ C V w hE;have h1:=hE c (by rw[ho];simp[Op.operands])
  have h2:=hE a (by rw[ho];simp[Op.operands])
  have h3:=hE b (by rw[ho];simp[Op.operands])
  rw[ht]at h1;unfold aE aU at h1;refine⟨if t then bB V a else bB V b,?_,?_⟩
  ·unfold execOp;rw[ho];simp[h1,asBool]
  ·cases t<;>assumption
 split at h
 ·rename_i t e;exact⟨_,key t e,h⟩
 ·exact h.elim
def aBG(x:AV):Bool:=match x with
 | .ptr .. =>true
 | .p (.pro ..)=>true
 | .fn (.func _) .. =>true
 | .p (.fn (.func _) ..)=>true
 |_=>false
theorem aCh{x:Operand}(ho:o.op= .nilCheck x)(h:aBG (E x)=true):bM P o E σ n (E x) [] [] :=by
 refine bM.val ?_;intro ρ C V w hE;have h1:=hE x (by rw[ho];simp[Op.operands])
 refine⟨bB V x,?_,h1⟩;unfold execOp;rw[ho];unfold aBG at h;split at h
 ·rename_i e;rw[e]at h1;unfold aE at h1;obtain⟨b,c,_,h1⟩:=h1;simp[h1]
 ·rename_i e;rw[e]at h1;unfold aE aU at h1;obtain⟨b,c,h1,_⟩:=h1;simp[h1]
 ·rename_i e;rw[e]at h1;unfold aE at h1;obtain⟨b,c,h1,_⟩:=h1;simp[h1]
 ·rename_i e;rw[e]at h1;unfold aE aU at h1;obtain⟨b,c,h1,_⟩:=h1;simp[h1]
 ·cases h
def qN(l:List Int):List PV:=l.map (.int .i64)
def Bn(P:Program)(t:TypeId)(m:Nat):Prop:=∀(xs ys:List Int) (x y:Operand) (w:World),xs.length=m->ys.length=m->
 (do eqGuard .eql t x y (.agg (xs.map (Value.int .i64)).toArray) (.agg (ys.map (Value.int .i64)).toArray);binOp .eql t (.agg (xs.map (Value.int .i64)).toArray) (.agg (ys.map (Value.int .i64)).toArray):Sem Value).run P w= .ok (.bool (xs==ys)) w/\
 (do eqGuard .neq t x y (.agg (xs.map (Value.int .i64)).toArray) (.agg (ys.map (Value.int .i64)).toArray);binOp .neq t (.agg (xs.map (Value.int .i64)).toArray) (.agg (ys.map (Value.int .i64)).toArray):Sem Value).run P w= .ok (.bool (xs !=ys)) w
def Ya(P:Program)(t:TypeId):Bool:=match P.underlying t with|some .bool=>true|_=>false
def oJ:List PV->Option (List Int)
 |[] =>some []
 | .int .i64 k::l=>(oJ l).map (k:: ·)
 |_=>none
theorem vD{C:bI}:∀{l:List PV} {xs:List Int} {vs:List Value},oJ l=some xs->bO C l vs->vs=xs.map (Value.int .i64)
 |[],xs,vs,h,hr=>by simp[oJ]at h;subst h;unfold bO at hr;subst hr;rfl
 |x::l,xs,vs,h,hr=>by
  unfold oJ at h;split at h
  ·rename_i e;cases e
  ·rename_i k l' e;cases e;simp only[Option.map_eq_some_iff]at h;obtain⟨r,h1,rfl⟩:=h;unfold bO at hr;obtain⟨v,vs',rfl,h2,h3⟩:=hr;unfold aU at h2;rw[h2,vD h1 h3];rfl
  ·cases h
theorem sA{t:TypeId}(hu:P.underlying t=some .bool)(a b:Bool)(w:World):(Op.equal t (.bool a) (.bool b)).run P w= .ok (a==b) w:=by
 unfold Op.equal;rw[show Op.maxDepth=9999+1 from rfl]
 generalize 9999=d;unfold Op.equalIn;simp[run_underlying hu]
def xO(op:BinOp)(k:IntKind)(a b:Int)(K:AV->Prop):Prop:=match op with
 | .add=>K (.p (.int k (k.wrap (a+b))))
 | .sub=>K (.p (.int k (k.wrap (a-b))))
 | .mul=>K (.p (.int k (k.wrap (a*b))))
 | .quo=>b≠0/\K (.p (.int k (k.wrap (a.tdiv b))))
 | .rem=>b≠0/\K (.p (.int k (a.tmod b)))
 | .eql=>K (.p (.bool (a==b)))
 | .neq=>K (.p (.bool (a !=b)))
 | .lss=>K (.p (.bool (decide (a<b))))
 | .leq=>K (.p (.bool (decide (a<=b))))
 | .gtr=>K (.p (.bool (decide (b<a))))
 | .geq=>K (.p (.bool (decide (b<=a))))
 |_=>False
def Uv(P:Program)(op:BinOp)(t:TypeId)(x y:AV)(K:AV->Prop):Prop:=match x,y with
 | .p (.int k a),.p (.int k' b)=>k'=k/\xO op k a b K
 | .p (.bool a),.p (.bool b)=>Ya P t=true/\(match op with| .eql=>K (.p (.bool (a==b)))| .neq=>K (.p (.bool (a !=b)))|_=>False)
 | .p (.agg l),.p (.agg m)=>∃xs ys,oJ l=some xs/\oJ m=some ys/\xs.length=ys.length/\Bn P t xs.length/\(match op with| .eql=>K (.p (.bool (xs==ys)))| .neq=>K (.p (.bool (xs !=ys)))|_=>False)
 | .p (.sl _ cs),.nil=>(dO P t).isSome=true/\cs≠[]/\op= .eql/\K (.p (.bool false))
 |_,_=>False
theorem aCK{op:BinOp}{t t':TypeId}{x y:Operand}(ho:o.op= .binOp op t x y t'){K:AV->Prop}(h:Uv P op t (E x) (E y) K):∃r,bM P o E σ n r [] []/\K r:=by
 have hx:x∈o.op.operands.toList:=by rw[ho];simp[Op.operands]
 have hy:y∈o.op.operands.toList:=by rw[ho];simp[Op.operands]
 unfold Uv at h;split at h
 ·rename_i k a k' b ea eb;obtain⟨rfl,h⟩:=h;have key:∀r:AV,(∀ρ C,∃v,(∀w:World,(do eqGuard op t x y (.int k' a) (.int k' b);binOp op t (.int k' a) (.int k' b):Sem Value).run P w= .ok v w)/\aE ρ C r v)->bM P o E σ n r [] [] :=by
   intro r hr;refine bM.val ?_;intro ρ C V w hE;have h1:=hE x hx;have h2:=hE y hy;rw[ea]at h1;rw[eb]at h2;unfold aE aU at h1 h2;obtain⟨v,h3,h4⟩:=hr ρ C;refine⟨v,?_,h4⟩;unfold execOp;rw[ho];simp only[h1,h2,Sem.run_bind (x:=(do eqGuard op t x y (.int k' a) (.int k' b);binOp op t (.int k' a) (.int k' b):Sem Value)),h3,Result.andThen_ok,Sem.run_pure]
  unfold xO at h;split at h
  ·exact⟨_,key _ fun ρ C=>⟨.int k' _,fun w=>by simp[eqGuard,binOp,Op.intArith];rfl,by unfold aE aU;rfl⟩,h⟩
  ·exact⟨_,key _ fun ρ C=>⟨.int k' _,fun w=>by simp[eqGuard,binOp,Op.intArith];rfl,by unfold aE aU;rfl⟩,h⟩
  ·exact⟨_,key _ fun ρ C=>⟨.int k' _,fun w=>by simp[eqGuard,binOp,Op.intArith];rfl,by unfold aE aU;rfl⟩,h⟩
  ·exact⟨_,key _ fun ρ C=>⟨.int k' _,fun w=>by simp[eqGuard,binOp,Op.intDiv,h.1];rfl,by unfold aE aU;rfl⟩,h.2⟩
  ·exact⟨_,key _ fun ρ C=>⟨.int k' _,fun w=>by simp[eqGuard,binOp,Op.intDiv,h.1];rfl,by unfold aE aU;rfl⟩,h.2⟩
  ·exact⟨_,key _ fun ρ C=>⟨.bool _,fun w=>by simp[eqGuard,binOp,Op.intCmp];rfl,by unfold aE aU;rfl⟩,h⟩
  ·exact⟨_,key _ fun ρ C=>⟨.bool _,fun w=>by simp[eqGuard,binOp,Op.intCmp];rfl,by unfold aE aU;rfl⟩,h⟩
  ·exact⟨_,key _ fun ρ C=>⟨.bool _,fun w=>by simp[eqGuard,binOp,Op.intCmp];rfl,by unfold aE aU;rfl⟩,h⟩
  ·exact⟨_,key _ fun ρ C=>⟨.bool _,fun w=>by simp[eqGuard,binOp,Op.intCmp];rfl,by unfold aE aU;rfl⟩,h⟩
  ·exact⟨_,key _ fun ρ C=>⟨.bool _,fun w=>by simp[eqGuard,binOp,Op.intCmp];rfl,by unfold aE aU;rfl⟩,h⟩
  ·exact⟨_,key _ fun ρ C=>⟨.bool _,fun w=>by simp[eqGuard,binOp,Op.intCmp];rfl,by unfold aE aU;rfl⟩,h⟩
  ·exact h.elim
 ·rename_i a b ea eb;obtain⟨ht,h⟩:=h;unfold Ya at ht;have hu:P.underlying t=some .bool:=by
   split at ht
   ·assumption
   ·cases ht
  have key:∀r:AV,(∀ρ C,∃v,(∀w:World,(do eqGuard op t x y (.bool a) (.bool b);binOp op t (.bool a) (.bool b):Sem Value).run P w= .ok v w)/\aE ρ C r v)->bM P o E σ n r [] [] :=by
   intro r hr;refine bM.val ?_;intro ρ C V w hE;have h1:=hE x hx;have h2:=hE y hy;rw[ea]at h1;rw[eb]at h2;unfold aE aU at h1 h2;obtain⟨v,h3,h4⟩:=hr ρ C;refine⟨v,?_,h4⟩;unfold execOp;rw[ho];simp only[h1,h2,Sem.run_bind (x:=(do eqGuard op t x y (.bool a) (.bool b);binOp op t (.bool a) (.bool b):Sem Value)),h3,Result.andThen_ok,Sem.run_pure]
  split at h
  ·exact⟨_,key _ fun ρ C=>⟨.bool _,fun w=>by simp only[eqGuard,binOp,sA hu,Sem.run_bind,Result.andThen_ok,Sem.run_pure];rfl,by unfold aE aU;rfl⟩,h⟩
  ·exact⟨_,key _ fun ρ C=>⟨.bool _,fun w=>by simp only[eqGuard,binOp,sA hu,Sem.run_bind,Result.andThen_ok,Sem.run_pure];rfl,by unfold aE aU;rfl⟩,h⟩
  ·exact h.elim
 ·rename_i l m ea eb;obtain⟨xs,ys,hxs,hys,hlen,hEq,h⟩:=h;have key:∀r:AV,(∀ρ C,∃v,(∀w:World,(do eqGuard op t x y (.agg (xs.map (Value.int .i64)).toArray) (.agg (ys.map (Value.int .i64)).toArray);binOp op t (.agg (xs.map (Value.int .i64)).toArray) (.agg (ys.map (Value.int .i64)).toArray):Sem Value).run P w= .ok v w)/\aE ρ C r v)->bM P o E σ n r [] [] :=by
   intro r hr;refine bM.val ?_;intro ρ C V w hE;have h1:=hE x hx;have h2:=hE y hy;rw[ea]at h1;rw[eb]at h2;unfold aE aU at h1 h2;obtain⟨vs1,h1,r1,_⟩:=h1;obtain⟨vs2,h2,r2,_⟩:=h2;rw[vD hxs r1]at h1;rw[vD hys r2]at h2;obtain⟨v,h3,h4⟩:=hr ρ C;refine⟨v,?_,h4⟩;unfold execOp;rw[ho];simp only[h1,h2,Sem.run_bind (x:=(do eqGuard op t x y (.agg (xs.map (Value.int .i64)).toArray) (.agg (ys.map (Value.int .i64)).toArray);binOp op t (.agg (xs.map (Value.int .i64)).toArray) (.agg (ys.map (Value.int .i64)).toArray):Sem Value)),h3,Result.andThen_ok,Sem.run_pure]
  split at h
  ·exact⟨_,key _ fun ρ C=>⟨.bool _,fun w=>(hEq xs ys x y w rfl hlen.symm).1,by unfold aE aU;rfl⟩,h⟩
  ·exact⟨_,key _ fun ρ C=>⟨.bool _,fun w=>(hEq xs ys x y w rfl hlen.symm).2,by unfold aE aU;rfl⟩,h⟩
  ·exact h.elim
 ·rename_i m cs ea eb;obtain⟨ht,hcs,rfl,h⟩:=h;obtain⟨e,hu⟩:∃e,P.underlying t=some (.slice e):=by
   unfold dO at ht;split at ht
   ·exact⟨_,by assumption⟩
   ·cases ht
  refine⟨_,bM.val ?_,h⟩;intro ρ C V w hE;have h1:=hE x hx;have h2:=hE y hy;rw[ea]at h1;rw[eb]at h2;unfold aE at h1 h2;unfold aU at h1;obtain⟨a,c,h1,_,h3,_⟩:=h1;obtain⟨ad,rfl⟩:∃ad,a=some ad:=by
   cases a with
   |none=>exact absurd (h3 rfl).2 hcs
   |some ad=>exact⟨ad,rfl⟩
  refine⟨.bool false,?_,by unfold aE aU;rfl⟩
  unfold execOp;rw[ho];have h4:∀w:World,(Op.equalIn (9999+1) t (.slice (some ad) m c) (.slice none 0 0)).run P w= .ok false w:=fun w=>by
   generalize 9999=D;simp only[Op.equalIn,Sem.run_bind,run_underlying hu,Result.andThen_ok,Sem.run_pure]
  have h5:∀w:World,(binOp .eql t (.slice (some ad) m c) (.slice none 0 0)).run P w= .ok (.bool false) w:=fun w=>by
   have:=h4 w;simp only[binOp,Op.equal,Op.maxDepth,Sem.run_bind,this,Result.andThen_ok];rfl
  simp only[h1,h2,eqGuard,Sem.run_bind,h5,Sem.run_pure];try rfl
 ·exact h.elim
def unA(op:UnOp)(x:AV)(K:AV->Prop):Prop:=match op,x with
 | .not,.p (.bool b)=>K (.p (.bool !b))
 | .neg,.p (.int k a)=>K (.p (.int k (k.wrap (0-a))))
 |_,_=>False
theorem aEZ{op:UnOp}{t:TypeId}{x:Operand}(ho:o.op= .unOp op t x){K:AV->Prop}(h:unA op (E x) K):∃r,bM P o E σ n r [] []/\K r:=by
 have hx:x∈o.op.operands.toList:=by rw[ho];simp[Op.operands]
 unfold unA at h;split at h
 ·rename_i b e;refine⟨_,bM.val ?_,h⟩;intro ρ C V w hE;have h1:=hE x hx;rw[e]at h1;unfold aE aU at h1;exact⟨.bool !b,by unfold execOp;rw[ho];simp[h1,Op.unary],by unfold aE aU;rfl⟩
 ·rename_i k a e;refine⟨_,bM.val ?_,h⟩;intro ρ C V w hE;have h1:=hE x hx;rw[e]at h1;unfold aE aU at h1;exact⟨_,by unfold execOp;rw[ho];simp only[h1,Op.unary,Op.intArith];rfl,by unfold aE aU;rfl⟩
 ·exact h.elim
def So(P:Program)(src dst:TypeId)(x:AV)(K:AV->Prop):Prop:=match x with
 | .p (.int _ a)=>(P.underlying src).isSome=true/\∃k,aEr P dst=some k/\K (.p (.int k (k.wrap a)))
 |_=>False
theorem aBm{src dst:TypeId}{x:Operand}(ho:o.op= .convert src dst x){K:AV->Prop}(h:So P src dst (E x) K):∃r,bM P o E σ n r [] []/\K r:=by
 have hx:x∈o.op.operands.toList:=by rw[ho];simp[Op.operands]
 unfold So at h;split at h
 ·rename_i k0 a e;obtain⟨hs,k,hk,h⟩:=h;obtain⟨d,hs⟩:=Option.isSome_iff_exists.1 hs;have hd:P.underlying dst=some (.int k):=by
   unfold aEr at hk;split at hk
   ·cases hk;assumption
   ·cases hk
  refine⟨_,bM.val ?_,h⟩;intro ρ C V w hE;have h1:=hE x hx;rw[e]at h1;unfold aE aU at h1;refine⟨_,?_,by unfold aE aU;rfl⟩
  unfold execOp;rw[ho];simp only[h1,convert,Sem.run_bind,run_underlying hs,run_underlying hd,Result.andThen_ok,Conv.intToInt,Sem.run_pure]
 ·exact h.elim
theorem aAX{f:Fn}{first caps:Array Operand}(ho:o.op= .makeFunc f first caps):bM P o E σ n (.fn f (first.toList.map E) (caps.toList.map E)) [] [] :=by
 refine bM.val ?_;intro ρ C V w hE;refine⟨.func f (first.map (bB V)) (caps.map (bB V)),?_,?_⟩
 ·unfold execOp;rw[ho];rfl
 ·unfold aE;have key:∀l:List Operand,(∀x∈l,aE ρ C (E x) (bB V x))->aP ρ C (l.map E) (l.map (bB V)):=by
   intro l;induction l with
   |nil=>intro _;simp only[List.map_nil];unfold aP;rfl
   |cons x l ih=>
    intro h;simp only[List.map_cons];unfold aP;exact⟨_,_,rfl,h x List.mem_cons_self,ih fun y hy=>h y (List.mem_cons_of_mem _ hy)⟩
  refine⟨first.toList.map (bB V),caps.toList.map (bB V),?_,key _ fun x hx=>hE x ?_,key _ fun x hx=>hE x ?_⟩
  ·congr 1<;>(apply Array.toList_inj.1;simp)
  ·rw[ho];simp only[Op.operands,Array.toList_append,List.mem_append];exact .inl hx
  ·rw[ho];simp only[Op.operands,Array.toList_append,List.mem_append];exact .inr hx
def Pp(P:Program)(t:TypeId)(f:Nat)(x:AV)(K:AV->Prop):Prop:=∃q,Ot P t f=some q/\match x with
 | .ptr s off=>K (.ptr s (off+q.1))
 | .p (.pro cs off)=>K (.p (.pro cs (off+q.1)))
 |_=>False
theorem Mk{t:TypeId}{f:Nat}{q:Nat×TypeId}(h:Ot P t f=some q)(w:World)(b off:Nat):
  (Instr.fieldAt t (.pointer (some ⟨b,off,none⟩)) f).run P w= .ok (.pointer (some ⟨b,off+q.1,none⟩)) w:=by
 unfold Ot at h;split at h
 ·rename_i fs hu;simp only[Option.bind_eq_some_iff]at h;obtain⟨x,hx,h⟩:=h;split at h
  ·cases h
  ·rename_i hz;cases h;cases hi:P.info? x.type with
   |none=>simp[aZ,hi]at hz
   |some i=>
    have hne:i.size≠0:=by simpa[aZ,hi]using hz
    simp[Instr.fieldAt,run_underlying hu,hx,Instr.sureAddr,fieldPlace,sizeOf,typeInfo,hi,hne,Addr.add_mid]
 ·cases h
theorem Wv{t:TypeId}{f:Nat}{x:Operand}(ho:o.op= .fieldAddr t x f){K:AV->Prop}(h:Pp P t f (E x) K):∃r,bM P o E σ n r [] []/\K r:=by
 have hx:x∈o.op.operands.toList:=by rw[ho];simp[Op.operands]
 obtain⟨q,hq,h⟩:=h;split at h
 ·rename_i s off e;refine⟨_,bM.val ?_,h⟩;intro ρ C V w hE;have h1:=hE x hx;rw[e]at h1;unfold aE at h1;obtain⟨b,c,h1,h2⟩:=h1;refine⟨.pointer (some ⟨b,off+q.1,none⟩),?_,by unfold aE;exact⟨b,c,h1,rfl⟩⟩
  unfold execOp;rw[ho];simp only[h2,Sem.run_bind,Mk hq,Result.andThen_ok,Sem.run_pure]
 ·rename_i cs off e;refine⟨_,bM.val ?_,h⟩;intro ρ C V w hE;have h1:=hE x hx;rw[e]at h1;unfold aE aU at h1;obtain⟨b,oo,h1,h2⟩:=h1;refine⟨.pointer (some ⟨b,oo+off+q.1,none⟩),?_,by unfold aE aU;exact⟨b,oo,by rw[Nat.add_assoc],h2⟩⟩
  unfold execOp;rw[ho];simp only[h1,Sem.run_bind,Mk hq,Result.andThen_ok,Sem.run_pure]
 ·exact h.elim
def Av(P:Program)(t:TypeId)(l:List AV)(off:Nat)(K:AV->Prop):Prop:=
 tok P t=true/\if oA P t=true then∃m,(l.drop off).take (aZ P t)=m/\K (eN m)else∃x,l[off]? =some x/\K x
def Pn(P:Program)(t:TypeId)(f:Nat)(x:AV)(K:AV->Prop):Prop:=∃q,Ot P t f=some q/\match x with
 | .agg l=>Av P q.2 l q.1 K
 | .p (.agg l)=>Av P q.2 (l.map .p) q.1 K
 |_=>False
theorem aP.take{ρ:Ren}{C:bI}{l:List AV}{vs:List Value}(h:aP ρ C l vs)(k:Nat):aP ρ C (l.take k) (vs.take k):=
 aP.of _ _ (by simp[h.length]) fun i x hi=>by
  rw[List.getElem?_take]at hi|-;split at hi
  ·rw[if_pos ‹_›];exact h.get _ _ i x hi
  ·cases hi
theorem aP.drop{ρ:Ren}{C:bI}{l:List AV}{vs:List Value}(h:aP ρ C l vs)(k:Nat):aP ρ C (l.drop k) (vs.drop k):=
 aP.of _ _ (by simp[h.length]) fun i x hi=>by
  rw[List.getElem?_drop]at hi|-;exact h.get _ _ _ x hi
theorem aAQ{t:TypeId}{l:List AV}{off:Nat}{K:AV->Prop}(h:Av P t l off K):∃r,K r/\∀(ρ:Ren) (C:bI) (vs:List Value) (w:World),aP ρ C l vs->lT vs->∃v,(part t vs.toArray off).run P w= .ok v w/\aE ρ C r v:=by
 obtain⟨ht,h⟩:=h;unfold tok at ht;simp only[Bool.and_eq_true,Option.isSome_iff_exists]at ht;obtain⟨⟨i,hi⟩,d,hd⟩:=ht;have hag:∀w:World,(isAgg t).run P w= .ok (oA P t) w:=by
  intro w;unfold isAgg oA;rw[Sem.run_bind,run_underlying hd w,hd];cases d<;>rfl
 split at h
 ·rename_i hg;obtain⟨m,hm,hK⟩:=h;refine⟨_,hK,?_⟩;intro ρ C vs w hr h1s;have h2:=(hr.drop off).take (aZ P t);rw[hm]at h2;refine⟨_,?_,tI h2 fun u hu=>h1s u (List.mem_of_mem_drop (List.mem_of_mem_take hu))⟩
  have hsz:aZ P t=i.size:=by simp[aZ,hi]
  simp only[part,Sem.run_bind,hag,hg,Result.andThen_ok,if_true,sizeOf,typeInfo,run_program,hi,Sem.run_pure]
  congr 2
  apply Array.toList_inj.1;rw[hsz];simp
 ·rename_i hg;obtain⟨x,hx,hK⟩:=h;refine⟨x,hK,?_⟩;intro ρ C vs w hr _;obtain⟨v,h1,h2⟩:=hr.get _ _ off x hx;refine⟨v,?_,h2⟩;have hg':oA P t=false:=by simpa using hg
  simp[part,hag,hg',h1]
theorem Wu{t:TypeId}{f:Nat}{x:Operand}(ho:o.op= .field t x f){K:AV->Prop}(h:Pn P t f (E x) K):∃r,bM P o E σ n r [] []/\K r:=by
 have hx:x∈o.op.operands.toList:=by rw[ho];simp[Op.operands]
 obtain⟨q,hq,h⟩:=h;have key:∀l,Av P q.2 l q.1 K->(∀ρ C v,aE ρ C (E x) v->∃vs:List Value,v= .agg vs.toArray/\aP ρ C l vs/\lT vs)->∃r,bM P o E σ n r [] []/\K r:=by
  intro l hl hv;obtain⟨r,hK,hr⟩:=aAQ hl;refine⟨r,bM.val ?_,hK⟩;intro ρ C V w hE;obtain⟨vs,h1,h2,h2s⟩:=hv ρ C _ (hE x hx);obtain⟨v,h3,h4⟩:=hr ρ C vs w h2 h2s;refine⟨v,?_,h4⟩;unfold Ot at hq;split at hq
  ·rename_i fs hu;simp only[Option.bind_eq_some_iff]at hq;obtain⟨y,hy,hq⟩:=hq;split at hq
   ·cases hq
   ·cases hq;unfold execOp;rw[ho];simp[h1,Instr.field,run_underlying hu,hy,asAgg,h3]
  ·cases hq
 split at h
 ·rename_i l e;refine key l h fun ρ C v hv=> ?_
  rw[e]at hv;unfold aE at hv;exact hv
 ·rename_i l e;refine key _ h fun ρ C v hv=> ?_
  rw[e]at hv;unfold aE aU at hv;obtain⟨vs,h1,h2,h3⟩:=hv;exact⟨vs,h1,h2.toA,h3⟩
 ·exact h.elim
def Hx(P:Program)(t:TypeId)(x i:AV)(K:AV->Prop):Prop:=match x,i with
 | .p (.sl n cs),.p (.int _ a)=>∃e,dO P t=some e/\(P.info? e).isSome=true/\0<=a/\a<n/\K (.p (.pro cs (a.toNat*aZ P e)))
 | .own s o n,.p (.int _ a)=>∃e,dO P t=some e/\(P.info? e).isSome=true/\0<=a/\a<n/\K (.ptr s (o+a.toNat*aZ P e))
 | .ptr s off,.p (.int _ a)=>∃q,Ki P t=some q/\(P.info? q.2).isSome=true/\0<=a/\a<q.1/\K (.ptr s (off+a.toNat*aZ P q.2))
 | .p (.pro cs off),.p (.int _ a)=>∃q,Ki P t=some q/\(P.info? q.2).isSome=true/\0<=a/\a<q.1/\K (.p (.pro cs (off+a.toNat*aZ P q.2)))
 |_,_=>False
theorem Gp{t e:TypeId}(ht:P.underlying t=some (.slice e))(he:(P.info? e).isSome=true){k:IntKind}{a:Int}{n c b off:Nat}(h0:0<=a)(h1:a<n)(w:World):
  (Instr.indexAt t (.slice (some ⟨b,off,none⟩) n c) (.int k a)).run P w= .ok (.pointer (some ⟨b,off+a.toNat*aZ P e,none⟩)) w:=by
 obtain⟨i,hi⟩:=Option.isSome_iff_exists.1 he;simp[Instr.indexAt,asIntOf,run_underlying ht,h0,h1,sizeOf,typeInfo,hi,aZ,Addr.add_mid]
theorem Dj{t e:TypeId}{m:Nat}(ht:P.underlying t=some (.array m e))(he:(P.info? e).isSome=true){k:IntKind}{a:Int}{b off:Nat}(h0:0<=a)(h1:a<m)(w:World):
  (Instr.indexAt t (.pointer (some ⟨b,off,none⟩)) (.int k a)).run P w= .ok (.pointer (some ⟨b,off+a.toNat*aZ P e,none⟩)) w:=by
 obtain⟨i,hi⟩:=Option.isSome_iff_exists.1 he;simp[Instr.indexAt,Instr.sureAddr,asIntOf,run_underlying ht,h0,h1,sizeOf,typeInfo,hi,aZ,Addr.add_mid]
theorem hZ{t e:TypeId}(h:dO P t=some e):P.underlying t=some (.slice e):=by
 unfold dO at h;split at h
 ·cases h;assumption
 ·cases h
theorem Zg{t:TypeId}{q:Nat×TypeId}(h:Ki P t=some q):P.underlying t=some (.array q.1 q.2):=by
 unfold Ki at h;split at h
 ·cases h;assumption
 ·cases h
theorem Wp{t:TypeId}{x i:Operand}(ho:o.op= .indexAddr t x i){K:AV->Prop}(h:Hx P t (E x) (E i) K):∃r,bM P o E σ n r [] []/\K r:=by
 have hx:x∈o.op.operands.toList:=by rw[ho];simp[Op.operands]
 have hi:i∈o.op.operands.toList:=by rw[ho];simp[Op.operands]
 unfold Hx at h;split at h
 ·rename_i m cs k a ex ei;obtain⟨e,he,he2,h0,h1,hK⟩:=h;refine⟨_,bM.val ?_,hK⟩;intro ρ C V w hE;have g1:=hE x hx;have g2:=hE i hi;rw[ex]at g1;rw[ei]at g2;unfold aE aU at g1 g2;obtain⟨ad,c,g1,g3,g4,g5⟩:=g1;cases ad with
  |none=>have:=(g4 rfl).1;omega
  |some ad=>
   obtain⟨b,off,sp⟩:=ad;obtain⟨g5,g6⟩:=g5 _ rfl;have g5:sp=none:=g5 (by omega)
   subst g5;refine⟨.pointer (some ⟨b,off+a.toNat*aZ P e,none⟩),?_,by unfold aE aU;exact⟨b,off,rfl,g6⟩⟩
   unfold execOp;rw[ho];simp only[g1,g2,Sem.run_bind,Gp (hZ he) he2 h0 h1,Result.andThen_ok,Sem.run_pure]
 ·rename_i s oo m k a ex ei;obtain⟨e,he,he2,h0,h1,hK⟩:=h;refine⟨_,bM.val ?_,hK⟩;intro ρ C V w hE;have g1:=hE x hx;have g2:=hE i hi;rw[ex]at g1;rw[ei]at g2;unfold aE at g1 g2;unfold aU at g2;obtain⟨q,c,g1,g3|⟨b,o',c',rfl,g4,g5,g6,g7⟩⟩:=g1
  ·omega
  ·have:=g6 (by omega);subst this
   refine⟨.pointer (some ⟨b,o'+a.toNat*aZ P e,none⟩),?_,by unfold aE;exact⟨b,c,g1,rfl⟩⟩
   unfold execOp;rw[ho];simp only[g4,g2,Sem.run_bind,Gp (hZ he) he2 h0 h1,Result.andThen_ok,Sem.run_pure]
 ·rename_i s off k a ex ei;obtain⟨q,he,he2,h0,h1,hK⟩:=h;refine⟨_,bM.val ?_,hK⟩;intro ρ C V w hE;have g1:=hE x hx;have g2:=hE i hi;rw[ex]at g1;rw[ei]at g2;unfold aE at g1 g2;unfold aU at g2;obtain⟨b,c,g1,g3⟩:=g1;refine⟨.pointer (some ⟨b,off+a.toNat*aZ P q.2,none⟩),?_,by unfold aE;exact⟨b,c,g1,rfl⟩⟩
  unfold execOp;rw[ho];simp only[g3,g2,Sem.run_bind,Dj (Zg he) he2 h0 h1,Result.andThen_ok,Sem.run_pure]
 ·rename_i cs off k a ex ei;obtain⟨q,he,he2,h0,h1,hK⟩:=h;refine⟨_,bM.val ?_,hK⟩;intro ρ C V w hE;have g1:=hE x hx;have g2:=hE i hi;rw[ex]at g1;rw[ei]at g2;unfold aE aU at g1 g2;obtain⟨b,oo,g1,g3⟩:=g1;refine⟨.pointer (some ⟨b,oo+off+a.toNat*aZ P q.2,none⟩),?_,by unfold aE aU;exact⟨b,oo,by rw[Nat.add_assoc],g3⟩⟩
  unfold execOp;rw[ho];simp only[g1,g2,Sem.run_bind,Dj (Zg he) he2 h0 h1,Result.andThen_ok,Sem.run_pure]
 ·exact h.elim
def Ku(x:AV)(i:Nat)(K:AV->Prop):Prop:=match x with
 | .tup l=>∃y,l[i]? =some y/\K y
 | .p (.tup l)=>∃y,l[i]? =some y/\K (.p y)
 |_=>False
theorem aBd{x:Operand}{i:Nat}(ho:o.op= .extract x i){K:AV->Prop}(h:Ku (E x) i K):∃r,bM P o E σ n r [] []/\K r:=by
 have hx:x∈o.op.operands.toList:=by rw[ho];simp[Op.operands]
 unfold Ku at h;split at h
 ·rename_i l e;obtain⟨y,hy,h⟩:=h;refine⟨_,bM.val ?_,h⟩;intro ρ C V w hE;have h1:=hE x hx;rw[e]at h1;unfold aE at h1;obtain⟨vs,h1,h2⟩:=h1;obtain⟨v,h3,h4⟩:=h2.get _ _ i y hy;refine⟨v,?_,h4⟩;unfold execOp;rw[ho];simp[h1,Instr.extract,h3]
 ·rename_i l e;obtain⟨y,hy,h⟩:=h;refine⟨_,bM.val ?_,h⟩;intro ρ C V w hE;have h1:=hE x hx;rw[e]at h1;unfold aE aU at h1;obtain⟨vs,h1,h2⟩:=h1;obtain⟨v,h3,h4⟩:=h2.get _ _ i y hy;refine⟨v,?_,by unfold aE;exact h4⟩
  unfold execOp;rw[ho];simp[h1,Instr.extract,h3]
 ·exact h.elim
end
end Go.Proofs.YtdaeofhdgabhjaaGreat
namespace Go.Proofs.YtdaeofhdgabhjaaGreat
open Go.RowKit
end Go.Proofs.YtdaeofhdgabhjaaGreat
namespace Go.Proofs.YtdaeofhdgabhjaaGreat
open Go.RowKit
def cH(l:List Oper)(j:Nat):Nat:=((l[j]?).bind (·.dst)).getD 1000000
def eA(anc:List (List Nat))(i:Nat):List Nat:=anc.getD i []
def eT(l:List Oper)(V:Nat->Value)(j:Nat):Value:=if cH l j=1000000 then undef else V (cH l j)
def Hw(l:List Oper)(anc:List (List Nat))(i s:Nat):Bool:=(List.range l.length).all fun j=>cH l j !=s||(eA anc j).contains i||j==i
def okF(l:List Oper)(anc:List (List Nat)):Bool:=
 (List.range l.length).all fun i=>
  (((l[i]?).map fun o=>(o.after.toList.all fun e=> !Region.binds .any e||(decide (e.on<i)&&(eA anc i).contains e.on))&&o.guard.isNone&&o.dst !=some 1000000).getD false)&&
  ((eA anc i).all fun j=>decide (j<i)&&(((l[i]?).map fun o=>o.after.toList.any fun e=>Region.binds .any e&&(e.on==j||(eA anc e.on).contains j)).getD false))&&
  ((List.range l.length).all fun j=>j==i||cH l j !=cH l i||cH l i==1000000)
def oW(S:Nat->Oper->Prop):List Oper->Nat->Prop
 |[],_=>True
 |o::r,k=>S k o/\oW S r (k+1)
theorem mI{S:Nat->Oper->Prop}:∀(l:List Oper) (k:Nat),oW S l k->∀i o,l[i]? =some o->S (k+i) o
 |[],_,_,i,o,h=>by simp at h
 |o'::r,k,h,0,o,ho=>by simp at ho;subst ho;exact h.1
 |o'::r,k,h,i+1,o,ho=>by
  have:=mI r (k+1) h.2 i o (by simpa using ho)
  rwa[show k+1+i=k+(i+1) by omega]at this
def fF(D:Nat->Bool)(i:Nat):Nat->Bool:=fun j=>if j=i then true else D j
def Sc(P:Program)(l:List Oper)(anc:List (List Nat))(a0:Act)(WR:(Nat->Bool)->World->Prop)(fact:Nat->Value->World->Prop)(i:Nat)(o:Oper):Prop:=
 ∀(D:Nat->Bool) (V:Nat->Value) (w:World),D i=false->(∀j,(eA anc i).contains j=true->D j=true/\fact j (eT l V j) w)->(∀j,(eA anc j).contains i=true->D j=false)->
  (∀s,Hw l anc i s=true->V s=a0.tmps.getD s undef)->WR D w->
  bZ P o V w fun v w'=>fact i (if cH l i=1000000 then undef else v) w'/\WR (fF D i) w'/\(w'=w\/Below w.heap.size w w'\/∀j,D j=true->fact j (eT l V j) w->fact j (eT l V j) w')
theorem opK{P:Program}{o:Oper}{V:Nat->Value}{w:World}{K:Value->World->Prop}(h:∀K':Value->World->Prop,(∀v w',K v w'->K' v w')->bZ P o V w K'):bZ P o V w K:=h K fun _ _ h=>h
theorem zA{P:Program}{id:Nat}{l:List Oper}{Q:Exit->Act->World->Prop}{a0:Act}{w0:World}(hm:P.follows .mixedOrders=true)
  (dsts:List Nat) (anc:List (List Nat)) (hok:okF l anc=true) (hdst:((List.range l.length).all fun i=>cH l i==1000000||dsts.contains (cH l i))=true) (hds:∀s∈dsts,s<a0.tmps.size)
  (WR:(Nat->Bool)->World->Prop) (fact:Nat->Value->World->Prop) (h0:WR (fun _=>false) w0.drew)
  (hmono:∀j v w w',fact j v w->Below w.heap.size w w'->fact j v w')
  (hstep:oW (Sc P l anc a0 WR fact) l 0)
  (hend:∀(D:Nat->Bool) (V:Nat->Value) (w:World),(∀i,i<l.length->D i=true)->(∀i,i<l.length->fact i (eT l V i) w)->WR D w->Q .normal (dP a0 dsts V) w):
  (Code.region id l.toArray true).wp P Q a0 w0:=by
 unfold okF at hok;rw[List.all_eq_true]at hok;have hget:∀i o,l[i]? =some o->i<l.length:=fun i o h=>(List.getElem?_eq_some_iff.1 h).1
 have hop:∀i o,l[i]? =some o->(∀e∈o.after.toList,Region.binds .any e=true->e.on<i/\(eA anc i).contains e.on=true)/\o.guard=none/\
   (∀j,(eA anc i).contains j=true->j<i/\∃e∈o.after.toList,Region.binds .any e=true/\(e.on=j\/(eA anc e.on).contains j=true))/\(∀d,o.dst=some d->cH l i=d/\d≠1000000)/\(o.dst=none->cH l i=1000000):=by
  intro i o ho;have h1:=hok i (List.mem_range.2 (hget i o ho));simp only[Bool.and_eq_true]at h1;obtain⟨⟨h2,h3⟩,_⟩:=h1;rw[ho]at h2;simp only[Option.map_some,Option.getD_some,Bool.and_eq_true,Option.isNone_iff_eq_none,bne_iff_ne,ne_eq]at h2;refine⟨?_,h2.1.2,?_,?_,?_⟩
  ·intro e he hb;have:=List.all_eq_true.1 h2.1.1 e he;rw[hb]at this;simpa using this
  ·intro j hj;rw[List.all_eq_true]at h3;have:=h3 j (by simpa using hj)
   simp only[Bool.and_eq_true,decide_eq_true_eq]at this;obtain⟨h4,h5⟩:=this;refine⟨h4,?_⟩;rw[ho]at h5;simp only[Option.map_some,Option.getD_some,List.any_eq_true,Bool.and_eq_true,Bool.or_eq_true,beq_iff_eq]at h5;exact h5
  ·intro d hd;refine⟨by unfold cH;rw[ho];simp[hd],?_⟩
   rintro rfl;exact h2.2 hd
  ·intro hd;unfold cH;rw[ho];simp[hd]
 have huniq:∀i j,i<l.length->j<l.length->j≠i->cH l j=cH l i->cH l i=1000000:=by
  intro i j hi hj hne he;have h1:=hok i (List.mem_range.2 hi);simp only[Bool.and_eq_true]at h1;obtain⟨_,h3⟩:=h1;rw[List.all_eq_true]at h3;have:=h3 j (List.mem_range.2 hj);simp only[Bool.or_eq_true,beq_iff_eq,bne_iff_ne,ne_eq]at this;rcases this with(h|h)|h
  ·exact absurd h hne
  ·exact absurd he h
  ·exact h
 let G:(Nat->Bool)->(Nat->Value)->World->Prop:=fun D V w=>
  (∀i j,D i=true->(eA anc i).contains j=true->D j=true)/\(∀i,i<l.length->D i=true->fact i (eT l V i) w)/\
  (∀s,(∀j,j<l.length->cH l j=s->D j=false)->V s=a0.tmps.getD s undef)/\WR D w
 refine yZ hm dsts ?_ hds G ?_ ?_ ?_
 ·rw[List.all_eq_true];intro i hi;have hi':=List.mem_range.1 hi;simp only[List.size_toArray]at hi';have ho:l[i]? =some l[i] :=List.getElem?_eq_getElem hi';obtain⟨q1,q2,q3,q4,q5⟩:=hop i _ ho;simp only[List.getElem?_toArray,ho,Option.map_some,Option.getD_some,Bool.and_eq_true];refine⟨?_,?_⟩
  ·rw[List.all_eq_true];intro e he;cases hb:Region.binds .any e with
   |false=>simp
   |true=>simpa using(q1 e he hb).1
  ·cases hd:l[i].dst with
   |none=>rfl
   |some d=>
    have e1:=(q4 d hd).1;rw[List.all_eq_true]at hdst;have:=hdst i (List.mem_range.2 hi');rw[e1]at this;simp only[Bool.or_eq_true,beq_iff_eq]at this;rcases this with h|h
    ·exact absurd h (q4 d hd).2
    ·simpa using h
 ·exact⟨(fun i j h=>by cases h),(fun i _ h=>by cases h),(fun s _=>rfl),h0⟩
 ·intro i o D V w ho ⟨g1,g2,g3,g4⟩ hD hpre hV;have ho':l[i]? =some o:=by simpa using ho
  obtain⟨q1,q2,q3,q4,q5⟩:=hop i o ho';have hi:=hget i o ho';have hanc:∀j,(eA anc i).contains j=true->D j=true:=by
   intro j hj;obtain⟨_,e,he,hb,h⟩:=q3 j hj;have:=hpre e he hb;rcases h with rfl|h
   ·exact this
   ·exact g1 _ _ this h
  have hdesc:∀j,(eA anc j).contains i=true->D j=false:=by
   intro j hj;cases hx:D j with
   |false=>rfl
   |true=>rw[g1 _ _ hx hj]at hD;cases hD
  have hs:=mI l 0 hstep i o ho';rw[Nat.zero_add]at hs;have hrun:=hs D V w hD (fun j hj=>⟨hanc j hj,g2 j (Nat.lt_trans (q3 j hj).1 hi) (hanc j hj)⟩) hdesc (fun s hsl=>g3 s (fun j hj hjs=>by
   unfold Hw at hsl;rw[List.all_eq_true]at hsl;have:=hsl j (List.mem_range.2 hj);simp only[Bool.or_eq_true,bne_iff_ne,ne_eq,beq_iff_eq]at this;rcases this with(h|h)|h
   ·exact absurd hjs h
   ·exact hdesc j h
   ·rw[h];exact hD)) g4
  rw[if_pos (by unfold Region.wanted;rw[q2])]
  have hmono':∀(K K':Value->World->Prop),(∀v w,K v w->K' v w)->bZ P o V w K->bZ P o V w K':=by
   intro K K' hk h;unfold bZ at h|-;split at h
   ·exact hk _ _ h
   ·exact hk _ _ h
   ·exact h.mono fun e w'' ⟨v,he,hv⟩=>⟨v,he,hk _ _ hv⟩
   ·exact h.elim
  have key:∀(U:Nat->Value) (v:Value) (w':World),(∀s,s≠cH l i->U s=V s)->(cH l i≠1000000->U (cH l i)=v)->
    (fact i (if cH l i=1000000 then undef else v) w'/\WR (fF D i) w'/\(w'=w\/Below w.heap.size w w'\/∀j,D j=true->fact j (eT l V j) w->fact j (eT l V j) w'))->G (fF D i) U w':=by
   rintro U v w' hVd hVv ⟨k1,k2,k3⟩;refine⟨?_,?_,?_,k2⟩
   ·intro i' j h1 h2;by_cases e:j=i
    ·simp[fF,e]
    ·by_cases e':i'=i
     ·subst e';simp only[fF,e,if_false];exact hanc j h2
     ·simp only[fF,e',if_false]at h1;simp only[fF,e,if_false];exact g1 _ _ h1 h2
   ·intro i' hi' h1;by_cases e:i'=i
    ·subst e;have:eT l U i'=if cH l i'=1000000 then undef else v:=by
      unfold eT;by_cases h6:cH l i'=1000000
      ·rw[if_pos h6,if_pos h6]
      ·rw[if_neg h6,if_neg h6,hVv h6]
     rw[this];exact k1
    ·simp only[fF,e,if_false]at h1;have:eT l U i'=eT l V i':=by
      unfold eT;by_cases h6:cH l i'=1000000
      ·rw[if_pos h6,if_pos h6]
      ·rw[if_neg h6,if_neg h6,hVd];intro h7;exact h6 (by rw[h7];exact huniq i i' hi hi' e h7)
     rw[this];have h8:=g2 i' hi' h1;rcases k3 with rfl|k3|k3
     ·exact h8
     ·exact hmono _ _ _ _ h8 k3
     ·exact k3 i' h1 h8
   ·intro s hs;have hne:s≠cH l i:=by
     intro h;have:=hs i hi h.symm;simp[fF]at this
    rw[hVd s hne];refine g3 s (fun j hj hjs=> ?_)
    have:=hs j hj hjs;by_cases e:j=i
    ·subst e;exact hD
    ·simpa[fF,e]using this
  refine hmono' _ _ ?_ hrun;intro v w' hk;show G (fF D i) _ w';cases hd:o.dst with
  |none=>
   have e1:=q5 hd;refine key _ v w' ?_ (fun h=>absurd e1 h) hk
   intro s _;rfl
  |some d=>
   have e1:=(q4 d hd).1;refine key _ v w' ?_ ?_ hk
   ·intro s hs;rw[e1]at hs;simp only[];rw[if_neg hs]
   ·intro _;rw[e1];simp
 ·intro D V w ⟨g1,g2,g3,g4⟩ hall;simp only[List.size_toArray]at hall;exact hend D V w hall (fun i hi=>g2 i hi (hall i hi)) g4
def Rd(w:World)(a:Option Addr)(cs:List Value):Prop:=∀i u,cs[i]? =some u->∃b off,a=some ⟨b,off,none⟩/\b<w.heap.size/\w.cell? ⟨b,off+i,none⟩=some u
theorem Rd.below{w w':World}{a:Option Addr}{cs:List Value}(h:Rd w a cs)(hb:Below w.heap.size w w'):Rd w' a cs:=by
 intro i u hi;obtain⟨b,off,ha,hlt,h1⟩:=h i u hi;exact⟨b,off,ha,Nat.lt_of_lt_of_le hlt hb.size,(hb.cell (p:=⟨b,_,none⟩) hlt).trans h1⟩
def kQ(base:Nat)(a:Option Addr):Prop:=∀b,a=some b->base<=b.block
theorem kQ.mono{m n:Nat}{a:Option Addr}(h:kQ n a)(hm:m<=n):kQ m a:=fun b hb=>Nat.le_trans hm (h b hb)
theorem Rd.Pi{w:World}{base:Nat}{e:TypeId}{size:Nat}{v:Value}{n:Nat}{cs:List Value}(h:w.ownsRow base e size v n cs):∃a c,v= .slice a n c/\Rd w a cs/\kQ base a/\(a=none->c=0):=by
 rcases h.2 with⟨h1,h2⟩|⟨g,cap,cur,h1,h2,h3,h4,h5,h6,h7⟩
 ·have:cs=[] :=List.length_eq_zero_iff.1 (by rw[h.1,h2];simp)
  exact⟨none,0,by rw[h1,h2],by rw[this];intro i u hi;simp at hi,(fun b hb=>by cases hb),fun _=>rfl⟩
 ·refine⟨some ⟨g,0,none⟩,cap,h1,?_,(fun b hb=>by cases hb;exact h2),(fun h=>by cases h)⟩
  intro i u hi;refine⟨g,0,rfl,Blk.lt h3,?_⟩;rw[Nat.zero_add,cell_of_row w g i cur e (0,0) h3];rw[<-h7,List.getElem?_take]at hi;split at hi
  ·simpa using hi
  ·cases hi
theorem fO{w w':World}{base:Nat}{e:TypeId}{size:Nat}{v:Value}{n:Nat}{xs:List Value}(h:w.ownsRow base e size v n xs)(hb:Below w.heap.size w w'):w'.ownsRow base e size v n xs:=by
 refine⟨h.1,?_⟩;rcases h.2 with h1|⟨g,cap,cur,h1,h2,h3,h4⟩
 ·exact .inl h1
 ·exact .inr ⟨g,cap,cur,h1,h2,Blk.then_ h3 hb,h4⟩
theorem eQ{w:World}{base:Nat}{e:TypeId}{size:Nat}{v:Value}{n:Nat}{xs:List Value}(h:w.ownsRow base e size v n xs):∀k,v.ownBlock=some k->base<=k/\k<w.heap.size:=by
 intro k hk;rcases h.2 with⟨rfl,_⟩|⟨g,cap,cur,rfl,h2,h3,_⟩
 ·simp[Value.ownBlock]at hk
 ·simp[Value.ownBlock]at hk;subst hk;exact⟨h2,Blk.lt h3⟩
theorem tG{P:Program}{o:Oper}{V:Nat->Value}{w:World}{K:Value->World->Prop}(s x:Operand)(t:TypeId)
  (ho:o.op= .call {callee:= .builtin .append,args:= #[s,x],argTypes:= #[t,t]})
  (base:Nat) (e:TypeId) (z:Value) (size bytes:Nat) (ht:P.underlying t=some (.slice e)) (hi:(P.info? e).map (fun i=>(i.zero,i.size,i.bytes))=some (some z,size,bytes)) (hzs:z.cells.size=size) (hsz:0<size)
  (v:Value) (n:Nat) (xs:List Value) (hs:bB V s=v) (hown:w.ownsRow base e size v n xs)
  (a:Option Addr) (m c:Nat) (cs:List Value) (hx:bB V x= .slice a m c) (hl:cs.length=m*size) (hg:Rd w a cs) (hn:a=none->c=0) (h1:∀u∈cs,u.oneCell'=true)
  (h63:n+m<=1000000) (hbytes:bytes<=1000000) (hbase:base<=w.heap.size)
  (h:∀v' w',w'.ownsRow base e size v' (n+m) (xs++cs)->Below base w w'->w.grownBy w' v.ownBlock->(∀k,v'.ownBlock=some k->v.ownBlock=some k\/w.heap.size<=k)->K v' w'):bZ P o V w K:=by
 obtain⟨i,hi1,hi2⟩:=Option.map_eq_some_iff.1 hi;simp only[Prod.mk.injEq]at hi2;obtain⟨i1,i2,i3⟩:=hi2;have hb:∀k,v.ownBlock=some k->base<=k:=fun k hk=>(eQ hown k hk).1
 by_cases hm:m=0
 ·subst hm;have hcs:cs=[] :=List.length_eq_zero_iff.1 (by omega)
  subst hcs;by_cases ha:a=none
  ·subst ha;have hc:=hn rfl;subst hc;have hr:=run_append_owned_none (P:=P) (w:=w) base t o.type e i size ht hi1 v n xs hown;unfold bZ execOp;simp only[ho,resolve,invoke,builtin,Sem.run_bind,Sem.run_pure,Result.andThen_ok,List.map_toArray,List.map_cons,List.map_nil,hs,hx,hr];exact h v w (by simpa using hown) (Below.refl _ _) ⟨rfl,rfl,rfl,Nat.le_refl _,fun _ _ _=>rfl⟩ (fun k hk=> .inl hk)
  ·obtain⟨a',rfl⟩:=Option.ne_none_iff_exists'.1 ha;obtain⟨v',w',hr,h2,h3,_,h5⟩:=run_append_own_at (P:=P) (w:=w) base t o.type e i z size bytes ht hi1 i1 i2 i3 hzs hsz v n xs hown a' 0 c [] (by simp) (by simp) (by simp) (by simp only[maxLen];omega) (Nat.le_trans (Nat.mul_le_mul h63 hbytes) (by decide)) hbase
   unfold bZ execOp;simp only[ho,resolve,invoke,builtin,Sem.run_bind,Sem.run_pure,Result.andThen_ok,List.map_toArray,List.map_cons,List.map_nil,hs,hx,hr];exact h v' w' h2 ((Below.refl base w).grown h3 hbase hb) h3 (fun k hk=>by rcases h5 with h5|h5<;>rw[h5]at hk;exact .inl hk;cases hk;exact .inr (Nat.le_refl _))
 ·obtain⟨u0,hu0⟩:∃u,cs[0]? =some u:=by
   have:0<cs.length:=by rw[hl];exact Nat.mul_pos (by omega) hsz
   exact⟨_,List.getElem?_eq_getElem this⟩
  obtain⟨b,off,rfl,hbl,_⟩:=hg 0 u0 hu0;have hnews:∀j u,cs[j]? =some u->w.cell? ((⟨b,off,none⟩:Addr).add j)=some u:=by
   intro j u hj;obtain⟨b',off',he,_,hc⟩:=hg j u hj;simp only[Option.some.injEq,Addr.mk.injEq,and_true]at he;obtain⟨rfl,rfl⟩:=he;unfold Addr.add;by_cases hj0:j=0
   ·subst hj0;simpa using hc
   ·rw[if_neg hj0];exact hc
  obtain⟨v',w',hr,h2,h3,_,h5⟩:=run_append_own_at (P:=P) (w:=w) base t o.type e i z size bytes ht hi1 i1 i2 i3 hzs hsz v n xs hown ⟨b,off,none⟩ m c cs hl hnews h1 (by simp only[maxLen];omega) (Nat.le_trans (Nat.mul_le_mul h63 hbytes) (by decide)) hbase
  unfold bZ execOp;simp only[ho,resolve,invoke,builtin,Sem.run_bind,Sem.run_pure,Result.andThen_ok,List.map_toArray,List.map_cons,List.map_nil,hs,hx,hr];exact h v' w' h2 ((Below.refl base w).grown h3 hbase hb) h3 (fun k hk=>by rcases h5 with h5|h5<;>rw[h5]at hk;exact .inl hk;cases hk;exact .inr (Nat.le_refl _))
theorem Rd.aFk{w:World}{g:Nat}{t:TypeId}{cs:Array Value}(h:Blk w g t cs):Rd w (some ⟨g,0,none⟩) cs.toList:=by
 intro i u hi;refine⟨g,0,rfl,h.lt,?_⟩;rw[Nat.zero_add,h.cell i];simpa using hi
def WR2(m:Nat)(A B:World->Prop)(D:Nat->Bool)(wx:World):Prop:=if D m=true then B wx else A wx
section
variable {m i:Nat} {A B:World->Prop} {D:Nat->Bool} {wx:World}
theorem WR2.start(h:A wx):WR2 m A B (fun _=>false) wx:=h
theorem WR2.lo(h:WR2 m A B D wx)(hD:D m=false):A wx:=by unfold WR2 at h;rw[hD]at h;exact h
theorem WR2.hi(h:WR2 m A B D wx)(hD:D m=true):B wx:=by unfold WR2 at h;rw[if_pos hD]at h;exact h
theorem WR2.mkLo(hD:D m=false)(hi:m≠i)(h:A wx):WR2 m A B (fF D i) wx:=by unfold WR2 fF;rw[if_neg hi,hD];exact h
theorem WR2.mkHi(h:B wx):WR2 m A B (fF D m) wx:=by unfold WR2 fF;rw[if_pos (if_pos rfl)];exact h
theorem WR2.keep(hi:m≠i)(h:WR2 m A B D wx):WR2 m A B (fF D i) wx:=by unfold WR2 fF at*;rw[if_neg hi];exact h
end
def WR3(m n:Nat)(A B C:World->Prop)(D:Nat->Bool)(wx:World):Prop:=if D n=true then C wx else if D m=true then B wx else A wx
section
variable {m n i:Nat} {A B C:World->Prop} {D:Nat->Bool} {wx:World}
theorem WR3.start(h:A wx):WR3 m n A B C (fun _=>false) wx:=h
theorem WR3.lo(h:WR3 m n A B C D wx)(hD:D m=false)(hn:D n=false):A wx:=by unfold WR3 at h;rw[hD,hn]at h;exact h
theorem WR3.mid(h:WR3 m n A B C D wx)(hD:D m=true)(hn:D n=false):B wx:=by unfold WR3 at h;rw[hn,if_pos hD]at h;exact h
theorem WR3.hi(h:WR3 m n A B C D wx)(hn:D n=true):C wx:=by unfold WR3 at h;rw[if_pos hn]at h;exact h
theorem WR3.mkLo(hD:D m=false)(hn:D n=false)(hi:m≠i)(hi2:n≠i)(h:A wx):WR3 m n A B C (fF D i) wx:=by unfold WR3 fF;rw[if_neg hi,if_neg hi2,hD,hn];exact h
theorem WR3.mkMid(hn:D n=false)(hmn:n≠m)(h:B wx):WR3 m n A B C (fF D m) wx:=by unfold WR3 fF;rw[if_neg hmn,hn,if_pos (if_pos rfl)];exact h
theorem WR3.mkHi(h:C wx):WR3 m n A B C (fF D n) wx:=by unfold WR3 fF;rw[if_pos (if_pos rfl)];exact h
theorem WR3.keep(hi:m≠i)(hi2:n≠i)(h:WR3 m n A B C D wx):WR3 m n A B C (fF D i) wx:=by unfold WR3 fF at*;rw[if_neg hi,if_neg hi2];exact h
end
theorem lH{w w':World}{row:Option Nat}{g:Nat}{t:TypeId}{cs:Array Value}(h:w.grownBy w' row)(hb:Blk w g t cs)(hne:row≠some g):Blk w' g t cs:=(h.block g hb.lt (fun e=>hne e.symm)).trans hb
theorem wC{w:World}{base:Nat}{e:TypeId}{size:Nat}{v:Value}{n:Nat}{xs:List Value}(h:w.ownsRow base e size v n xs){g:Nat}(hg:g<base):v.ownBlock≠some g:=fun hx=>by have:=(eQ h g hx).1;omega
end Go.Proofs.YtdaeofhdgabhjaaGreat
namespace Go.Proofs.YtdaeofhdgabhjaaGreat
open Go.RowKit
section
variable {P:Program} {o:Oper} {E:Operand->AV} {σ:Nat->Option Ob} {n:Nat}
def aBJ:AV->Option Int
 | .p (.int _ a)=>some a
 |_=>none
theorem Mg{ρ:Ren}{C:bI}{x:AV}{a:Int}{v:Value}(h:aBJ x=some a)(hr:aE ρ C x v):∃k,v= .int k a:=by
 unfold aBJ at h;split at h
 ·cases h;unfold aE aU at hr;exact⟨_,hr⟩
 ·cases h
def loA(E:Operand->AV)(lo:Option Operand)(d:Int):Option Int:=match lo with|none=>some d|some x=>aBJ (E x)
def xH(P:Program)(t:TypeId)(x:AV)(lo hi:Option Int)(K:AV->Prop):Prop:=∃e l h,dO P t=some e/\(P.info? e).isSome=true/\aZ P e≠0/\lo=some l/\hi=some h/\0<=l/\l<=h/\match x with
 | .p (.sl m cs)=>h<=m/\K (.p (.sl (h.toNat-l.toNat) ((cs.take (h.toNat*aZ P e)).drop (l.toNat*aZ P e))))
 | .own s oo m=>h<=m/\K (.own s (oo+l.toNat*aZ P e) (h.toNat-l.toNat))
 |_=>False
def Ht:AV->Int
 | .p (.sl m _)=>m
 | .own _ _ m=>m
 |_=>0
theorem xR{t e:TypeId}(ht:P.underlying t=some (.slice e))(he:(P.info? e).isSome=true)(a:Option Addr)(m c:Nat)(hmc:m<=c)(lo hi:Option Value)(l h:Int)(h0:0<=l)(h1:l<=h)(h2:h<=m)
  (hlo:(lo=none/\l=0)\/∃k,lo=some (.int k l)) (hhi:(hi=none/\h=m)\/∃k,hi=some (.int k h)) (w:World):
  (Instr.sliceAt t (.slice a m c) lo hi none).run P w= .ok (.slice (if c=l.toNat then a else a.map (·.add (l.toNat*aZ P e))) (h.toNat-l.toNat) (c-l.toNat)) w:=by
 obtain⟨i,hi'⟩:=Option.isSome_iff_exists.1 he;have hsz:aZ P e=i.size:=by simp[aZ,hi']
 have hb:(Instr.sliceBounds true m c lo hi none).run P w= .ok (l.toNat,h.toNat,c) w:=by
  rcases hlo with⟨rfl,rfl⟩|⟨k,rfl⟩<;>rcases hhi with⟨rfl,rfl⟩|⟨k',rfl⟩
  ·simp[Instr.sliceBounds]
  ·simp[Instr.sliceBounds,Instr.sliceBound,asIntOf,show 0<=h by omega,show h<=(c:Int) by omega]
  ·simp[Instr.sliceBounds,Instr.sliceBound,asIntOf,h0,h1]
  ·simp[Instr.sliceBounds,Instr.sliceBound,asIntOf,h0,show 0<=h by omega,show h<=(c:Int) by omega,show l<=max h 0 by omega]
 simp only[Instr.sliceAt,Sem.run_bind,run_underlying ht,Result.andThen_ok,Instr.slice,hb,sizeOf,typeInfo,run_program,hi',Sem.run_pure,hsz]
theorem Vh{t:TypeId}{x:Operand}{lo hi:Option Operand}(ho:o.op= .slice t x lo hi none){K:AV->Prop}(h:xH P t (E x) (loA E lo 0) (loA E hi (Ht (E x))) K):∃r,bM P o E σ n r [] []/\K r:=by
 have hx:x∈o.op.operands.toList:=by rw[ho];simp[Op.operands]
 have hl:∀y,lo=some y->y∈o.op.operands.toList:=by intro y hy;rw[ho];simp[Op.operands,hy]
 have hh:∀y,hi=some y->y∈o.op.operands.toList:=by intro y hy;rw[ho];simp[Op.operands,hy]
 obtain⟨e,l,hv,he,he2,hez,hlo,hhi,h0,h1,h⟩:=h;have klo:∀(ρ:Ren) (C:bI) (V:Nat->Value),(∀x∈o.op.operands.toList,aE ρ C (E x) (bB V x))->(lo.map (bB V)=none/\l=0)\/∃k,lo.map (bB V)=some (.int k l):=by
  intro ρ C V hE;unfold loA at hlo;cases lo with
  |none=>simp at hlo;exact .inl ⟨rfl,hlo.symm⟩
  |some y=>obtain⟨k,hk⟩:=Mg hlo (hE y (hl y rfl));exact .inr ⟨k,by simp[hk]⟩
 have khi:∀(m:Nat),Ht (E x)=m->∀(ρ:Ren) (C:bI) (V:Nat->Value),(∀x∈o.op.operands.toList,aE ρ C (E x) (bB V x))->(hi.map (bB V)=none/\hv=m)\/∃k,hi.map (bB V)=some (.int k hv):=by
  intro m hm ρ C V hE;unfold loA at hhi;cases hi with
  |none=>simp at hhi;exact .inl ⟨rfl,by rw[<-hhi,hm]⟩
  |some y=>obtain⟨k,hk⟩:=Mg hhi (hE y (hh y rfl));exact .inr ⟨k,by simp[hk]⟩
 split at h
 ·rename_i m cs ex;obtain⟨h2,hK⟩:=h;refine⟨_,bM.val ?_,hK⟩;intro ρ C V w hE;have g1:=hE x hx;rw[ex]at g1;unfold aE aU at g1;obtain⟨a,c,g1,g2,g3,g4⟩:=g1;have hrun:=xR (hZ he) he2 a m c g2 _ _ l hv h0 h1 h2 (klo ρ C V hE) (khi m (by rw[ex];rfl) ρ C V hE) w
  refine⟨.slice (if c=l.toNat then a else a.map (·.add (l.toNat*aZ P e))) (hv.toNat-l.toNat) (c-l.toNat),?_,?_⟩
  ·unfold execOp;rw[ho];simp only[g1,Option.map_none,Sem.run_bind,hrun,Result.andThen_ok,Sem.run_pure]
  ·unfold aE aU;refine⟨_,_,rfl,by omega,?_,?_⟩
   ·intro hn;have:a=none:=by
     split at hn
     ·exact hn
     ·simpa using hn
    obtain⟨rfl,rfl⟩:=g3 this;simp
   ·intro ad had;split at had
    ·rename_i hc;subst had;refine⟨fun hpos=>(g4 ad rfl).1 (by omega),?_⟩
     have:((cs.take (hv.toNat*aZ P e)).drop (l.toNat*aZ P e))=[] :=by
      apply List.drop_eq_nil_of_le;rw[List.length_take];have:hv.toNat=l.toNat:=by omega
      rw[this];omega
     rw[this];unfold dS;trivial
    ·cases a with
     |none=>simp at had
     |some ad'=>
      simp at had;subst had;obtain⟨g5,g6⟩:=g4 ad' rfl;rcases Nat.eq_zero_or_pos m with hm0|hm0
      ·have e0:hv.toNat=0:=by omega
       refine⟨fun hpos=>by omega,?_⟩
       rw[e0];simp;unfold dS;trivial
      ·have g5:=g5 hm0;obtain⟨b,off,sp⟩:=ad';dsimp only at g5 g6;subst g5;rw[Addr.add_mid];exact⟨fun _=>rfl,(g6.take _).drop _⟩
 ·rename_i s oo m ex;obtain⟨h2,hK⟩:=h;refine⟨_,bM.val ?_,hK⟩;intro ρ C V w hE;have g1:=hE x hx;rw[ex]at g1;unfold aE at g1;obtain⟨q,c,g1,⟨rfl,g2,g3,g4⟩|⟨b,o',c',rfl,g2,g3,g4,g5⟩⟩:=g1
  ·have hrun:=xR (hZ he) he2 none m 0 (by omega) _ _ l hv h0 h1 h2 (klo ρ C V hE) (khi m (by rw[ex];rfl) ρ C V hE) w
   subst g3 g4;have e1:l=0:=by omega
   have e2:hv=0:=by omega
   subst e1 e2;refine⟨.slice none 0 0,?_,?_⟩
   ·unfold execOp;rw[ho];simp only[g2,Option.map_none,Sem.run_bind,hrun,Result.andThen_ok,Sem.run_pure];simp
   ·unfold aE;exact⟨none,c,g1,.inl ⟨rfl,rfl,by simp,by simp⟩⟩
  ·have hrun:=xR (hZ he) he2 (some ⟨b,o',none⟩) m c' g3 _ _ l hv h0 h1 h2 (klo ρ C V hE) (khi m (by rw[ex];rfl) ρ C V hE) w
   refine⟨.slice (if c'=l.toNat then some ⟨b,o',none⟩else(some (⟨b,o',none⟩:Addr)).map (·.add (l.toNat*aZ P e))) (hv.toNat-l.toNat) (c'-l.toNat),?_,?_⟩
   ·unfold execOp;rw[ho];simp only[g2,Option.map_none,Sem.run_bind,hrun,Result.andThen_ok,Sem.run_pure]
   ·unfold aE;refine⟨some b,c,g1,.inr ⟨b,if c'=l.toNat then o' else o'+l.toNat*aZ P e,c'-l.toNat,rfl,?_,by omega,?_,?_⟩⟩
    ·split<;>simp[Addr.add_mid]
    ·intro hne;have:c'≠l.toNat:=by omega
     rw[if_neg this,g4 (by omega)]
    ·intro hz;have h3:oo=0:=by omega
     have h4:l.toNat*aZ P e=0:=by omega
     obtain⟨g6,g7⟩:=g5 h3;rcases Nat.mul_eq_zero.1 h4 with h5|h5
     ·rw[h5];simp[g6,g7]
     ·exact absurd h5 hez
 ·exact h.elim
def aBI(P:Program)(t:TypeId)(x:AV)(K:AV->Prop):Prop:=match x with
 | .p (.sl m _)=>(dO P t).isSome=true/\K (.p (.int .i64 m))
 | .own _ _ m=>(dO P t).isSome=true/\K (.p (.int .i64 m))
 | .nil=>(dO P t).isSome=true/\K (.p (.int .i64 0))
 | .p (.str s)=>(match P.underlying t with|some .string=>true|_=>false)=true/\K (.p (.int .i64 s.size))
 |_=>False
theorem aCo{x:Operand}{t:TypeId}(ho:o.op= .call {callee:= .builtin .len,args:= #[x],argTypes:= #[t]}){K:AV->Prop}(h:aBI P t (E x) K):∃r,bM P o E σ n r [] []/\K r:=by
 have hx:x∈o.op.operands.toList:=by rw[ho];simp[Op.operands,Call.operands]
 have key:∀(m:Nat),(dO P t).isSome=true->(∀ρ C v,aE ρ C (E x) v->∃a c,v= .slice a m c)->bM P o E σ n (.p (.int .i64 m)) [] [] :=by
  intro m ht hv;obtain⟨e,he⟩:=Option.isSome_iff_exists.1 ht;have hu:=hZ he;refine bM.val ?_;intro ρ C V w hE;obtain⟨a,c,h1⟩:=hv ρ C _ (hE x hx);refine⟨.int .i64 m,?_,by unfold aE aU;rfl⟩
  unfold execOp;rw[ho];simp[resolve,invoke,builtin,Builtin.len_,h1,run_underlying hu,goInt]
 unfold aBI at h;split at h
 ·rename_i m cs e;refine⟨_,key m h.1 fun ρ C v hv=> ?_,h.2⟩
  rw[e]at hv;unfold aE aU at hv;obtain⟨a,c,h1,_⟩:=hv;exact⟨a,c,h1⟩
 ·rename_i s oo m e;refine⟨_,key m h.1 fun ρ C v hv=> ?_,h.2⟩
  rw[e]at hv;unfold aE at hv;obtain⟨q,c,_,⟨_,h2,rfl,_⟩|⟨b,o',c',_,h2,_⟩⟩:=hv
  ·exact⟨none,0,h2⟩
  ·exact⟨_,_,h2⟩
 ·rename_i e;refine⟨_,key 0 h.1 fun ρ C v hv=> ?_,h.2⟩
  rw[e]at hv;unfold aE at hv;exact⟨none,0,hv⟩
 ·rename_i s e;obtain⟨ht,hK⟩:=h;refine⟨_,bM.val ?_,hK⟩;intro ρ C V w hE;have h1:=hE x hx;rw[e]at h1;unfold aE aU at h1;have hu:P.underlying t=some .string:=by
   split at ht
   ·assumption
   ·cases ht
  refine⟨.int .i64 s.size,?_,by unfold aE aU;rfl⟩
  unfold execOp;rw[ho];simp[resolve,invoke,builtin,Builtin.len_,h1,run_underlying hu,goInt]
 ·exact h.elim
def kH:AV->Option (List AV)
 | .agg l=>some l
 | .p (.agg l)=>some (l.map .p)
 | .p (.tup _)=>none
 | .p .junk=>none
 | .p x=>some [.p x]
 | .mp s=>some [.mp s]
 | .nil=>some [.nil]
 | .ptr s off=>some [.ptr s off]
 | .own s o n=>some [.own s o n]
 | .fn f a b=>some [.fn f a b]
 |_=>none
theorem vJ{ρ:Ren}{C:bI}{x:AV}{l:List AV}{v:Value}(h:kH x=some l)(hr:aE ρ C x v):aP ρ C l v.cells.toList/\lT v.cells.toList:=by
 have key:∀(y:AV),l=[y]->aE ρ C y v->v.oneCell'=true->aP ρ C l v.cells.toList/\lT v.cells.toList:=by
  intro y hl hy h1;have hc:v.cells.toList=[v] :=by cases v<;>first|rfl|(simp[Value.oneCell']at h1;done)
  rw[hc,hl];refine⟨?_,fun u hu=>by simp at hu;subst hu;exact h1⟩
  unfold aP;exact⟨v,[],rfl,hy,by unfold aP;rfl⟩
 unfold kH at h;split at h
 ·cases h;unfold aE at hr;obtain⟨vs,rfl,h1,h2⟩:=hr;exact⟨by simpa[Value.cells]using h1,by simpa[Value.cells]using h2⟩
 ·cases h;unfold aE aU at hr;obtain⟨vs,rfl,h1,h2⟩:=hr;exact⟨by simpa[Value.cells]using h1.toA,by simpa[Value.cells]using h2⟩
 ·cases h
 ·cases h
 ·rename_i y hn1 hn2 hn3;cases h;refine key _ rfl hr ?_;unfold aE at hr;cases y<;>unfold aU at hr
  ·rw[hr];rfl
  ·rw[hr];rfl
  ·rw[hr];rfl
  ·exact absurd rfl (hn1 _)
  ·exact absurd rfl (hn2 _)
  ·obtain⟨a,c,h1,_⟩:=hr;rw[h1];rfl
  ·obtain⟨a,c,h1,_⟩:=hr;rw[h1];rfl
  ·obtain⟨a,c,h1,_⟩:=hr;rw[h1];rfl
  ·exact absurd rfl hn3
 ·cases h;refine key _ rfl hr ?_;unfold aE at hr;obtain⟨c,_,h2⟩:=hr;rw[h2];rfl
 ·cases h;refine key _ rfl hr ?_;unfold aE at hr;rw[hr];rfl
 ·cases h;refine key _ rfl hr ?_;unfold aE at hr;obtain⟨b,c,_,h2⟩:=hr;rw[h2];rfl
 ·cases h;refine key _ rfl hr ?_;unfold aE at hr;obtain⟨q,c,_,⟨_,h2,_⟩|⟨b,o',c',_,h2,_⟩⟩:=hr<;>(rw[h2];rfl)
 ·cases h;refine key _ rfl hr ?_;unfold aE at hr;obtain⟨a,b,h2,_⟩:=hr;rw[h2];rfl
 ·cases h
def kG(cs:List AV)(off:Nat):List AV->List AV
 |[] =>cs
 |x::l=>kG (cs.set off x) (off+1) l
theorem nT:∀(l:List AV) (cs:List AV) (off:Nat),(kG cs off l).length=cs.length
 |[],cs,off=>rfl
 |x::l,cs,off=>by unfold kG;rw[nT l];simp
def qZ(place:Nat->Option (Nat×Nat))(cells:List AV):List (Nat×AV)->Option (List AV)
 |[] =>some cells
 |(i,v)::rest=>match place i,kH v with
  |some (off,size),some l=>if l.length=size/\off+size<=cells.length then qZ place (kG cells off l) rest else none
  |_,_=>none
theorem aP.set{ρ:Ren}{C:bI}{l:List AV}{vs:List Value}(h:aP ρ C l vs)(k:Nat){x:AV}{v:Value}(hx:aE ρ C x v):aP ρ C (l.set k x) (vs.set k v):=
 aP.of _ _ (by simp[h.length]) fun i y hi=>by
  have hl:=h.length;rw[List.getElem?_set]at hi|-;split at hi
  ·rename_i e;subst e;split at hi
   ·cases hi;rw[if_pos rfl,if_pos (by omega)];exact⟨v,rfl,hx⟩
   ·cases hi
  ·rename_i e;rw[if_neg e];exact h.get _ _ i y hi
theorem Li{ρ:Ren}{C:bI}:∀(l:List AV) (vs:List Value) (cs:List AV) (us:List Value) (off:Nat) (j:Nat),aP ρ C l vs->aP ρ C cs us->lT vs->lT us->
  aP ρ C (kG cs (off+j) l) ((vs.zipIdx j).foldl (fun(a:Array Value) (c,j)=>a.setIfInBounds (off+j) c) us.toArray).toList/\lT ((vs.zipIdx j).foldl (fun(a:Array Value) (c,j)=>a.setIfInBounds (off+j) c) us.toArray).toList
 |[],vs,cs,us,off,j,h1,h2,h3,h4=>by unfold aP at h1;subst h1;simpa[kG]using⟨h2,h4⟩
 |x::l,vs,cs,us,off,j,h1,h2,h3,h4=>by
  unfold aP at h1;obtain⟨v,r,rfl,hv,hr⟩:=h1;have:=Li l r (cs.set (off+j) x) (us.set (off+j) v) off (j+1) hr (h2.set _ hv) (fun u hu=>h3 u (List.mem_cons_of_mem _ hu)) (fun u hu=>by
   rcases List.mem_or_eq_of_mem_set hu with h|h
   ·exact h4 u h
   ·subst h;exact h3 _ List.mem_cons_self)
  simpa[kG,List.zipIdx_cons,Nat.add_assoc]using this
theorem yM{ρ:Ren}{C:bI}{place:Nat->Option (Nat×Nat)}:∀(parts:List (Nat×AV)) (vparts:List (Nat×Value)) (cs res:List AV) (us:List Value),
  qZ place cs parts=some res->vparts.length=parts.length->(∀(j:Nat) q,parts[j]? =some q->∃v,vparts[j]? =some (q.1,v)/\aE ρ C q.2 v)->aP ρ C cs us->lT us->
  ∃vs:List Value,Instr.fill place us.toArray vparts=some vs.toArray/\aP ρ C res vs/\lT vs
 |[],vparts,cs,res,us,h,hl,hp,hc,h1=>by
  simp[qZ]at h;subst h;have:vparts=[] :=List.length_eq_zero_iff.1 hl;subst this;exact⟨us,rfl,hc,h1⟩
 |(i,x)::rest,vparts,cs,res,us,h,hl,hp,hc,h1=>by
  obtain⟨v,hv0,hv⟩:=hp 0 (i,x) rfl;cases vparts with
  |nil=>simp at hl
  |cons q vparts=>
   simp at hv0;subst hv0;unfold qZ at h;split at h
   ·rename_i off size l hpl hcl;split at h
    ·rename_i hsz;obtain⟨c1,c2⟩:=vJ hcl hv;have hlen:=c1.length;have hcs:=hc.length;obtain⟨s1,s2⟩:=Li l v.cells.toList cs us off 0 c1 hc c2 h1;obtain⟨vs,f1,f2,f3⟩:=yM rest vparts _ res _ h (by simpa using hl) (fun j q hj=>hp (j+1) q (by simpa using hj)) s1 s2
     refine⟨vs,?_,f2,f3⟩;unfold Instr.fill;rw[hpl];dsimp only;simp only[Array.length_toList]at hlen;have e1:¬(v.cells.size≠size||decide (off+v.cells.size>us.toArray.size))=true:=by
      simp;omega
     rw[if_neg e1];rw[<-f1]
     congr 1
     have e2:∀(a:Array Value),a.zipIdx.foldl (fun(cs:Array Value) (x:Value×Nat)=>match x with|(c,j)=>cs.setIfInBounds (off+j) c) us.toArray=(a.toList.zipIdx 0).foldl (fun(cs:Array Value) (x:Value×Nat)=>match x with|(c,j)=>cs.setIfInBounds (off+j) c) us.toArray:=by
      intro a;rw[<-Array.foldl_toList,Array.toList_zipIdx]
     rw[e2]
    ·cases h
   ·cases h
def Ph(P:Program)(t:TypeId):Nat->Option (Nat×Nat):=match P.underlying t with
 |some (.struct fs)=>fun i=>(fs[i]?).map fun f=>(f.offset,aZ P f.type)
 |some (.array _ e)=>fun i=>some (i*aZ P e,aZ P e)
 |_=>fun _=>none
def Ir(P:Program)(t:TypeId):Bool:=match P.underlying t with
 |some (.struct fs)=>fs.toList.all fun f=>(P.info? f.type).isSome
 |some (.array _ e)=>(P.info? e).isSome
 |_=>false
def mmA(f:Int->Int->Int)(x y:AV)(K:AV->Prop):Prop:=match x,y with
 | .p (.int .i64 a),.p (.int .i64 b)=>K (.p (.int .i64 (f a b)))
 |_,_=>False
theorem aD3{P:Program}(ts:Array TypeId)(t:TypeId)(x y:Int)(w:World):(Builtin.min_ ts t #[.int .i64 x,.int .i64 y]).run P w= .ok (.int .i64 (min x y)) w/\(Builtin.max_ ts t #[.int .i64 x,.int .i64 y]).run P w= .ok (.int .i64 (max x y)) w:=by
 have h:= @run_min_int2 P w ts t .i64 .i64 x y;have h2:= @run_max_int2 P w ts t .i64 .i64 x y;rw[h,h2];constructor<;>(congr 2;omega)
theorem aCj{x y:Operand}{ts:Array TypeId}(ho:o.op= .call {callee:= .builtin .min,args:= #[x,y],argTypes:=ts}){K:AV->Prop}(h:mmA min (E x) (E y) K):∃r,bM P o E σ n r [] []/\K r:=by
 unfold mmA at h;split at h
 ·rename_i a b ea eb;refine⟨_,bM.val ?_,h⟩;intro ρ C V w hE;have h1:=hE x (by rw[ho];simp[Op.operands,Call.operands])
  have h2:=hE y (by rw[ho];simp[Op.operands,Call.operands])
  rw[ea]at h1;rw[eb]at h2;unfold aE aU at h1 h2;refine⟨.int .i64 (min a b),?_,by unfold aE aU;rfl⟩
  unfold execOp;rw[ho];simp[resolve,invoke,builtin,h1,h2,(aD3 _ _ _ _ _).1]
 ·exact h.elim
theorem aCm{x y:Operand}{ts:Array TypeId}(ho:o.op= .call {callee:= .builtin .max,args:= #[x,y],argTypes:=ts}){K:AV->Prop}(h:mmA max (E x) (E y) K):∃r,bM P o E σ n r [] []/\K r:=by
 unfold mmA at h;split at h
 ·rename_i a b ea eb;refine⟨_,bM.val ?_,h⟩;intro ρ C V w hE;have h1:=hE x (by rw[ho];simp[Op.operands,Call.operands])
  have h2:=hE y (by rw[ho];simp[Op.operands,Call.operands])
  rw[ea]at h1;rw[eb]at h2;unfold aE aU at h1 h2;refine⟨.int .i64 (max a b),?_,by unfold aE aU;rfl⟩
  unfold execOp;rw[ho];simp[resolve,invoke,builtin,h1,h2,(aD3 _ _ _ _ _).2]
 ·exact h.elim
end
end Go.Proofs.YtdaeofhdgabhjaaGreat
namespace Go.Proofs.YtdaeofhdgabhjaaGreat
open Go.RowKit
section
variable {P:Program} {o:Oper} {E:Operand->AV} {σ:Nat->Option Ob} {n:Nat}
def aAd(P:Program)(t:TypeId)(parts:List (Nat×AV))(K:AV->Prop):Prop:=∃z,vM P t=some z/\vL P t=true/\Ir P t=true/\∃l,qZ (Ph P t) z parts=some l/\K (eN l)
theorem Ge:∀(fs:List Field),fs.all (fun f=>(P.info? f.type).isSome)=true->fs.mapM (fun f=>(P.info? f.type).map fun i=>(f.offset,i.size))=some (fs.map fun f=>(f.offset,aZ P f.type))
 |[],_=>rfl
 |f::fs,h=>by
  simp only[List.all_cons,Bool.and_eq_true]at h;obtain⟨i,hi⟩:=Option.isSome_iff_exists.1 h.1;simp[List.mapM_cons,hi,Ge fs h.2,aZ]
theorem oZ{t:TypeId}{z:List AV}(h:vM P t=some z)(h1:vL P t=true):∃i zv,P.info? t=some i/\i.zero=some zv/\zv.cells.size=i.size/\lT zv.cells.toList/\z=zv.cells.toList.map iU:=by
 unfold vM at h;simp only[Option.bind_eq_some_iff,Option.map_eq_some_iff]at h;obtain⟨i,hi,zv,hz,rfl⟩:=h;unfold vL at h1;simp only[hi,Option.bind_some,hz,Option.map_some,Option.getD_some,Bool.and_eq_true,beq_iff_eq,List.all_eq_true]at h1;exact⟨i,zv,hi,hz,h1.2,h1.1,rfl⟩
theorem Xl{t:TypeId}{parts:Array (Nat×Operand)}(ho:o.op= .build t parts){K:AV->Prop}(h:aAd P t (parts.toList.map fun q=>(q.1,E q.2)) K):∃r,bM P o E σ n r [] []/\K r:=by
 obtain⟨z,hz,hz1,hpo,l,hl,hK⟩:=h;refine⟨_,bM.val ?_,hK⟩;intro ρ C V w hE;obtain⟨i,zv,hi,hiz,hsz,hone,rfl⟩:=oZ hz hz1;have hp:∀(j:Nat) q,(parts.toList.map fun q=>(q.1,E q.2))[j]? =some q->∃v,(parts.toList.map fun q=>(q.1,bB V q.2))[j]? =some (q.1,v)/\aE ρ C q.2 v:=by
  intro j q hj;rw[List.getElem?_map]at hj|-;cases hq:parts.toList[j]? with
  |none=>rw[hq]at hj;cases hj
  |some q'=>
   rw[hq]at hj;simp only[Option.map_some,Option.some.injEq]at hj;subst hj;refine⟨bB V q'.2,rfl,hE q'.2 ?_⟩;rw[ho];simp only[Op.operands];exact List.mem_map.2 ⟨q',List.mem_of_getElem? hq,rfl⟩
 obtain⟨vs,f1,f2,f3⟩:=yM _ (parts.toList.map fun q=>(q.1,bB V q.2)) _ l zv.cells.toList hl (by simp) hp (jJ _) hone
 have hb:P.built t (parts.map fun q=>(q.1,bB V q.2)).toList=some vs.toArray:=by
  unfold Program.built;rw[hi];unfold Ir at hpo;unfold Ph at f1;cases hu:P.underlying t with
  |none=>rw[hu]at hpo;cases hpo
  |some d=>
   rw[hu]at hpo f1;cases d<;>first|(cases hpo;done)|skip
   case struct fs=>
    dsimp only at hpo f1|-;rw[hiz,Ge _ hpo];dsimp only;rw[<-f1];simp
   case array m e=>
    dsimp only at hpo f1|-;obtain⟨ie,hie⟩:=Option.isSome_iff_exists.1 hpo;rw[hiz,hie];dsimp only;rw[<-f1];simp[aZ,hie]
 refine⟨.agg vs.toArray,?_,tI f2 f3⟩;unfold execOp;rw[ho];simp only[Sem.run_bind,run_build w t _ _ hb,Result.andThen_ok,Sem.run_pure]
theorem wA.mono{C0:bI}{B:Nat}{ρ ρ':Ren}{C C':bI}{w w':World}{c:Nat}{o:Ob}(h:wA C0 B ρ C w c o)(hext:∀s q,ρ s=some q->ρ' s=some q)(hC:∀b o x,C b o x->C' b o x)
  (hm:∀es clock,o.ty=1->w.heap[c]? =some (Obj.map es clock)->w'.heap[c]? =w.heap[c]?):wA C0 B ρ' C' w' c o:=by
 rcases h with⟨h0,h1,h2⟩|⟨h0,hB,es,clock,h1,h2⟩
 ·exact .inl ⟨h0,fun i x hi v hv=>aE.mono hext hC x v (h1 i x hi v hv),h2⟩
 ·exact .inr ⟨h0,hB,es,clock,(hm es clock h0 h1).trans h1,aP.mono hext hC _ _ h2⟩
theorem StR.stepG{C0:bI}{ρ ρ':Ren}{g:Nat->Option Ob}{w w':World}{B:Nat}{W:List (Nat×Option Ob)}(hs:StR C0 ρ g w B)
  (hρ:∀s o,W.lookup s=none->g s=some o->ρ' s=ρ s) (hext:∀s q,ρ s=some q->ρ' s=some q)
  (hmono:∀b o x,aJ C0 B w ρ g b o x->aJ C0 B w' ρ' (cB g W) b o x)
  (hold:∀s o b c,W.lookup s=none->g s=some o->ρ s=some (some b,c)->w'.heap[b]? =w.heap[b]?)
  (hmap:∀(s:Nat) (o:Ob) (c:Nat) es clock,W.lookup s=none->g s=some o->o.esz=0->o.ty=1->ρ s=some (none,c)->w.heap[c]? =some (Obj.map es clock)->w'.heap[c]? =w.heap[c]?)
  (hnew:∀s o,W.lookup s=some (some o)->∃q c,ρ' s=some (q,c)/\((q=none/\o.esz≠0/\o.cells=[]/\c=0)\/(q=none/\o.esz=0/\wA C0 B ρ' (aJ C0 B w' ρ' (cB g W)) w' c o/\
     (∀s' o' c',s'≠s->cB g W s'=some o'->o'.esz=0->ρ' s'=some (none,c')->¬Kl o c o' c'))\/∃b arr,q=some b/\B<=b/\ObRep ρ' (aJ C0 B w' ρ' (cB g W)) w' b c o arr/\
    ∀s' o' c',s'≠s->cB g W s'=some o'->ρ' s'≠some (some b,c'))):StR C0 ρ' (cB g W) w' B:=by
 refine⟨?_,?_,?_⟩
 ·intro s ob hob;unfold cB at hob;split at hob
  ·rename_i x hx;subst hob;obtain⟨q,c,h1,h2|⟨h2,h3,h4,_⟩|⟨b,arr,h2,h3,h4,_⟩⟩:=hnew s ob hx
   ·exact⟨q,c,h1,.inl ⟨h2.1,.inl h2.2⟩⟩
   ·exact⟨q,c,h1,.inl ⟨h2,.inr ⟨h3,h4⟩⟩⟩
   ·exact⟨q,c,h1,.inr ⟨b,arr,h2,h3,h4⟩⟩
  ·rename_i hx;obtain⟨q,c,h1,⟨h2,h3|⟨h3,h4⟩⟩|⟨b,arr,h2,h3,h4⟩⟩:=hs.ob s ob hob
   ·exact⟨q,c,(hρ s ob hx hob).trans h1,.inl ⟨h2,.inl h3⟩⟩
   ·refine⟨q,c,(hρ s ob hx hob).trans h1,.inl ⟨h2,.inr ⟨h3,h4.mono hext hmono ?_⟩⟩⟩;intro es clock k1 k2;subst h2;exact hmap s ob c es clock hx hob h3 k1 h1 k2
   ·refine⟨q,c,(hρ s ob hx hob).trans h1,.inr ⟨b,arr,h2,h3,?_,h4.box,h4.row,?_⟩⟩
    ·subst h2;rw[hold s ob b c hx hob h1];exact h4.blk
    ·intro i x hi;obtain⟨v,g1,g2,g3⟩:=h4.cells i x hi;exact⟨v,g1,g2,aE.mono hext hmono x v g3⟩
 ·intro s s' ob ob' b c c' h1 h2 h3 h4;by_cases hss:s=s'
  ·exact hss
  have k1:=h1;have k2:=h2;unfold cB at h1 h2;split at h1
  ·rename_i x hx;subst h1;obtain⟨q,c2,e1,⟨e2,_⟩|⟨e2,_⟩|⟨b2,arr,e2,_,_,e5⟩⟩:=hnew s ob hx
   ·rw[h3]at e1;cases e1;cases e2
   ·rw[h3]at e1;cases e1;cases e2
   ·rw[h3]at e1;cases e1;cases e2;exact absurd h4 (e5 s' ob' c' (fun h=>hss h.symm) k2)
  ·rename_i hx;split at h2
   ·rename_i x hx2;subst h2;obtain⟨q,c2,e1,⟨e2,_⟩|⟨e2,_⟩|⟨b2,arr,e2,_,_,e5⟩⟩:=hnew s' ob' hx2
    ·rw[h4]at e1;cases e1;cases e2
    ·rw[h4]at e1;cases e1;cases e2
    ·rw[h4]at e1;cases e1;cases e2;exact absurd h3 (e5 s ob c hss k1)
   ·rename_i hx2;exact hs.inj s s' ob ob' b c c' h1 h2 ((hρ s ob hx h1).symm.trans h3) ((hρ s' ob' hx2 h2).symm.trans h4)
 ·intro s s' ob ob' c c' h1 h2 m1 m2 h3 h4 hT;by_cases hss:s=s'
  ·exact hss
  have k1:=h1;have k2:=h2;unfold cB at h1 h2;split at h1
  ·rename_i x hx;subst h1;obtain⟨q,c2,e1,⟨_,e2,_⟩|⟨e2,_,_,e5⟩|⟨b2,arr,e2,_,_,_⟩⟩:=hnew s ob hx
   ·exact absurd m1 e2
   ·rw[h3]at e1;cases e1;exact absurd hT (e5 s' ob' c' (fun h=>hss h.symm) k2 m2 h4)
   ·rw[h3]at e1;cases e1;cases e2
  ·rename_i hx;split at h2
   ·rename_i x hx2;subst h2;obtain⟨q,c2,e1,⟨_,e2,_⟩|⟨e2,_,_,e5⟩|⟨b2,arr,e2,_,_,_⟩⟩:=hnew s' ob' hx2
    ·exact absurd m2 e2
    ·rw[h4]at e1;cases e1;exact absurd hT.symm (e5 s ob c hss k1 m1 h3)
    ·rw[h4]at e1;cases e1;cases e2
   ·rename_i hx2;exact hs.mpi s s' ob ob' c c' h1 h2 m1 m2 ((hρ s ob hx h1).symm.trans h3) ((hρ s' ob' hx2 h2).symm.trans h4) hT
theorem StR.step{C0:bI}{ρ ρ':Ren}{g:Nat->Option Ob}{w w':World}{B:Nat}{W:List (Nat×Option Ob)}(hs:StR C0 ρ g w B)
  (hρ:∀s o,W.lookup s=none->g s=some o->ρ' s=ρ s) (hext:∀s q,ρ s=some q->ρ' s=some q)
  (hmono:∀b o x,aJ C0 B w ρ g b o x->aJ C0 B w' ρ' (cB g W) b o x)
  (hold:∀s o b c,W.lookup s=none->g s=some o->ρ s=some (some b,c)->w'.heap[b]? =w.heap[b]?)
  (hnew:∀s o,W.lookup s=some (some o)->∃q c,ρ' s=some (q,c)/\((q=none/\o.esz≠0/\o.cells=[]/\c=0)\/∃b arr,q=some b/\B<=b/\ObRep ρ' (aJ C0 B w' ρ' (cB g W)) w' b c o arr/\
    ∀s' o' c',s'≠s->cB g W s'=some o'->ρ' s'≠some (some b,c')))
  (hmap:∀(c:Nat) es clock,w.heap[c]? =some (Obj.map es clock)->w'.heap[c]? =w.heap[c]?):StR C0 ρ' (cB g W) w' B:=
 hs.stepG hρ hext hmono hold (fun _ _ c es clock _ _ _ _ _ h=>hmap c es clock h) fun s o h=>by
  obtain⟨q,c,h1,h2|h2⟩:=hnew s o h
  ·exact⟨q,c,h1,.inl h2⟩
  ·exact⟨q,c,h1,.inr (.inr h2)⟩
theorem iT{w:World}{c:Nat}{es:Array MapEntry}{clock:Nat}(h:w.heap[c]? =some (Obj.map es clock)):c<w.heap.size:=by
 rcases Nat.lt_or_ge c w.heap.size with hlt|hge
 ·exact hlt
 ·rw[Array.getElem?_eq_none hge]at h;cases h
theorem xJ{w:World}{b c:Nat}{es:Array MapEntry}{clock:Nat}{arr:Array Value}{t:TypeId}{q:Nat×Nat}(h:w.heap[c]? =some (Obj.map es clock))(hb:w.heap[b]? =some (.cells arr t q)):c≠b:=by
 intro e;subst e;rw[h]at hb;cases hb
theorem bM.alloc{r:AV}{ob:Ob}(h:∀(ρ:Ren) (C:bI) (V:Nat->Value) (w:World),(∀x∈o.op.operands.toList,aE ρ C (E x) (bB V x))->
  ∃v arr c,(execOp (bB V) o).run P w= .ok (.value v) (w.alloc (.cells arr ob.ty))/\(ob.esz=0->arr.size=ob.cells.length)/\(ob.esz≠0->arr.size=c*ob.esz/\ob.cells.length<=arr.size/\c<=maxLen)/\
   aP ρ C ob.cells (arr.toList.take ob.cells.length)/\lT arr.toList/\∀(ρ':Ren) (C':bI),ρ' (sit n 0)=some (some w.heap.size,c)->aE ρ' C' r v):bM P o E σ n r [] [(sit n 0,some ob)] :=by
 intro C0 ρ g V w B hs hB _ hn hgn hE;have hn:=hn _ (dM n 0);have hgn:=hgn _ (dM n 0);have hcl:∀s,cls s≠n->s≠sit n 0:=fun s h e=>h (by rw[e];exact dM n 0)
 generalize sit n 0=m at*;obtain⟨v,arr,c,hrun,h1,h2,h3,h4,h5⟩:=h ρ _ V w hE;unfold bZ;rw[hrun];dsimp only;have hblk:(w.alloc (.cells arr ob.ty)).heap[w.heap.size]? =some (.cells arr ob.ty (0,0)):=heap_alloc_new w _
 let ρ':Ren:=fun s=>if s=m then some (some w.heap.size,c)else ρ s
 have hext:∀s q,ρ s=some q->ρ' s=some q:=by
  intro s q hq;show(if s=m then _ else _)=_
  rw[if_neg (fun e=>by rw[e,hn]at hq;cases hq)];exact hq
 have hlt:∀s ob b c,g s=some ob->ρ s=some (some b,c)->b<w.heap.size:=by
  intro s ob b c e1 e2;obtain⟨_,arr,e3⟩:=hs.at e1 e2;exact e3.lt
 have hold:∀b,b<w.heap.size->(w.alloc (.cells arr ob.ty)).heap[b]? =w.heap[b]? :=fun b hb=>Below.heap_alloc w _ b hb
 have hlk:∀s,s≠m->[(m,some ob)].lookup s=none:=by intro s hs;simp[List.lookup,beq_eq_false_iff_ne.2 hs]
 have hup:∀s,s≠m->cB g [(m,some ob)] s=g s:=by intro s hs;unfold cB;rw[hlk s hs]
 have hmono:∀b o' x,aJ C0 B w ρ g b o' x->aJ C0 B (w.alloc (.cells arr ob.ty)) ρ' (cB g [(m,some ob)]) b o' x:=by
  intro b o' x ⟨e1,e2,e0⟩;have hb:b<w.heap.size:=World.block_lt_of_cell? w ⟨b,o',none⟩ e1;refine⟨(World.cell?_of_block (hold b hb)).trans e1,?_,e0⟩;intro s c' e3;by_cases e:s=m
  ·subst e;simp only[ρ',if_true]at e3;cases e3;omega
  ·simp only[ρ',if_neg e]at e3;rw[hup s e];exact e2 s c' e3
 refine⟨ρ',fun s hs=>by simp only[ρ',if_neg (hcl s hs)],hmono,?_,h5 _ _ (by simp[ρ']),(Below.refl B w).alloc hB _⟩
 refine hs.step ?_ hext hmono ?_ ?_ fun c es clock hc=>hold c (iT hc)
 ·intro s ob' e1 e2;have:s≠m:=fun e=>by rw[e,hgn]at e2;cases e2
  simp only[ρ',if_neg this]
 ·intro s ob' b c' _ e2 e3;exact hold b (hlt s ob' b c' e2 e3)
 ·intro s ob' e;have e1:s=m:=by
   rcases Nat.decEq s m with h|h
   ·rw[hlk s h]at e;cases e
   ·exact h
  subst e1;have e2:ob'=ob:=by simp[List.lookup]at e;exact e.symm
  subst e2;refine⟨some w.heap.size,c,by simp[ρ'],.inr ⟨w.heap.size,arr,rfl,hB,⟨hblk,h1,h2,?_⟩,?_⟩⟩
  ·intro i x hi;obtain⟨u,g1,g2⟩:=h3.get _ _ i x hi;rw[List.getElem?_take]at g1;split at g1
   ·refine⟨u,by simpa using g1,h4 u (List.mem_of_getElem? g1),aE.mono hext hmono x u g2⟩
   ·cases g1
  ·intro s' o' c' hne e3 e4;rw[hup s' hne]at e3;simp only[ρ',if_neg hne]at e4;have:=hlt s' o' _ c' e3 e4;omega
def aAk(P:Program)(n:Nat)(t:TypeId)(K:Res):Prop:=∃z,vM P t=some z/\vL P t=true/\K (.ptr (sit n 0) 0) [] [(sit n 0,some ⟨t,0,z⟩)]
theorem Xq{t:TypeId}(ho:o.op= .alloc t){K:Res}(h:aAk P n t K):∃r R W,bM P o E σ n r R W/\K r R W:=by
 obtain⟨z,hz,hz1,hK⟩:=h;refine⟨_,_,_,bM.alloc ?_,hK⟩;intro ρ C V w hE;obtain⟨i,zv,hi,hiz,hsz,hone,rfl⟩:=oZ hz hz1;refine⟨.pointer (some ⟨w.heap.size,0,none⟩),zv.cells,0,?_,fun _=>by simp,fun h=>absurd rfl h,?_,hone,fun ρ' C' h=> ?_⟩
 ·unfold execOp;rw[ho];simp[Instr.alloc,zeroValue,typeInfo,hi,hiz,newVar,newRow]
 ·rw[List.take_of_length_le (by simp)];exact jJ _
 ·unfold aE;exact⟨_,_,h,rfl⟩
def aII(n:Nat)(t:TypeId)(x:AV)(K:Res):Prop:=∃l,kH x=some l/\K (.ptr (sit n 0) 0) [] [(sit n 0,some ⟨t,0,l⟩)]
theorem aCJ{t:TypeId}{x:Operand}(ho:o.op= .box t x){K:Res}(h:aII n t (E x) K):∃r R W,bM P o E σ n r R W/\K r R W:=by
 obtain⟨l,hl,hK⟩:=h;refine⟨_,_,_,bM.alloc ?_,hK⟩;intro ρ C V w hE;obtain⟨h1,h2⟩:=vJ hl (hE x (by rw[ho];simp[Op.operands]))
 have h3:=h1.length;refine⟨.pointer (some ⟨w.heap.size,0,none⟩),(bB V x).cells,0,?_,fun _=>by simpa using h3,fun h=>absurd rfl h,?_,h2,fun ρ' C' h=> ?_⟩
 ·unfold execOp;rw[ho];simp[Instr.box,newVar,newRow]
 ·rw[List.take_of_length_le (Nat.le_of_eq h3)];exact h1
 ·unfold aE;exact⟨_,_,h,rfl⟩
def xE:Nat->List AV->List AV
 |0,_=>[]
 |m+1,z=>z++xE m z
def Um(P:Program)(n:Nat)(t:TypeId)(len:Nat)(parts:List (Nat×AV))(K:Res):Prop:=∃e z,dO P t=some e/\vM P e=some z/\vL P e=true/\z≠[]/\len*aZ P e<=1000000/\
 ∃l,qZ (fun i=>some (i*aZ P e,aZ P e)) (xE len z) parts=some l/\K (.own (sit n 0) 0 len) [] [(sit n 0,some ⟨e,aZ P e,l⟩)]
theorem rN(z:List AV):∀m,(xE m z).length=m*z.length
 |0=>by simp[xE]
 |m+1=>by simp[xE,rN z m,Nat.add_mul];omega
theorem Lo(zv:Array Value)(_hz:0<zv.size)(m:Nat):((Array.range (m*zv.size)).map (fun j=>zv[j % zv.size]!)).toList=(List.replicate m zv.toList).flatten:=by
 apply List.ext_getElem?;induction m with
 |zero=>intro i;simp
 |succ m ih=>
  intro i;rw[List.replicate_succ,List.flatten_cons];by_cases hi:i<zv.size
  ·rw[List.getElem?_append_left (by simpa using hi)]
   have h1:i<(m+1)*zv.size:=by rw[Nat.add_mul];omega
   simp[h1,Nat.mod_eq_of_lt hi,hi]
  ·rw[List.getElem?_append_right (by simp;omega)]
   rw[<-ih];have e1:(i-zv.size) % zv.size=i % zv.size:=by
    conv=>rhs;rw[show i=(i-zv.size)+zv.size by omega,Nat.add_mod_right]
   simp only[Array.length_toList,Array.getElem?_toList,Array.getElem?_map,Array.getElem?_range];by_cases h1:i-zv.size<m*zv.size
   ·rw[if_pos (by rw[Nat.add_mul];omega),if_pos h1];simp only[Option.map_some,e1]
   ·rw[if_neg (by rw[Nat.add_mul];omega),if_neg h1]
theorem xU{ρ:Ren}{C:bI}(zs:List Value):∀m,aP ρ C (xE m (zs.map iU)) (List.replicate m zs).flatten
 |0=>by simp[xE];unfold aP;rfl
 |m+1=>by
  rw[List.replicate_succ,List.flatten_cons,xE];have ih:=xU (ρ:=ρ) (C:=C) zs m;refine aP.of _ _ (by simp[ih.length]) fun i x hi=> ?_
  by_cases h:i<(zs.map iU).length
  ·rw[List.getElem?_append_left h]at hi;rw[List.getElem?_append_left (by simpa using h)]
   exact(jJ zs).get _ _ i x hi
  ·rw[List.getElem?_append_right (by omega)]at hi
   rw[List.getElem?_append_right (by simp at h;omega)]
   have:=ih.get _ _ _ x hi;simpa using this
theorem Rw{t:TypeId}{len:Nat}{parts:Array (Nat×Operand)}(ho:o.op= .buildSlice t len parts){K:Res}(h:Um P n t len (parts.toList.map fun q=>(q.1,E q.2)) K):∃r R W,bM P o E σ n r R W/\K r R W:=by
 obtain⟨e,z,he,hz,hz1,hne,hlen,l,hl,hK⟩:=h;refine⟨_,_,_,bM.alloc ?_,hK⟩;intro ρ C V w hE;obtain⟨i,zv,hi,hiz,hsz,hone,rfl⟩:=oZ hz hz1;have hsize:aZ P e=zv.cells.size:=by simp[aZ,hi,hsz]
 have hpos:0<zv.cells.size:=by
  rcases Nat.eq_zero_or_pos zv.cells.size with h|h
  ·exfalso;apply hne;rw[<-Array.length_toList]at h;rw[List.length_eq_zero_iff.1 h];rfl
  ·exact h
 have hp:∀(j:Nat) q,(parts.toList.map fun q=>(q.1,E q.2))[j]? =some q->∃v,(parts.toList.map fun q=>(q.1,bB V q.2))[j]? =some (q.1,v)/\aE ρ C q.2 v:=by
  intro j q hj;rw[List.getElem?_map]at hj|-;cases hq:parts.toList[j]? with
  |none=>rw[hq]at hj;cases hj
  |some q'=>
   rw[hq]at hj;simp only[Option.map_some,Option.some.injEq]at hj;subst hj;refine⟨bB V q'.2,rfl,hE q'.2 ?_⟩;rw[ho];simp only[Op.operands];exact List.mem_map.2 ⟨q',List.mem_of_getElem? hq,rfl⟩
 have hones:lT (List.replicate len zv.cells.toList).flatten:=by
  intro u hu;simp only[List.mem_flatten,List.mem_replicate]at hu;obtain⟨l',⟨_,rfl⟩,hu⟩:=hu;exact hone u hu
 obtain⟨vs,f1,f2,f3⟩:=yM _ (parts.toList.map fun q=>(q.1,bB V q.2)) _ l _ hl (by simp) hp (xU _ len) hones
 have hl2:=f2.length;have hl3:l.length=len*aZ P e:=by
  have:∀(parts:List (Nat×AV)) (cs res:List AV),qZ (fun i=>some (i*aZ P e,aZ P e)) cs parts=some res->res.length=cs.length:=by
   intro parts;induction parts with
   |nil=>intro cs res h;simp[qZ]at h;rw[h]
   |cons q parts ih=>
    intro cs res h;obtain⟨i,x⟩:=q;unfold qZ at h;split at h
    ·split at h
     ·rw[ih _ _ h,nT]
     ·cases h
    ·cases h
  rw[this _ _ _ hl,rN,List.length_map,Array.length_toList,hsize]
 refine⟨.slice (some ⟨w.heap.size,0,none⟩) len len,vs.toArray,len,?_,fun h=>by simp at h;omega,fun _=> ?_,?_,by simpa using f3,fun ρ' C' h=> ?_⟩
 ·unfold execOp;rw[ho];have e1:¬(len*aZ P e>2^24):=by omega
  have e2:((parts.map fun q=>(q.1,bB V q.2)).toList)=(parts.toList.map fun q=>(q.1,bB V q.2)):=by simp
  have e3:∀w:World,(sizeOf e).run P w= .ok (aZ P e) w:=fun w=>by simp[sizeOf,typeInfo,hi,aZ]
  have e4:∀w:World,(zeroValue e).run P w= .ok zv w:=fun w=>by simp[zeroValue,typeInfo,hi,hiz]
  by_cases h0:len*aZ P e=0
  ·have hl0:len=0:=by
    rcases Nat.mul_eq_zero.1 h0 with h|h
    ·exact h
    ·rw[hsize]at h;omega
   subst hl0;simp only[List.replicate_zero,List.flatten_nil]at f1;simp only[Instr.buildSlice,Sem.run_bind,run_underlying (hZ he),Result.andThen_ok,e3,Nat.zero_mul,if_neg (show¬(0:Nat)>2^24 by omega),if_true,Sem.run_pure]
   have e6:(Array.range 0).map (fun x=>(#[] :Array Value)[x % (#[] :Array Value).size]!)= #[] :=by simp
   rw[e6,e2];rw[f1];simp[newRow]
  ·have e5:(Array.range (len*aZ P e)).map (fun j=>zv.cells[j % zv.cells.size]!)=(List.replicate len zv.cells.toList).flatten.toArray:=by
    rw[hsize];apply Array.toList_inj.1;rw[Lo zv.cells hpos len]
   simp only[Instr.buildSlice,Sem.run_bind,run_underlying (hZ he),Result.andThen_ok,e3,if_neg e1,if_neg h0,e4,Sem.run_pure,e5,e2,f1];simp[newRow]
 ·refine⟨?_,?_,?_⟩
  ·simp;omega
  ·simp;omega
  ·have:len<=len*aZ P e:=Nat.le_mul_of_pos_right _ (by omega)
   unfold maxLen;omega
 ·rw[List.take_of_length_le (by simp;omega)];simpa using f2
 ·unfold aE;exact⟨_,_,h,.inr ⟨_,0,len,rfl,rfl,Nat.le_refl _,fun _=>rfl,fun _=>⟨rfl,rfl⟩⟩⟩
end
end Go.Proofs.YtdaeofhdgabhjaaGreat
namespace Go.Proofs.YtdaeofhdgabhjaaGreat
open Go.RowKit
section
variable {P:Program} {o:Oper} {E:Operand->AV} {σ:Nat->Option Ob} {n:Nat}
theorem Lj:∀(l cs:List AV) (off:Nat),off+l.length<=cs.length->∀(i:Nat) x,(kG cs off l)[i]? =some x->(off<=i/\l[i-off]? =some x)\/((i<off\/off+l.length<=i)/\cs[i]? =some x)
 |[],cs,off,_,i,x,h=>by
  simp only[kG]at h;rcases Nat.lt_or_ge i off with h1|h1
  ·exact .inr ⟨.inl h1,h⟩
  ·exact .inr ⟨.inr (by simpa using h1),h⟩
 |y::l,cs,off,hl,i,x,h=>by
  unfold kG at h;simp only[List.length_cons]at hl;rcases Lj l (cs.set off y) (off+1) (by simp;omega) i x h with⟨h1,h2⟩|⟨h1,h2⟩
  ·refine .inl ⟨by omega,?_⟩
   rw[show i-off=(i-(off+1))+1 by omega];simpa using h2
  ·rw[List.getElem?_set]at h2;by_cases e:off=i
   ·rw[if_pos e]at h2;split at h2
    ·cases h2;subst e;exact .inl ⟨Nat.le_refl _,by simp⟩
    ·cases h2
   ·rw[if_neg e]at h2;refine .inr ⟨?_,h2⟩;simp only[List.length_cons];omega
def xG(P:Program)(t:TypeId)(σ:Nat->Option Ob)(a v:AV)(K:Res):Prop:=match a with
 | .ptr s off=>∃ob l,σ s=some ob/\kH v=some l/\l.length=aZ P t/\(P.info? t).isSome=true/\off+l.length<=ob.cells.length/\K .undef [s] [(s,some ⟨ob.ty,ob.esz,kG ob.cells off l⟩)]
 |_=>False
theorem Vc{t:TypeId}{a x:Operand}(ho:o.op= .store t a x){K:Res}(h:xG P t σ (E a) (E x) K):∃r R W,bM P o E σ n r R W/\K r R W:=by
 unfold xG at h;split at h
 case h_2=>exact h.elim
 rename_i s off ea;obtain⟨ob,l,hob,hl,hsz,ht,hoff,hK⟩:=h;refine⟨_,_,_,?_,hK⟩;intro C0 ρ g V w B hs hB hR hn hgn hE;have g1:=hE a (by rw[ho];simp[Op.operands])
 rw[ea]at g1;unfold aE at g1;obtain⟨b,c,hρ,hv⟩:=g1;have hgs:g s=some ob:=(hR s (by simp)).trans hob
 obtain⟨hBb,arr,hO⟩:=hs.at hgs hρ;obtain⟨r1,r2⟩:=vJ hl (hE x (by rw[ho];simp[Op.operands]))
 have hlen:=r1.length;have hle:ob.cells.length<=arr.size:=by
  by_cases hz:ob.esz=0
  ·rw[hO.box hz];exact Nat.le_refl _
  ·exact(hO.row hz).2.1
 have hst:=run_storeCells_at P b off ob.ty (bB V x).cells.toList 0 arr w hO.blk (by omega) r2
 obtain⟨i,hi⟩:=Option.isSome_iff_exists.1 ht;have hsi:(bB V x).cells.size=i.size:=by
  have:aZ P t=i.size:=by simp[aZ,hi]
  rw[<-Array.length_toList,hlen,hsz,this]
 unfold bZ execOp;simp only[ho,hv,Instr.storeAt,Instr.sureAddr,storeVar,sizeOf,typeInfo,Sem.run_bind,Sem.run_pure,Result.andThen_ok,run_program,hi,if_neg (show¬(bB V x).cells.size≠i.size from fun h=>h hsi),hst]
 simp only[Nat.add_zero];generalize hvs:(bB V x).cells.toList=vs at*;have hblk:(w.setRow b (arr.toList.take off++vs++arr.toList.drop (off+vs.length)).toArray).heap[b]? =some (.cells (arr.toList.take off++vs++arr.toList.drop (off+vs.length)).toArray ob.ty (0,0)):=setRow_heap w b arr _ ob.ty _ hO.blk;have hold:∀k,k≠b->(w.setRow b (arr.toList.take off++vs++arr.toList.drop (off+vs.length)).toArray).heap[k]? =w.heap[k]? :=by
  intro k hk;unfold World.setRow;simp only[Array.getElem?_modify];rw[if_neg (fun e=>hk e.symm)]
 have hsize:(w.setRow b (arr.toList.take off++vs++arr.toList.drop (off+vs.length)).toArray).heap.size=w.heap.size:=by unfold World.setRow;simp
 have hlk:∀s',s'≠s->[(s,some (⟨ob.ty,ob.esz,kG ob.cells off l⟩:Ob))].lookup s'=none:=by intro s' hs';simp[List.lookup,beq_eq_false_iff_ne.2 hs']
 have hup:∀s',s'≠s->cB g [(s,some ⟨ob.ty,ob.esz,kG ob.cells off l⟩)] s'=g s':=by intro s' hs';unfold cB;rw[hlk s' hs']
 have hmono:∀b' o' x,aJ C0 B w ρ g b' o' x->aJ C0 B (w.setRow b (arr.toList.take off++vs++arr.toList.drop (off+vs.length)).toArray) ρ (cB g [(s,some ⟨ob.ty,ob.esz,kG ob.cells off l⟩)]) b' o' x:=by
  intro b' o' x ⟨e1,e2,e0⟩;have hne:b'≠b:=fun e=>by rw[e]at e2;rw[e2 s c hρ]at hgs;cases hgs
  refine⟨(World.cell?_of_block (hold b' hne)).trans e1,?_,e0⟩;intro s' c' e3;by_cases e:s'=s
  ·subst e;rw[e2 _ _ e3]at hgs;cases hgs
  ·rw[hup s' e];exact e2 s' c' e3
 refine⟨ρ,fun _ _=>rfl,hmono,?_,by unfold aE;rfl,⟨rfl,rfl,rfl,by rw[hsize];exact Nat.le_refl _,fun k hk=>hold k (by omega)⟩⟩
 refine hs.step (fun _ _ _ _=>rfl) (fun _ _ h=>h) hmono ?_ ?_ fun k es clock hk=>hold k (xJ hk hO.blk)
 ·intro s' o' b' c' e1 e2 e3;refine hold b' fun e=> ?_
  subst e;have:=hs.inj s s' ob o' b' c c' hgs e2 hρ e3;subst this;simp[List.lookup]at e1
 ·intro s' o' e;have e1:s'=s:=by
   rcases Nat.decEq s' s with h|h
   ·rw[hlk s' h]at e;cases e
   ·exact h
  subst e1;have e2:o'=⟨ob.ty,ob.esz,kG ob.cells off l⟩:=by simp[List.lookup]at e;exact e.symm
  subst e2;have hasz:(arr.toList.take off++vs++arr.toList.drop (off+vs.length)).toArray.size=arr.size:=by
   simp[List.length_take];omega
  refine⟨some b,c,hρ,.inr ⟨b,_,rfl,hBb,⟨hblk,?_,?_,?_⟩,?_⟩⟩
  ·intro hz;rw[hasz,hO.box hz];exact(nT _ _ _).symm
  ·intro hz;obtain⟨k1,k2,k3⟩:=hO.row hz;rw[hasz];exact⟨k1,by show(kG ob.cells off l).length<=_;rw[nT];exact k2,k3⟩
  ·intro j y hj;have hj:(kG ob.cells off l)[j]? =some y:=hj;rcases Lj l ob.cells off hoff j y hj with⟨h1,h2⟩|⟨h1,h2⟩
   ·obtain⟨u,k1,k2⟩:=r1.get _ _ _ y h2;have hjl:j-off<vs.length:=(List.getElem?_eq_some_iff.1 k1).1;refine⟨u,?_,r2 u (List.mem_of_getElem? k1),aE.mono (fun _ _ h=>h) hmono y u k2⟩
    simp only[List.getElem?_toArray];rw[List.append_assoc,List.getElem?_append_right (by simp;omega),List.getElem?_append_left (by simp;omega)]
    rw[<-k1];congr 1;simp;omega
   ·obtain⟨u,k1,k3,k2⟩:=hO.cells j y h2;refine⟨u,?_,k3,aE.mono (fun _ _ h=>h) hmono y u k2⟩
    have hja:j<arr.size:=(Array.getElem?_eq_some_iff.1 k1).1;simp only[List.getElem?_toArray];rw[List.append_assoc];rcases h1 with h1|h1
    ·rw[List.getElem?_append_left (by simp;omega),List.getElem?_take,if_pos h1]
     simpa using k1
    ·rw[List.getElem?_append_right (by simp;omega),List.getElem?_append_right (by simp;omega),List.getElem?_drop]
     rw[<-k1];simp only[List.length_take,Array.length_toList,Array.getElem?_toList]
     congr 1;omega
  ·intro s2 o' c' hne e3 e4;rw[hup s2 hne]at e3;exact hne (hs.inj s' s2 ob o' b c c' hgs e3 hρ e4).symm
def aBx(P:Program)(e:TypeId):Bool:=((P.info? e).bind fun i=>i.zero.map fun z=>z.cells.size==i.size&&decide (0<i.size)&&decide (i.bytes<=1000000)).getD false
def Yx(σ:Nat->Option Ob)(e:TypeId)(esz:Nat)(x:AV)(K:Nat->List AV->List Nat->Prop):Prop:=match x with
 | .nil=>K 0 [] []
 | .own s 0 k=>∃ob,σ s=some ob/\ob.ty=e/\ob.esz=esz/\ob.cells.length=k*esz/\K k ob.cells [s]
 |_=>False
def Sb(σ:Nat->Option Ob)(esz:Nat)(y:AV)(K:Nat->List AV->List Nat->Prop):Prop:=match y with
 | .nil=>K 0 [] []
 | .p (.sl m cs)=>cs.length=m*esz/\K m (cs.map .p) []
 | .own s o m=>∃ob l,σ s=some ob/\(ob.cells.drop o).take (m*esz)=l/\l.length=m*esz/\K m l [s]
 |_=>False
def Xx(P:Program)(n:Nat)(t:TypeId)(σ:Nat->Option Ob)(x y:AV)(K:Res):Prop:=∃e,dO P t=some e/\aBx P e=true/\
 Yx σ e (aZ P e) x fun k cs R1=>Sb σ (aZ P e) y fun m cs' R2=>k+m<=1000000/\
  K (.own (sit n 0) 0 (k+m)) (R1++R2) (R1.map (·,none)++[(sit n 0,some ⟨e,aZ P e,cs++cs'⟩)])
theorem dS.vals{C:bI}:∀(l:List PV) (b off:Nat),dS C l b off->∃vs:List Value,vs.length=l.length/\(∀(i:Nat) v,vs[i]? =some v->C b (off+i) v)/\bO C l vs/\lT vs
 |[],b,off,_=>⟨[],rfl,(fun i v h=>by simp at h),by unfold bO;rfl,fun u hu=>by cases hu⟩
 |x::l,b,off,h=>by
  unfold dS at h;obtain⟨⟨v,h1,h2,h3⟩,h4⟩:=h;obtain⟨vs,g1,g2,g3,g4⟩:=dS.vals l b (off+1) h4;refine⟨v::vs,by simp[g1],?_,?_,fun u hu=>by rcases List.mem_cons.1 hu with rfl|hu;exact h2;exact g4 u hu⟩
  ·intro i u hi;cases i with
   |zero=>simp at hi;subst hi;exact h1
   |succ i=>have:=g2 i u (by simpa using hi);rwa[show off+1+i=off+(i+1) by omega]at this
  ·unfold bO;exact⟨v,vs,rfl,h3,g3⟩
theorem ObRep.vals{ρ:Ren}{C:bI}{w:World}{b c:Nat}{ob:Ob}{arr:Array Value}(h:ObRep ρ C w b c ob arr):aP ρ C ob.cells (arr.toList.take ob.cells.length)/\lT (arr.toList.take ob.cells.length):=by
 have hle:ob.cells.length<=arr.size:=by
  by_cases hz:ob.esz=0
  ·rw[h.box hz];exact Nat.le_refl _
  ·exact(h.row hz).2.1
 refine⟨aP.of _ _ (by simp;omega) fun i x hi=> ?_,?_⟩
 ·obtain⟨v,h1,_,h3⟩:=h.cells i x hi;have hlt:i<ob.cells.length:=(List.getElem?_eq_some_iff.1 hi).1;refine⟨v,?_,h3⟩;rw[List.getElem?_take,if_pos hlt];simpa using h1
 ·intro u hu;obtain⟨i,hi,he⟩:=List.getElem_of_mem hu;simp only[List.length_take,Array.length_toList]at hi;obtain⟨v,h1,h2,_⟩:=h.cells i ob.cells[i] (List.getElem?_eq_getElem (by omega))
  have:arr[i]? =some u:=by
   rw[<-he];simp
  rw[this]at h1;cases h1;exact h2
theorem aA7{C0:bI}{ρ:Ren}{g:Nat->Option Ob}{w:World}{B:Nat}(hs:StR C0 ρ g w B){e:TypeId}{esz:Nat}{x:AV}{v:Value}(hz:esz≠0)(hx:aE ρ (aJ C0 B w ρ g) x v){k:Nat}{cs:List AV}{R:List Nat}
  (hd:(x= .nil/\k=0/\cs=[]/\R=[])\/∃s ob,x= .own s 0 k/\R=[s]/\g s=some ob/\ob.ty=e/\ob.esz=esz/\ob.cells.length=k*esz/\cs=ob.cells):
  ∃xs,w.ownsRow B e esz v k xs/\aP ρ (aJ C0 B w ρ g) cs xs/\lT xs/\((v.ownBlock=none/\∀s∈R,∀b c,ρ s≠some (some b,c))\/∃s b c ob,R=[s]/\g s=some ob/\ρ s=some (some b,c)/\v.ownBlock=some b):=by
 rcases hd with⟨rfl,rfl,rfl,rfl⟩|⟨s,ob,rfl,rfl,h1,h2,h3,h4,rfl⟩
 ·unfold aE at hx;subst hx;exact⟨[],World.ownsRow_nil _ _ _ _,by unfold aP;rfl,(fun u hu=>by cases hu),.inl ⟨rfl,fun s hs=>by cases hs⟩⟩
 ·unfold aE at hx;obtain⟨q,c,hq,⟨rfl,hv,rfl,_⟩|⟨b,o',c',rfl,hv,h5,h6,h7⟩⟩:=hx
  ·subst hv;have hc:ob.cells=[] :=List.length_eq_zero_iff.1 (by simpa using h4)
   rw[hc];exact⟨[],World.ownsRow_nil _ _ _ _,by unfold aP;rfl,(fun u hu=>by cases hu),.inl ⟨rfl,fun s' hs' b c e=>by simp at hs';subst hs';rw[hq]at e;cases e⟩⟩
  ·obtain⟨rfl,rfl⟩:=h7 rfl;obtain⟨hB,arr,hO⟩:=hs.at h1 hq;obtain⟨r1,r2⟩:=hO.vals;obtain⟨k1,k2,k3⟩:=hO.row (by rw[h3];exact hz)
   refine⟨_,⟨?_,.inr ⟨b,c',arr,hv,hB,?_,h5,k3,?_,?_⟩⟩,r1,r2,.inr ⟨s,b,c',ob,rfl,h1,hq,by rw[hv];rfl⟩⟩
   ·rw[r1.length,h4]
   ·have:=hO.blk;rw[h2]at this;exact this
   ·rw[k1,h3]
   ·rw[h4]
theorem aAp{C0:bI}{ρ:Ren}{g:Nat->Option Ob}{w:World}{B:Nat}(hs:StR C0 ρ g w B){esz:Nat}{y:AV}{v:Value}(hy:aE ρ (aJ C0 B w ρ g) y v){m:Nat}{cs:List AV}
  (hd:(y= .nil/\m=0/\cs=[])\/(∃l,y= .p (.sl m l)/\l.length=m*esz/\cs=l.map .p)\/∃s o ob,y= .own s o m/\g s=some ob/\(ob.cells.drop o).take (m*esz)=cs/\cs.length=m*esz):
  ∃a c us,v= .slice a m c/\us.length=m*esz/\Rd w a us/\(a=none->c=0)/\aP ρ (aJ C0 B w ρ g) cs us/\lT us:=by
 rcases hd with⟨rfl,rfl,rfl⟩|⟨l,rfl,hl,rfl⟩|⟨s,oo,ob,rfl,h1,h2,h3⟩
 ·unfold aE at hy;exact⟨none,0,[],hy,by simp,(fun i u hi=>by simp at hi),fun _=>rfl,by unfold aP;rfl,fun u hu=>by cases hu⟩
 ·unfold aE aU at hy;obtain⟨a,c,hv,h1,h2,h3⟩:=hy;cases a with
  |none=>
   obtain⟨rfl,rfl⟩:=h2 rfl;exact⟨none,0,[],hv,hl,(fun i u hi=>by simp at hi),fun _=>rfl,by simp;unfold aP;rfl,fun u hu=>by cases hu⟩
  |some ad=>
   obtain⟨b,off,sp⟩:=ad;obtain⟨h4,h5⟩:=h3 _ rfl;dsimp only at h4 h5;rcases Nat.eq_zero_or_pos m with hm0|hm0
   ·subst hm0;have hl0:_=[] :=List.length_eq_zero_iff.1 (by simpa using hl)
    subst hl0;exact⟨_,c,[],hv,by simp,(fun i u hi=>by simp at hi),(fun h=>by cases h),by simp;unfold aP;rfl,fun u hu=>by cases hu⟩
   have h4:=h4 hm0;subst h4;obtain⟨vs,k1,k2,k3,k4⟩:=h5.vals;refine⟨_,c,vs,hv,by omega,?_,(fun h=>by cases h),k3.toA,k4⟩
   intro i u hi;have:=k2 i u hi;exact⟨b,off,rfl,World.block_lt_of_cell? w ⟨b,_,none⟩ this.1,this.1⟩
 ·unfold aE at hy;obtain⟨q,c,hq,⟨rfl,hv,rfl,rfl⟩|⟨b,o',c',rfl,hv,h5,h6,h7⟩⟩:=hy
  ·have:cs=[] :=List.length_eq_zero_iff.1 (by simpa using h3)
   subst this;exact⟨none,0,[],hv,by simp,(fun i u hi=>by simp at hi),fun _=>rfl,by unfold aP;rfl,fun u hu=>by cases hu⟩
  ·obtain⟨hB,arr,hO⟩:=hs.at h1 hq;obtain⟨r1,r2⟩:=hO.vals;refine⟨_,c',((arr.toList.take ob.cells.length).drop oo).take (m*esz),hv,?_,?_,(fun h=>by cases h),by rw[<-h2];exact(r1.drop _).take _,fun u hu=>r2 u (List.mem_of_mem_drop (List.mem_of_mem_take hu))⟩
   ·have:=r1.length;have e:=congrArg List.length h2;simp only[List.length_take,List.length_drop]at e|-;simp only[List.length_take]at this;omega
   ·intro i u hi;rw[List.getElem?_take]at hi;split at hi
    ·rename_i hlt;have hm:m≠0:=by intro h;subst h;simp at hlt
     have e:=h6 hm;subst e;rw[List.getElem?_drop,List.getElem?_take]at hi;split at hi
     ·refine⟨b,o',rfl,hO.lt,?_⟩;rw[hO.cell];simpa using hi
     ·cases hi
    ·cases hi
theorem Ke{t t' ty e e':TypeId}(ht:P.underlying t=some (.slice e))(ht':P.underlying t'=some (.slice e'))(s x:Value)(w:World):
  (Builtin.append_ #[t,t'] ty #[s,x]).run P w=(Builtin.append_ #[t,t] ty #[s,x]).run P w:=by
 cases s<;>simp[Builtin.append_,run_underlying ht,run_underlying ht']
theorem aCM{x y:Operand}{t t':TypeId}(ht':(dO P t').isSome=true)(ho:o.op= .call {callee:= .builtin .append,args:= #[x,y],argTypes:= #[t,t']}){K:Res}(h:Xx P n t σ (E x) (E y) K):∃r R W,bM P o E σ n r R W/\K r R W:=by
 obtain⟨e,he,hta,h⟩:=h;unfold aBx at hta;have hx:x∈o.op.operands.toList:=by rw[ho];simp[Op.operands,Call.operands]
 have hy:y∈o.op.operands.toList:=by rw[ho];simp[Op.operands,Call.operands]
 cases hi:P.info? e with
 |none=>rw[hi]at hta;cases hta
 |some i=>
 rw[hi]at hta;simp only[Option.bind_some]at hta;cases hz:i.zero with
 |none=>rw[hz]at hta;cases hta
 |some z=>
 rw[hz]at hta;simp only[Option.map_some,Option.getD_some,Bool.and_eq_true,beq_iff_eq,decide_eq_true_eq]at hta;obtain⟨⟨t1,t2⟩,t3⟩:=hta;have hesz:aZ P e=i.size:=by simp[aZ,hi]
 have hh:∃k cs R1 m cs' R2,((E x= .nil/\k=0/\cs=[]/\R1=[])\/∃s ob,E x= .own s 0 k/\R1=[s]/\σ s=some ob/\ob.ty=e/\ob.esz=aZ P e/\ob.cells.length=k*aZ P e/\cs=ob.cells)/\
   ((E y= .nil/\m=0/\cs'=[]/\R2=[])\/(∃l,E y= .p (.sl m l)/\l.length=m*aZ P e/\cs'=l.map .p/\R2=[])\/∃s o ob,E y= .own s o m/\σ s=some ob/\(ob.cells.drop o).take (m*aZ P e)=cs'/\cs'.length=m*aZ P e/\R2=[s])/\
   k+m<=1000000/\K (.own (sit n 0) 0 (k+m)) (R1++R2) (R1.map (·,none)++[(sit n 0,some ⟨e,aZ P e,cs++cs'⟩)]):=by
  have tl:∀k cs R1,Sb σ (aZ P e) (E y) (fun m cs' R2=>k+m<=1000000/\K (.own (sit n 0) 0 (k+m)) (R1++R2) (R1.map (·,none)++[(sit n 0,some ⟨e,aZ P e,cs++cs'⟩)]))->
    ∃m cs' R2,((E y= .nil/\m=0/\cs'=[]/\R2=[])\/(∃l,E y= .p (.sl m l)/\l.length=m*aZ P e/\cs'=l.map .p/\R2=[])\/∃s o ob,E y= .own s o m/\σ s=some ob/\(ob.cells.drop o).take (m*aZ P e)=cs'/\cs'.length=m*aZ P e/\R2=[s])/\
    k+m<=1000000/\K (.own (sit n 0) 0 (k+m)) (R1++R2) (R1.map (·,none)++[(sit n 0,some ⟨e,aZ P e,cs++cs'⟩)]):=by
   intro k cs R1 h;unfold Sb at h;split at h
   ·rename_i ey;exact⟨0,[],[],.inl ⟨ey,rfl,rfl,rfl⟩,h⟩
   ·rename_i m l ey;exact⟨m,_,[],.inr (.inl ⟨l,ey,h.1,rfl,rfl⟩),h.2⟩
   ·rename_i s oo m ey;obtain⟨ob,l,h1,h2,h3,h4⟩:=h;exact⟨m,l,[s],.inr (.inr ⟨s,oo,ob,ey,h1,h2,h3,rfl⟩),h4⟩
   ·exact h.elim
  unfold Yx at h;split at h
  ·rename_i ex;obtain⟨m,cs',R2,h1,h2⟩:=tl _ _ _ h;exact⟨0,[],[],m,cs',R2,.inl ⟨ex,rfl,rfl,rfl⟩,h1,h2⟩
  ·rename_i s k ex;obtain⟨ob,g1,g2,g3,g4,g5⟩:=h;obtain⟨m,cs',R2,h1,h2⟩:=tl _ _ _ g5;exact⟨k,_,[s],m,cs',R2,.inr ⟨s,ob,ex,rfl,g1,g2,g3,g4,rfl⟩,h1,h2⟩
  ·exact h.elim
 obtain⟨k,cs,R1,m,cs',R2,hd1,hd2,hkm,hK⟩:=hh;refine⟨_,_,_,?_,hK⟩;intro C0 ρ g V w B hs hB hR hn hgn hE;have hn:=hn _ (dM n 0);have hgn:=hgn _ (dM n 0);have hcl:∀s,cls s≠n->s≠sit n 0:=fun s h e=>h (by rw[e];exact dM n 0)
 have hd1':(E x= .nil/\k=0/\cs=[]/\R1=[])\/∃s ob,E x= .own s 0 k/\R1=[s]/\g s=some ob/\ob.ty=e/\ob.esz=aZ P e/\ob.cells.length=k*aZ P e/\cs=ob.cells:=by
  rcases hd1 with h|⟨s,ob,h1,h2,h3,h4⟩
  ·exact .inl h
  ·exact .inr ⟨s,ob,h1,h2,(hR s (by rw[h2];simp)).trans h3,h4⟩
 have hd2':(E y= .nil/\m=0/\cs'=[])\/(∃l,E y= .p (.sl m l)/\l.length=m*aZ P e/\cs'=l.map .p)\/∃s o ob,E y= .own s o m/\g s=some ob/\(ob.cells.drop o).take (m*aZ P e)=cs'/\cs'.length=m*aZ P e:=by
  rcases hd2 with⟨h1,h2,h3,_⟩|⟨l,h1,h2,h3,_⟩|⟨s,oo,ob,h1,h2,h3,h4,h5⟩
  ·exact .inl ⟨h1,h2,h3⟩
  ·exact .inr (.inl ⟨l,h1,h2,h3⟩)
  ·exact .inr (.inr ⟨s,oo,ob,h1,(hR s (by rw[h5];simp)).trans h2,h3,h4⟩)
 obtain⟨xs,hown,q1,q2,hsep⟩:=aA7 hs (by omega) (hE x hx) hd1'
 obtain⟨a,c,us,hyv,p1,p2,p3,p4,p5⟩:=aAp hs (hE y hy) hd2';have hlenx:xs.length=k*aZ P e:=hown.1;have hsuff:∀K0:Value->World->Prop,bZ P {o with op:= .call {callee:= .builtin .append,args:= #[x,y],argTypes:= #[t,t]}} V w K0->bZ P o V w K0:=by
  intro K0 h;obtain⟨e',he'⟩:=Option.isSome_iff_exists.1 ht';have hr:=Ke (ty:=o.type) (hZ he) (hZ he') (bB V x) (bB V y) w;unfold bZ execOp at*;simp only[ho,resolve,invoke,builtin,Sem.run_bind,Sem.run_pure,Result.andThen_ok,List.map_toArray,List.map_cons,List.map_nil]at*;rw[hr];exact h
 refine hsuff _ ?_;refine tG x y t rfl B e z (aZ P e) i.bytes (hZ he) (by rw[hi,hesz];simp[hz]) (by rw[t1,hesz]) (by omega) _ k xs rfl hown a m c us hyv p1 p2 p3 p5 hkm t3 hB ?_
 intro v' w' hown' hbel hgrow hblk;obtain⟨q',c',hq',hq2⟩:∃(q':Option Nat) (c':Nat),((q'=none/\v'= .slice none 0 0/\k+m=0/\c'=0/\xs++us=[])\/∃b' arr,q'=some b'/\v'= .slice (some ⟨b',0,none⟩) (k+m) c'/\B<=b'/\w'.heap[b']? =some (.cells arr e (0,0))/\k+m<=c'/\c'<=maxLen/\arr.size=c'*aZ P e/\arr.toList.take ((k+m)*aZ P e)=xs++us)/\True:=by
  obtain⟨o1,⟨h1,h2⟩|⟨b',c',arr,h1,h2,h3,h4,h5,h6,h7⟩⟩:=hown'
  ·exact⟨none,0,.inl ⟨rfl,h1,h2,rfl,List.length_eq_zero_iff.1 (by rw[o1,h2];simp)⟩,trivial⟩
  ·exact⟨some b',c',.inr ⟨b',arr,rfl,h1,h2,h3,h4,h5,h6,h7⟩,trivial⟩
 clear hq2;generalize hnS:sit n 0=nS at*
 let ρ':Ren:=fun s=>if s=nS then some (q',c')else ρ s
 let W:List (Nat×Option Ob):=R1.map (·,none)++[(nS,some ⟨e,aZ P e,cs++cs'⟩)]
 show∃ρ'':Ren,(∀s,cls s≠n->ρ'' s=ρ s)/\(∀b o' x,aJ C0 B w ρ g b o' x->aJ C0 B w' ρ'' (cB g W) b o' x)/\StR C0 ρ'' (cB g W) w' B/\aE ρ'' (aJ C0 B w' ρ'' (cB g W)) (.own nS 0 (k+m)) v'/\Below B w w';have hext:∀s q,ρ s=some q->ρ' s=some q:=by
  intro s q hq;show(if s=nS then _ else _)=_
  rw[if_neg (fun e=>by rw[e,hn]at hq;cases hq)];exact hq
 have hR1:∀s∈R1,s≠nS:=by
  intro s hs' e;rcases hd1' with⟨_,_,_,h⟩|⟨s',ob,_,h1,h2,_⟩
  ·rw[h]at hs';cases hs'
  ·rw[h1]at hs';simp at hs';subst hs';rw[e,hgn]at h2;cases h2
 have hlkn:W.lookup nS=some (some ⟨e,aZ P e,cs++cs'⟩):=by
  rcases hd1' with⟨_,_,_,h⟩|⟨s',ob,_,h1,h2,_⟩
  ·simp[W,h]
  ·have:s'≠nS:=hR1 s' (by rw[h1];simp)
   simp[W,h1,List.lookup,beq_eq_false_iff_ne.2 (fun e=>this e.symm)]
 have hlkR:∀s,s∈R1->W.lookup s=some none:=by
  intro s hs';rcases hd1' with⟨_,_,_,h⟩|⟨s',ob,_,h1,h2,_⟩
  ·rw[h]at hs';cases hs'
  ·rw[h1]at hs';simp at hs';subst hs';simp[W,h1]
 have hlk:∀s,s≠nS->s∉R1->W.lookup s=none:=by
  intro s h1 h2;rcases hd1' with⟨_,_,_,h⟩|⟨s',ob,_,h3,_⟩
  ·simp[W,h,List.lookup,beq_eq_false_iff_ne.2 h1]
  ·rw[h3]at h2;simp at h2;simp[W,h3,List.lookup,beq_eq_false_iff_ne.2 h1,beq_eq_false_iff_ne.2 h2]
 have hupR:∀s,s∈R1->cB g W s=none:=by intro s h;unfold cB;rw[hlkR s h]
 have hup:∀s,s≠nS->s∉R1->cB g W s=g s:=by intro s h1 h2;unfold cB;rw[hlk s h1 h2]
 have hrow:∀s ob b c,g s=some ob->ρ s=some (some b,c)->s∉R1->some b≠(bB V x).ownBlock:=by
  intro s ob b c e1 e2 e3 e4;rcases hsep with⟨h1,_⟩|⟨s',b',c2,ob',h1,h2,h3,h4⟩
  ·rw[h1]at e4;cases e4
  ·rw[h4]at e4;cases e4;have:=hs.inj s s' ob ob' b c c2 e1 h2 e2 h3;subst this;exact e3 (by rw[h1];simp)
 have hlt:∀s ob b c,g s=some ob->ρ s=some (some b,c)->b<w.heap.size:=by
  intro s ob b c e1 e2;obtain⟨_,arr,e3⟩:=hs.at e1 e2;exact e3.lt
 have hmono:∀b o' x,aJ C0 B w ρ g b o' x->aJ C0 B w' ρ' (cB g W) b o' x:=by
  intro b o' x' ⟨e1,e2,e0⟩;have hb:b<w.heap.size:=World.block_lt_of_cell? w ⟨b,o',none⟩ e1;have hnr:some b≠(bB V x).ownBlock:=by
   intro e4;rcases hsep with⟨h1,_⟩|⟨s',b',c2,ob',h1,h2,h3,h4⟩
   ·rw[h1]at e4;cases e4
   ·rw[h4]at e4;cases e4;rw[e2 s' c2 h3]at h2;cases h2
  refine⟨(World.cell?_of_block (hgrow.block b hb hnr)).trans e1,?_,e0⟩;intro s c2 e3;by_cases e:s=nS
  ·subst e;simp only[ρ',if_true]at e3;cases e3;rcases hq' with⟨h1,_⟩|⟨b',arr,h1,h2,_⟩
   ·cases h1
   ·cases h1;rcases hblk b (by rw[h2];rfl)with h3|h3
    ·exact absurd h3.symm hnr
    ·omega
  ·simp only[ρ',if_neg e]at e3;by_cases e4:s∈R1
   ·exact hupR s e4
   ·rw[hup s e e4];exact e2 s c2 e3
 refine⟨ρ',fun s hs'=>by simp only[ρ',if_neg (hcl s hs')],hmono,?_,?_,hbel⟩
 ·refine hs.step ?_ hext hmono ?_ ?_ fun k es clock hk=>hgrow.block k (iT hk) ?_
  rotate_left 3
  ·intro e4;rcases hsep with⟨h1,_⟩|⟨s',b',c2,ob',h1,h2,h3,h4⟩
   ·rw[h1]at e4;cases e4
   ·rw[h4]at e4;cases e4;obtain⟨_,arr,e5⟩:=hs.at h2 h3;exact xJ hk e5.blk rfl
  ·intro s ob' e1 e2;have:s≠nS:=fun e=>by rw[e,hgn]at e2;cases e2
   simp only[ρ',if_neg this]
  ·intro s ob' b c2 e1 e2 e3;have e4:s∉R1:=fun h=>by rw[hlkR s h]at e1;cases e1
   exact hgrow.block b (hlt s ob' b c2 e2 e3) (hrow s ob' b c2 e2 e3 e4)
  ·intro s ob' e1;have e2:s=nS:=by
    by_cases h1:s=nS
    ·exact h1
    ·by_cases h2:s∈R1
     ·rw[hlkR s h2]at e1;cases e1
     ·rw[hlk s h1 h2]at e1;cases e1
   subst e2;rw[hlkn]at e1;simp only[Option.some.injEq]at e1;subst e1;refine⟨q',c',by simp[ρ'],?_⟩
   rcases hq' with⟨h1,h2,h3,h4,h5⟩|⟨b',arr,h1,h2,h3,h4,h5,h6,h7,h8⟩
   ·refine .inl ⟨h1,by show aZ P e≠0;omega,?_,h4⟩
    have l1:=q1.length;have l2:=p4.length;have l3:=congrArg List.length h5;simp only[List.length_append,List.length_nil]at l3;show cs++cs'=[];rw[List.append_eq_nil_iff];exact⟨List.length_eq_zero_iff.1 (by omega),List.length_eq_zero_iff.1 (by omega)⟩
   ·refine .inr ⟨b',arr,h1,h3,⟨h4,fun hh=>absurd hh (by show aZ P e≠0;omega),fun _=>⟨h7,?_,h6⟩,?_⟩,?_⟩
    ·show(cs++cs').length<=arr.size;have l1:=q1.length;have l2:=p4.length;rw[h7,List.length_append,<-l1,<-l2,hlenx,p1,<-Nat.add_mul];exact Nat.mul_le_mul_right _ h5
    ·intro j u hj;have hj:(cs++cs')[j]? =some u:=hj;have l1:=q1.length;have hjj:∃v,(xs++us)[j]? =some v/\v.oneCell'=true/\aE ρ (aJ C0 B w ρ g) u v:=by
      by_cases hlt2:j<cs.length
      ·rw[List.getElem?_append_left hlt2]at hj;obtain⟨v,g1,g2⟩:=q1.get _ _ j u hj;exact⟨v,by rw[List.getElem?_append_left (by omega)];exact g1,q2 v (List.mem_of_getElem? g1),g2⟩
      ·rw[List.getElem?_append_right (by omega)]at hj
       obtain⟨v,g1,g2⟩:=p4.get _ _ _ u hj;exact⟨v,by rw[List.getElem?_append_right (by omega),l1];exact g1,p5 v (List.mem_of_getElem? g1),g2⟩
     obtain⟨v,g1,g2,g3⟩:=hjj;refine⟨v,?_,g2,aE.mono hext hmono u v g3⟩;rw[<-h8,List.getElem?_take]at g1;split at g1
     ·simpa using g1
     ·cases g1
    ·intro s' o' c2 hne e3 e4;simp only[ρ',if_neg hne]at e4;have e5:s'∉R1:=fun h=>by rw[hupR s' h]at e3;cases e3
     rw[hup s' hne e5]at e3;rcases hblk b' (by rw[h2];rfl)with h9|h9
     ·exact hrow s' o' b' c2 e3 e4 e5 h9.symm
     ·have:=hlt s' o' b' c2 e3 e4;omega
 ·unfold aE;refine⟨q',c',by simp[ρ'],?_⟩
  rcases hq' with⟨h1,h2,h3,h4,h5⟩|⟨b',arr,h1,h2,h3,h4,h5,h6,h7,h8⟩
  ·exact .inl ⟨h1,h2,h3,rfl⟩
  ·exact .inr ⟨b',0,c',h1,h2,h5,fun _=>rfl,fun _=>⟨rfl,rfl⟩⟩
end
end Go.Proofs.YtdaeofhdgabhjaaGreat
namespace Go.Proofs.YtdaeofhdgabhjaaGreat
open Go.RowKit
def aJp(C0:bI)(B:Nat)(w:World):bI:=fun b o v=>w.cell? ⟨b,o,none⟩=some v/\(B<=b\/C0 b o v)
def gE{α β:Type}(f:α->Option β):List α->Option (List β)
 |[] =>some []
 |x::l=>match f x,gE f l with
  |some y,some m=>some (y::m)
  |_,_=>none
def bJ{α β:Type}(f:α->List β):List α->List β
 |[] =>[]
 |x::l=>f x++bJ f l
def fE:Nat->(Nat->Option Ob)->AV->Option PV
 |_,_,.p x=>some x
 |_,_,.nil=>some (.sl 0 [])
 |d+1,σ,.own s o m=>(σ s).bind fun ob=>(gE (fE d σ) ob.cells).map fun l=> .sl m ((l.drop o).take (m*ob.esz))
 |d+1,σ,.ptr s off=>(σ s).bind fun ob=>(gE (fE d σ) ob.cells).map fun l=> .pro l off
 |d+1,σ,.agg l=>(gE (fE d σ) l).map .agg
 |d+1,σ,.fn f a b=>(gE (fE d σ) a).bind fun x=>(gE (fE d σ) b).map fun y=> .fn f x y
 |_,_,_=>none
def dX:Nat->(Nat->Option Ob)->AV->List Nat
 |0,_,_=>[]
 |d+1,σ,.own s _ _=>s::(match σ s with|some ob=>bJ (dX d σ) ob.cells|none=>[])
 |d+1,σ,.ptr s _=>s::(match σ s with|some ob=>bJ (dX d σ) ob.cells|none=>[])
 |d+1,σ,.agg l=>bJ (dX d σ) l
 |d+1,σ,.fn _ a b=>bJ (dX d σ) a++bJ (dX d σ) b
 |_,_,_=>[]
theorem Pc(d:Nat)(σ:Nat->Option Ob)(x:PV):fE d σ (.p x)=some x:=by cases d<;>rfl
theorem uM(d:Nat)(σ:Nat->Option Ob):∀(l:List PV),gE (fE d σ) (l.map .p)=some l
 |[] =>rfl
 |x::l=>by simp only[List.map_cons,gE,Pc,uM d σ l]
theorem aFe(d:Nat)(σ:Nat->Option Ob)(x:PV):dX d σ (.p x)=[] :=by cases d<;>rfl
theorem mC(d:Nat)(σ:Nat->Option Ob):∀(l:List PV),bJ (dX d σ) (l.map .p)=[]
 |[] =>rfl
 |x::l=>by simp only[List.map_cons,bJ,aFe,mC d σ l,List.append_nil]
theorem gG{α β:Type}{f:α->List β}{x:α}{y:β}:∀{l:List α},x∈l->y∈f x->y∈bJ f l
 |a::l,h,hy=>by
  rcases List.mem_cons.1 h with rfl|h
  ·exact List.mem_append_left _ hy
  ·exact List.mem_append_right _ (gG h hy)
theorem iK{α β:Type}{f:α->Option β}:∀{l:List α} {m:List β},gE f l=some m->l.length=m.length/\∀(i:Nat) x,l[i]? =some x->∃y,m[i]? =some y/\f x=some y
 |[],m,h=>by simp[gE]at h;subst h;exact⟨rfl,fun i x h=>by simp at h⟩
 |a::l,m,h=>by
  unfold gE at h;split at h
  ·rename_i y r h1 h2;cases h;obtain⟨g1,g2⟩:=iK h2;refine⟨by simp[g1],fun i x hi=> ?_⟩
   cases i with
   |zero=>simp at hi;subst hi;exact⟨y,rfl,h1⟩
   |succ i=>simpa using g2 i x (by simpa using hi)
  ·cases h
section
variable {P:Program}
theorem Bs{C0:bI}{ρ:Ren}{g σ:Nat->Option Ob}{w:World}{B:Nat}(hs:StR C0 ρ g w B)(T:bI)(S:Nat->Prop)(hfull:∀b o v,aJ C0 B w ρ g b o v->T b o v)(hT:∀s ob b c,S s->g s=some ob->ρ s=some (some b,c)->B<=b->∀o v,w.cell? ⟨b,o,none⟩=some v->T b o v):∀(d:Nat) (x:AV) (y:PV) (v:Value),fE d σ x=some y->(∀s∈dX d σ x,S s/\g s=σ s)->aE ρ (aJ C0 B w ρ g) x v->aU T y v:=by
 intro d;induction d with
 |zero=>
  intro x y v h hr hx;unfold fE at h;split at h<;>first|(cases h;done)|skip
  ·cases h;unfold aE at hx;exact aU.mono hfull _ v hx
  ·cases h;unfold aE at hx;unfold aU;exact⟨none,0,hx,Nat.le_refl _,fun _=>⟨rfl,rfl⟩,fun ad e=>by cases e⟩
  all_goals (rename_i e;cases e)
 |succ d ih=>
  have ihL:∀(l:List AV) (m:List PV) (vs:List Value),gE (fE d σ) l=some m->(∀s∈bJ (dX d σ) l,S s/\g s=σ s)->aP ρ (aJ C0 B w ρ g) l vs->bO T m vs:=by
   intro l m vs h hr hv;obtain⟨h1,h2⟩:=iK h;refine bO.of _ _ (by rw[<-h1];exact hv.length) fun i y hi=> ?_
   have hlt:i<l.length:=by rw[h1];exact(List.getElem?_eq_some_iff.1 hi).1
   obtain⟨y',h3,h4⟩:=h2 i l[i] (List.getElem?_eq_getElem hlt);rw[hi]at h3;cases h3;obtain⟨v,h5,h6⟩:=hv.get _ _ i l[i] (List.getElem?_eq_getElem hlt);exact⟨v,h5,ih _ _ v h4 (fun s hs'=>hr s (gG (List.getElem_mem hlt) hs')) h6⟩
  have ihC:∀(s b c:Nat) (ob:Ob) (m:List PV),S s->g s=some ob->ρ s=some (some b,c)->gE (fE d σ) ob.cells=some m->(∀s∈bJ (dX d σ) ob.cells,S s/\g s=σ s)->dS T m b 0:=by
   intro s b c ob m hS h1 h2 h3 h4;obtain⟨hBb,arr,hO⟩:=hs.at h1 h2;obtain⟨g1,g2⟩:=iK h3;refine dS.of _ _ _ fun i y hi=> ?_
   have hlt:i<ob.cells.length:=by rw[g1];exact(List.getElem?_eq_some_iff.1 hi).1
   obtain⟨y',h5,h6⟩:=g2 i ob.cells[i] (List.getElem?_eq_getElem hlt);rw[hi]at h5;cases h5;obtain⟨v,k1,k2,k3⟩:=hO.cells i ob.cells[i] (List.getElem?_eq_getElem hlt);refine⟨v,?_,k2,ih _ _ v h6 (fun s hs'=>h4 s (gG (List.getElem_mem hlt) hs')) k3⟩
   refine hT s ob b c hS h1 h2 hBb _ _ ?_;rw[Nat.zero_add,hO.cell];exact k1
  intro x y v h hr hx;unfold fE at h;split at h
  ·cases h;unfold aE at hx;exact aU.mono hfull _ v hx
  ·cases h;unfold aE at hx;unfold aU;exact⟨none,0,hx,Nat.le_refl _,fun _=>⟨rfl,rfl⟩,fun ad e=>by cases e⟩
  ·rename_i σ _ _ _ d' s o m e;cases e;simp only[Option.bind_eq_some_iff,Option.map_eq_some_iff]at h;obtain⟨ob,h1,l,h2,rfl⟩:=h;have hg:g s=some ob:=(hr s (by simp[dX])).2.trans h1
   have hSs:=(hr s (by simp[dX])).1
   have hr2:∀s'∈bJ (dX d σ) ob.cells,S s'/\g s'=σ s':=fun s' hs'=>hr s' (by simp only[dX,h1];exact List.mem_cons_of_mem _ hs')
   unfold aE at hx;unfold aU;obtain⟨q,c,hq,⟨rfl,hv,rfl,rfl⟩|⟨b,o',c',rfl,hv,h5,h6,h7⟩⟩:=hx
   ·refine⟨none,0,hv,Nat.le_refl _,fun _=>⟨rfl,by simp⟩,fun ad e=>by cases e⟩
   ·refine⟨_,c',hv,h5,(fun e=>by cases e),fun ad e=> ?_⟩
    cases e;refine⟨fun _=>rfl,?_⟩
    by_cases hm:m=0
    ·subst hm;simp;unfold dS;trivial
    ·have e:=h6 hm;subst e;have:=((ihC s b c ob l hSs hg hq h2 hr2).drop o').take (m*ob.esz);simpa using this
  ·rename_i σ _ _ _ d' s off e;cases e;simp only[Option.bind_eq_some_iff,Option.map_eq_some_iff]at h;obtain⟨ob,h1,l,h2,rfl⟩:=h;have hg:g s=some ob:=(hr s (by simp[dX])).2.trans h1
   have hSs:=(hr s (by simp[dX])).1
   have hr2:∀s'∈bJ (dX d σ) ob.cells,S s'/\g s'=σ s':=fun s' hs'=>hr s' (by simp only[dX,h1];exact List.mem_cons_of_mem _ hs')
   unfold aE at hx;unfold aU;obtain⟨b,c,hq,hv⟩:=hx;exact⟨b,0,by rw[Nat.zero_add];exact hv,ihC s b c ob l hSs hg hq h2 hr2⟩
  ·rename_i d' l e;cases e;simp only[Option.map_eq_some_iff]at h;obtain⟨m,h2,rfl⟩:=h;unfold aE at hx;unfold aU;obtain⟨vs,h3,h4,h5⟩:=hx;exact⟨vs,h3,ihL l m vs h2 (fun s hs'=>hr s hs') h4,h5⟩
  ·rename_i d' f a b e;cases e;simp only[Option.bind_eq_some_iff,Option.map_eq_some_iff]at h;obtain⟨x1,h1,x2,h2,rfl⟩:=h;unfold aE at hx;unfold aU;obtain⟨vs1,vs2,h3,h4,h5⟩:=hx;exact⟨vs1,vs2,h3,ihL a x1 vs1 h1 (fun s hs'=>hr s (List.mem_append_left _ hs')) h4,ihL b x2 vs2 h2 (fun s hs'=>hr s (List.mem_append_right _ hs')) h5⟩
  ·cases h
def qL(P:Program)(f:FuncId):Bool:=((P.funcs[f]?).map fun fn=> !(fn.name== "runtime.NumGoroutine")&& !fn.body.isNone).getD false
def Sat(P:Program)(fr:Bool)(f:FuncId)(A:List PV)(r:PV):Prop:=qL P f=true/\
 ∀(C:bI) (w:World) (vs:List Value),(∀b o v,C b o v->w.cell? ⟨b,o,none⟩=some v)->bO C A vs->
  Calls P f vs.toArray w fun e w'=>∃v,e= .returned v/\aU (fun b o x=>(fr=false/\C b o x)\/(w.heap.size<=b/\w'.cell? ⟨b,o,none⟩=some x)) r v/\Below w.heap.size w w'
theorem dN{f:FuncId}(h:qL P f=true)(args:Array Value)(w:World):(callFunc f args).run P w= .ok (.enter f args) w:=by
 unfold qL at h;cases hf:P.funcs[f]? with
 |none=>rw[hf]at h;cases h
 |some fn=>
  rw[hf]at h;simp only[Option.map_some,Option.getD_some,Bool.and_eq_true,Bool.not_eq_true']at h;simp only[callFunc,Sem.run_bind,run_program,Result.andThen_ok,hf,h.1,h.2,Bool.false_eq_true,if_false,Sem.run_pure]
structure Lent(C:bI)(w:World)(b c:Nat)(ty:TypeId)(esz:Nat)(cells:List PV)(arr:Array Value):Prop where
 blk:w.heap[b]? =some (.cells arr ty (0,0))
 box:esz=0->arr.size=cells.length
 row:esz≠0->arr.size=c*esz/\cells.length<=arr.size/\c<=maxLen
 cells:∀(i:Nat) x,cells[i]? =some x->∃v,arr[i]? =some v/\v.oneCell'=true/\aU C x v
def aD6(n:Option Nat)(b c:Nat):Value:=match n with
 |none=> .pointer (some ⟨b,0,none⟩)
 |some n=> .slice (some ⟨b,0,none⟩) n c
def zU(P:Program)(f:FuncId)(n:Option Nat)(A:List PV)(ty:TypeId)(esz:Nat)(cells cells':List PV):Prop:=qL P f=true/\cells'.length=cells.length/\
 (∀(C:bI) (w:World) (b c:Nat) (arr:Array Value) (vs:List Value),(∀b' o v,C b' o v->w.cell? ⟨b',o,none⟩=some v/\b'≠b)->Lent C w b c ty esz cells arr->(∀m,n=some m->m<=c)->bO C A vs->
   Calls P f (aD6 n b c::vs).toArray w fun e w'=>∃arr',e= .returned Go.undef/\Lent C w' b c ty esz cells' arr'/\w.grownBy w' (some b))/\
 (n=some 0->∀(C:bI) (w:World) (vs:List Value),(∀b' o v,C b' o v->w.cell? ⟨b',o,none⟩=some v)->bO C A vs->
   Calls P f (.slice none 0 0::vs).toArray w fun e w'=>e= .returned Go.undef/\Below w.heap.size w w')
def Ix(P:Program)(σ:Nat->Option Ob)(f:FuncId)(avs:List AV)(K:Res):Prop:=match avs with
 | .ptr s 0::rest=>∃ty cells,σ s=some ⟨ty,0,cells.map .p⟩/\∃A cells',cK rest=some A/\zU P f none A ty 0 cells cells'/\K .undef [s] [(s,some ⟨ty,0,cells'.map .p⟩)]
 | .own s 0 n::rest=>∃ty esz cells,σ s=some ⟨ty,esz,cells.map .p⟩/\esz≠0/\∃A cells',cK rest=some A/\zU P f (some n) A ty esz cells cells'/\K .undef [s] [(s,some ⟨ty,esz,cells'.map .p⟩)]
 |_=>False
def aCu(P:Program)(σ:Nat->Option Ob)(f:FuncId)(avs:List AV)(K:Res):Prop:=
 ∃A,gE (fE 3 σ) avs=some A/\∃fr r,Sat P fr f A r/\(((fr=true\/cK avs=some A)/\K (.p r) (bJ (dX 3 σ) avs) [])\/K (.p r) (bJ (dX 3 σ) avs) ((bJ (dX 3 σ) avs).map (·,none)))
def pN(P:Program)(σ:Nat->Option Ob)(f:FuncId)(avs:List AV)(K:Res):Prop:=aCu P σ f avs K\/Ix P σ f avs K
def Sr(P:Program)(σ:Nat->Option Ob)(fv:AV)(args:List AV)(K:Res):Prop:=match fv with
 | .fn (.func f) first caps=>pN P σ f (first++args++caps) K
 | .p (.fn (.func f) first caps)=>pN P σ f (first.map .p++args++caps.map .p) K
 |_=>False
variable {o:Oper} {E:Operand->AV} {σ:Nat->Option Ob} {n:Nat}
theorem aP.append{ρ:Ren}{C:bI}{l m:List AV}{vs us:List Value}(h:aP ρ C l vs)(k:aP ρ C m us):aP ρ C (l++m) (vs++us):=
 aP.of _ _ (by simp[h.length,k.length]) fun i x hi=>by
  have hl:=h.length;by_cases hlt:i<l.length
  ·rw[List.getElem?_append_left hlt]at hi;rw[List.getElem?_append_left (by omega)]
   exact h.get _ _ i x hi
  ·rw[List.getElem?_append_right (by omega)]at hi
   rw[List.getElem?_append_right (by omega),hl]
   exact k.get _ _ _ x hi
theorem Ha{s n0:Nat}{nn:Option Nat}{f:FuncId}{A:List PV}{ty esz:Nat}{cells cells':List PV}(hob:σ s=some ⟨ty,esz,cells.map .p⟩)(hS:zU P f nn A ty esz cells cells')
  (hkind:(nn=none/\esz=0)\/(nn=some n0/\esz≠0))
  (hrun:∀(ρ:Ren) (C:bI) (V:Nat->Value) (w:World),(∀x∈o.op.operands.toList,aE ρ C (E x) (bB V x))->∃v us,(execOp (bB V) o).run P w= .ok (.enter f (v::us).toArray) w/\bO C A us/\
    aE ρ C (match nn with|none=> .ptr s 0|some n0=> .own s 0 n0) v):bM P o E σ n .undef [s] [(s,some ⟨ty,esz,cells'.map .p⟩)] :=by
 obtain⟨_,hlen,hcall,hnil⟩:=hS;intro C0 ρ g V w B hs hB hR hn hgn hE;obtain⟨v,us,hr,hA,hv⟩:=hrun ρ _ V w hE;have hgs:g s=some ⟨ty,esz,cells.map .p⟩:=(hR s (by simp)).trans hob
 unfold bZ;rw[hr];dsimp only;have hlk:∀s',s'≠s->[(s,some (⟨ty,esz,cells'.map .p⟩:Ob))].lookup s'=none:=by intro s' hs';simp[List.lookup,beq_eq_false_iff_ne.2 hs']
 have hup:∀s',s'≠s->cB g [(s,some ⟨ty,esz,cells'.map .p⟩)] s'=g s':=by intro s' hs';unfold cB;rw[hlk s' hs']
 have hat:∀s' o',[(s,some (⟨ty,esz,cells'.map .p⟩:Ob))].lookup s'=some (some o')->s'=s/\o'=⟨ty,esz,cells'.map .p⟩:=by
  intro s' o' e;have e1:s'=s:=by
   rcases Nat.decEq s' s with h|h
   ·rw[hlk s' h]at e;cases e
   ·exact h
  subst e1;simp[List.lookup]at e;exact⟨rfl,e.symm⟩
 have hlt:∀s ob b c,g s=some ob->ρ s=some (some b,c)->b<w.heap.size:=by
  intro s ob b c e1 e2;obtain⟨_,arr,e3⟩:=hs.at e1 e2;exact e3.lt
 have real:∀b c,ρ s=some (some b,c)->v=aD6 nn b c->(∀m,nn=some m->m<=c)->
   Calls P f (v::us).toArray w fun e w''=>∃v,e= .returned v/\∃ρ':Ren,(∀s,cls s≠n->ρ' s=ρ s)/\(∀b o' x,aJ C0 B w ρ g b o' x->aJ C0 B w'' ρ' (cB g [(s,some ⟨ty,esz,cells'.map .p⟩)]) b o' x)/\
    StR C0 ρ' (cB g [(s,some ⟨ty,esz,cells'.map .p⟩)]) w'' B/\aE ρ' (aJ C0 B w'' ρ' (cB g [(s,some ⟨ty,esz,cells'.map .p⟩)])) .undef v/\Below B w w'':=by
  intro b c hρ hv hnc;obtain⟨hBb,arr,hO⟩:=hs.at hgs hρ;subst hv;have hL:Lent (aJ C0 B w ρ g) w b c ty esz cells arr:=by
   refine⟨hO.blk,fun h=>by simpa using hO.box h,fun h=>by simpa using hO.row h,fun i x hi=> ?_⟩
   obtain⟨u,h1,h2,h3⟩:=hO.cells i (.p x) (by show(cells.map AV.p)[i]? =_;rw[List.getElem?_map,hi];rfl)
   unfold aE at h3;exact⟨u,h1,h2,h3⟩
  refine(hcall _ w b c arr us (fun b' o' x hx=>⟨hx.1,fun e=>by subst e;have:=hx.2.1 s c hρ;rw[hgs]at this;cases this⟩) hL hnc hA).mono ?_
  rintro e w' ⟨arr',rfl,hL',hG⟩;have hold:∀k,k<w.heap.size->k≠b->w'.heap[k]? =w.heap[k]? :=fun k h1 h2=>hG.block k h1 (fun e=>h2 (by cases e;rfl))
  have hmono:∀b' o' x,aJ C0 B w ρ g b' o' x->aJ C0 B w' ρ (cB g [(s,some ⟨ty,esz,cells'.map .p⟩)]) b' o' x:=by
   intro b' o' x ⟨e1,e2,e0⟩;have hne:b'≠b:=fun e=>by rw[e]at e2;rw[e2 s c hρ]at hgs;cases hgs
   refine⟨(World.cell?_of_block (hold b' (World.block_lt_of_cell? w ⟨b',o',none⟩ e1) hne)).trans e1,?_,e0⟩;intro s' c' e3;by_cases e:s'=s
   ·subst e;rw[e2 _ _ e3]at hgs;cases hgs
   ·rw[hup s' e];exact e2 s' c' e3
  refine⟨_,rfl,ρ,fun _ _=>rfl,hmono,?_,by unfold aE;rfl,⟨hG.os,hG.tape,hG.output,hG.size,fun k hk=>hold k (by omega) (by omega)⟩⟩
  refine hs.step (fun _ _ _ _=>rfl) (fun _ _ h=>h) hmono ?_ ?_ fun k es clock hk=>hold k (iT hk) (xJ hk hO.blk)
  ·intro s' o' b' c' e1 e2 e3;refine hold b' (hlt s' o' b' c' e2 e3) fun e=> ?_
   subst e;have:=hs.inj s s' _ o' b' c c' hgs e2 hρ e3;subst this;simp[List.lookup]at e1
  ·intro s' o' e;obtain⟨rfl,rfl⟩:=hat s' o' e;refine⟨some b,c,hρ,.inr ⟨b,arr',rfl,hBb,⟨hL'.blk,fun h=>by simpa using hL'.box h,fun h=>by simpa using hL'.row h,?_⟩,?_⟩⟩
   ·intro i x hi;have hi:(cells'.map AV.p)[i]? =some x:=hi;rw[List.getElem?_map]at hi;cases hc:cells'[i]? with
    |none=>rw[hc]at hi;cases hi
    |some y=>
     rw[hc]at hi;simp only[Option.map_some,Option.some.injEq]at hi;subst hi;obtain⟨u,h1,h2,h3⟩:=hL'.cells i y hc;exact⟨u,h1,h2,by unfold aE;exact aU.mono hmono y u h3⟩
   ·intro s2 o' c' hne e3 e4;rw[hup s2 hne]at e3;exact hne (hs.inj s' s2 _ o' b c c' hgs e3 hρ e4).symm
 rcases hkind with⟨rfl,he⟩|⟨rfl,he⟩
 ·dsimp only at hv;unfold aE at hv;obtain⟨b,c,hρ,hv⟩:=hv;exact real b c hρ hv (fun m h=>by cases h)
 ·dsimp only at hv;unfold aE at hv;obtain⟨q,c,hρ,⟨rfl,hv,rfl,_⟩|⟨b,o',c',rfl,hv,h5,h6,h7⟩⟩:=hv
  ·subst hv;have hcn:cells'=[] :=by
    obtain⟨q,c2,h1,⟨_,h2|h2⟩|⟨b,arr,h2,_⟩⟩:=hs.ob s _ hgs
    rotate_left
    ·exact absurd h2.1 he
    rotate_left
    ·have:(cells.map AV.p)=[] :=h2.2.1;have:cells.length=0:=by simpa using congrArg List.length this
     exact List.length_eq_zero_iff.1 (by omega)
    ·rw[hρ]at h1;cases h1;cases h2
   refine(hnil rfl _ w us (fun b' o' x hx=>hx.1) hA).mono ?_
   rintro e w' ⟨rfl,hb⟩;have hold:∀k,k<w.heap.size->w'.heap[k]? =w.heap[k]? :=fun k hk=>hb.block k hk
   have hmono:∀b' o' x,aJ C0 B w ρ g b' o' x->aJ C0 B w' ρ (cB g [(s,some ⟨ty,esz,cells'.map .p⟩)]) b' o' x:=by
    intro b' o' x ⟨e1,e2,e0⟩;refine⟨(World.cell?_of_block (hold b' (World.block_lt_of_cell? w ⟨b',o',none⟩ e1))).trans e1,?_,e0⟩;intro s' c' e3;by_cases e:s'=s
    ·subst e;rw[hρ]at e3;cases e3
    ·rw[hup s' e];exact e2 s' c' e3
   refine⟨_,rfl,ρ,fun _ _=>rfl,hmono,?_,by unfold aE;rfl,hb.mono hB⟩
   refine hs.step (fun _ _ _ _=>rfl) (fun _ _ h=>h) hmono (fun s' o' b' c' _ e2 e3=>hold b' (hlt s' o' b' c' e2 e3)) ?_ fun k es clock hk=>hold k (iT hk)
   intro s' o' e;obtain⟨rfl,rfl⟩:=hat s' o' e;refine⟨none,c,hρ,.inl ⟨rfl,he,by rw[hcn];rfl,?_⟩⟩
   obtain⟨q,c2,h1,⟨_,h2|h2⟩|⟨b,arr,h2,_⟩⟩:=hs.ob s' _ hgs
   ·rw[hρ]at h1;cases h1;exact h2.2.2
   ·exact absurd h2.1 he
   ·rw[hρ]at h1;cases h1;cases h2
  ·obtain⟨rfl,rfl⟩:=h7 rfl;exact real b c' hρ hv (fun m h=>by cases h;exact h5)
theorem Xj{c:Call}{f:Operand}{fid:FuncId}{first caps:List AV}(hfm:f∈o.op.operands.toList)(ham:∀x∈c.args.toList,x∈o.op.operands.toList)(ho:o.op= .call c)(hc:c.callee= .value f)
  (hfv:∀ρ C v,aE ρ C (E f) v->∃vs1 vs2:List Value,v= .func (.func fid) vs1.toArray vs2.toArray/\aP ρ C first vs1/\aP ρ C caps vs2) {K:Res}
  (h:Ix P σ fid (first++c.args.toList.map E++caps) K):∃r R W,bM P o E σ n r R W/\K r R W:=by
 have hrun:qL P fid=true->∀(ρ:Ren) (C:bI) (V:Nat->Value) (w:World),(∀x∈o.op.operands.toList,aE ρ C (E x) (bB V x))->∃us,(execOp (bB V) o).run P w= .ok (.enter fid us.toArray) w/\aP ρ C (first++c.args.toList.map E++caps) us:=by
  intro hok ρ C V w hE;obtain⟨vs1,vs2,hv,q1,q2⟩:=hfv _ _ _ (hE f hfm);have hargs:∀l:List Operand,(∀x∈l,x∈o.op.operands.toList)->aP ρ C (l.map E) (l.map (bB V)):=by
   intro l;induction l with
   |nil=>intro _;simp only[List.map_nil];unfold aP;rfl
   |cons x l ih=>
    intro hx;simp only[List.map_cons];unfold aP;exact⟨_,_,rfl,hE x (hx x List.mem_cons_self),ih fun y hy=>hx y (List.mem_cons_of_mem _ hy)⟩
  refine⟨vs1++c.args.toList.map (bB V)++vs2,?_,(q1.append (hargs _ ham)).append q2⟩;unfold execOp;rw[ho];have e2:vs1.toArray++Array.map (bB V) c.args++vs2.toArray=(vs1++c.args.toList.map (bB V)++vs2).toArray:=by
   apply Array.toList_inj.1;simp
  simp only[resolve,hc,hv,Deferred.ofValue,Sem.run_bind,Sem.run_pure,Result.andThen_ok,invoke,dN hok,e2]
 generalize first++c.args.toList.map E++caps=avs at h hrun
 unfold Ix at h;split at h
 ·rename_i s rest;obtain⟨ty,cells,hob,A,cells',hA,hS,hK⟩:=h;refine⟨_,_,_,Ha (n0:=0) hob hS (.inl ⟨rfl,rfl⟩) ?_,hK⟩;intro ρ C V w hE;obtain⟨us,h1,h2⟩:=hrun hS.1 ρ C V w hE;unfold aP at h2;obtain⟨v,r,rfl,h3,h4⟩:=h2;exact⟨v,r,h1,kY hA h4,h3⟩
 ·rename_i s k rest;obtain⟨ty,esz,cells,hob,he,A,cells',hA,hS,hK⟩:=h;refine⟨_,_,_,Ha (n0:=k) hob hS (.inr ⟨rfl,he⟩) ?_,hK⟩;intro ρ C V w hE;obtain⟨us,h1,h2⟩:=hrun hS.1 ρ C V w hE;unfold aP at h2;obtain⟨v,r,rfl,h3,h4⟩:=h2;exact⟨v,r,h1,kY hA h4,h3⟩
 ·exact h.elim
theorem aBp{c:Call}{f:Operand}(ho:o.op= .call c)(hc:c.callee= .value f){K:Res}(h:Sr P σ (E f) (c.args.toList.map E) K):∃r R W,bM P o E σ n r R W/\K r R W:=by
 have hfm:f∈o.op.operands.toList:=by rw[ho];simp[Op.operands,Call.operands,hc]
 have ham:∀x∈c.args.toList,x∈o.op.operands.toList:=by intro x hx;rw[ho];simp[Op.operands,Call.operands];exact .inr (by simpa using hx)
 have key:∀(fid:FuncId) (first caps:List AV),(∀ρ C v,aE ρ C (E f) v->∃vs1 vs2:List Value,v= .func (.func fid) vs1.toArray vs2.toArray/\aP ρ C first vs1/\aP ρ C caps vs2)->
   pN P σ fid (first++c.args.toList.map E++caps) K->∃r R W,bM P o E σ n r R W/\K r R W:=by
  intro fid first caps hfv hgo
  refine Or.elim hgo ?_ (fun hgo=>Xj hfm ham ho hc hfv hgo)
  rintro⟨A,hA,fr,r,hsat,hcase⟩;have sim:∀W:List (Nat×Option Ob),(W=[]/\(fr=true\/cK (first++c.args.toList.map E++caps)=some A))\/W=(bJ (dX 3 σ) (first++c.args.toList.map E++caps)).map (·,none)->bM P o E σ n (.p r) (bJ (dX 3 σ) (first++c.args.toList.map E++caps)) W:= ?_
  ·rcases hcase with⟨h1,h2⟩|h2
   ·exact⟨_,_,_,sim _ (.inl ⟨rfl,h1⟩),h2⟩
   ·exact⟨_,_,_,sim _ (.inr rfl),h2⟩
  intro W hW;intro C0 ρ g V w B hs hB hR hn hgn hE;obtain⟨vs1,vs2,hv,q1,q2⟩:=hfv _ _ _ (hE f hfm);have hargs:∀l:List Operand,(∀x∈l,x∈o.op.operands.toList)->aP ρ (aJ C0 B w ρ g) (l.map E) (l.map (bB V)):=by
   intro l;induction l with
   |nil=>intro _;simp only[List.map_nil];unfold aP;rfl
   |cons x l ih=>
    intro hx;simp only[List.map_cons];unfold aP;exact⟨_,_,rfl,hE x (hx x List.mem_cons_self),ih fun y hy=>hx y (List.mem_cons_of_mem _ hy)⟩
  have hall:=(q1.append (hargs _ ham)).append q2;obtain⟨hok,hcalls⟩:=hsat;have hrun:(execOp (bB V) o).run P w= .ok (.enter fid (vs1++c.args.toList.map (bB V)++vs2).toArray) w:=by
   unfold execOp;rw[ho];have e2:vs1.toArray++Array.map (bB V) c.args++vs2.toArray=(vs1++c.args.toList.map (bB V)++vs2).toArray:=by
    apply Array.toList_inj.1;simp
   simp only[resolve,hc,hv,Deferred.ofValue,Sem.run_bind,Sem.run_pure,Result.andThen_ok,invoke,dN hok,e2]
  have hlive:∀s ob b c,g s=some ob->ρ s=some (some b,c)->b<w.heap.size:=by
   intro s ob b c e1 e2;obtain⟨_,arr,e3⟩:=hs.at e1 e2;exact e3.lt
  have hnone:∀s x,W.lookup s=some x->W.lookup s=some none:=by
   intro s x h;rcases hW with⟨rfl,_⟩|rfl
   ·simp at h
   ·have key:∀l:List Nat,(l.map (·,(none:Option Ob))).lookup s=some x->x=none:=by
     intro l;induction l with
     |nil=>intro h;simp at h
     |cons k l ih=>
      intro h;simp only[List.map_cons,List.lookup]at h;split at h
      ·cases h;rfl
      ·exact ih h
    rw[h,key _ h]
  have hdrop:∀b o' x,aJ C0 B w ρ g b o' x->aJ C0 B w ρ (cB g W) b o' x:=by
   intro b o' x ⟨e1,e2,e0⟩;refine⟨e1,fun s c' e3=> ?_,e0⟩
   unfold cB;split
   ·rename_i y hy;have:=hnone s y hy;rw[hy]at this;cases this;rfl
   ·exact e2 s c' e3
  unfold bZ;rw[hrun];dsimp only;have fin:∀(C:bI),(∀b o v,C b o v->w.cell? ⟨b,o,none⟩=some v)->bO C A (vs1++c.args.toList.map (bB V)++vs2)->(fr=false->∀b o v,C b o v->aJ C0 B w ρ (cB g W) b o v)->
    Calls P fid (vs1++c.args.toList.map (bB V)++vs2).toArray w fun e w''=>∃v,e= .returned v/\∃ρ':Ren,(∀s,cls s≠n->ρ' s=ρ s)/\(∀b o' x,aJ C0 B w ρ g b o' x->aJ C0 B w'' ρ' (cB g W) b o' x)/\StR C0 ρ' (cB g W) w'' B/\aE ρ' (aJ C0 B w'' ρ' (cB g W)) (.p r) v/\Below B w w'':=by
   intro C hC hrep hCC;refine(hcalls C w _ hC hrep).mono ?_;rintro e w' ⟨v,rfl,hr,hbel⟩;have hold:∀b,b<w.heap.size->w'.heap[b]? =w.heap[b]? :=fun b hb=>hbel.block b hb
   have hmono:∀b o' x,aJ C0 B w ρ (cB g W) b o' x->aJ C0 B w' ρ (cB g W) b o' x:=by
    intro b o' x ⟨e1,e2,e0⟩;exact⟨(World.cell?_of_block (hold b (World.block_lt_of_cell? w ⟨b,o',none⟩ e1))).trans e1,e2,e0⟩
   refine⟨v,rfl,ρ,fun _ _=>rfl,fun b o' x h=>hmono b o' x (hdrop b o' x h),?_,?_,hbel.mono hB⟩
   ·refine hs.step (fun _ _ _ _=>rfl) (fun _ _ h=>h) (fun b o' x h=>hmono b o' x (hdrop b o' x h)) ?_ (fun s o' h=>by rw[hnone s _ h]at h;cases h) fun k es clock hk=>hold k (iT hk)
    intro s ob b c' _ e2 e3;exact hold b (hlive s ob b c' e2 e3)
   ·unfold aE;refine aU.mono ?_ r v hr;rintro b o' x (⟨h1,h2⟩|⟨h1,h2⟩)
    ·exact hmono b o' x (hCC h1 b o' x h2)
    ·refine⟨h2,?_,.inl (Nat.le_trans hB h1)⟩;intro s c' e3;unfold cB;split
     ·rename_i y hy;have:=hnone s y hy;rw[hy]at this;cases this;rfl
     ·cases hgs:g s with
      |none=>rfl
      |some ob=>have:=hlive s ob b c' hgs e3;omega
  have hsnap:∀(T:bI),(∀b o v,aJ C0 B w ρ g b o v->T b o v)->(∀s ob b c2,s∈bJ (dX 3 σ) (first++c.args.toList.map E++caps)->g s=some ob->ρ s=some (some b,c2)->B<=b->∀o v,w.cell? ⟨b,o,none⟩=some v->T b o v)->
    bO T A (vs1++c.args.toList.map (bB V)++vs2):=by
   intro T hT1 hT2;obtain⟨g1,g2⟩:=iK hA;refine bO.of _ _ (by rw[<-g1];exact hall.length) fun i y hi=> ?_
   have hlt:i<(first++c.args.toList.map E++caps).length:=by rw[g1];exact(List.getElem?_eq_some_iff.1 hi).1
   obtain⟨y',h5,h6⟩:=g2 i _ (List.getElem?_eq_getElem hlt);rw[hi]at h5;cases h5;obtain⟨v,k1,k2⟩:=hall.get _ _ i _ (List.getElem?_eq_getElem hlt);exact⟨v,k1,Bs hs T (fun s=>s∈bJ (dX 3 σ) (first++c.args.toList.map E++caps)) hT1 hT2 3 _ _ v h6 (fun s hs'=>⟨gG (List.getElem_mem hlt) hs',hR s (gG (List.getElem_mem hlt) hs')⟩) k2⟩
  rcases hW with⟨rfl,h⟩|rfl
  ·cases fr with
   |true=>exact fin (aJp C0 B w) (fun b o v h=>h.1) (hsnap _ (fun b o v h=>⟨h.1,h.2.2⟩) (fun s ob b c _ _ _ hb o v h=>⟨h,.inl hb⟩)) (fun h=>by cases h)
   |false=>
    rcases h with h|h
    ·cases h
    ·exact fin (aJ C0 B w ρ g) (fun b o v h=>h.1) (kY h hall) (fun _ b o v h=>h)
  ·refine fin (aJ C0 B w ρ (cB g ((bJ (dX 3 σ) (first++c.args.toList.map E++caps)).map (·,none)))) (fun b o v h=>h.1) (hsnap _ hdrop ?_) (fun _ b o v h=>h)
   intro s ob b c' hsm e1 e2 hb o' v e3;have hmem:∀l:List Nat,s∈l->(l.map (·,(none:Option Ob))).lookup s=some none:=by
    intro l;induction l with
    |nil=>intro h;cases h
    |cons k l ih=>
     intro h;simp only[List.map_cons,List.lookup];by_cases e:s=k
     ·subst e;simp
     ·rw[beq_eq_false_iff_ne.2 e];rcases List.mem_cons.1 h with h|h
      ·exact absurd h e
      ·exact ih h
   refine⟨e3,fun s' c2 e4=> ?_,.inl hb⟩
   unfold cB;split
   ·rename_i y hy;have:=hnone s' y hy;rw[hy]at this;cases this;rfl
   ·rename_i hy;cases hg':g s' with
    |none=>rfl
    |some ob'=>
     have:=hs.inj s s' ob ob' b c' c2 e1 hg' e2 e4;subst this;rw[hmem _ hsm]at hy;cases hy
 unfold Sr at h;split at h
 ·rename_i fid first caps e
  refine key fid first caps (fun ρ C v hv=> ?_) h
  rw[e]at hv;unfold aE at hv;exact hv
 ·rename_i fid first caps e
  refine key fid _ _ (fun ρ C v hv=> ?_) h
  rw[e]at hv;unfold aE aU at hv;obtain⟨vs1,vs2,h1,h2,h3⟩:=hv;exact⟨vs1,vs2,h1,h2.toA,h3.toA⟩
 ·exact h.elim
end
def Up(v:Value)(us:List Value):Value:=match us with
 |[] =>v
 |us=> .tuple (v::us).toArray
def uB(C:bI)(N:Nat)(q:Option Nat)(w':World):bI:=fun b o x=>C b o x\/(N<=b/\q≠some b/\w'.cell? ⟨b,o,none⟩=some x)
def Xy(P:Program)(f:FuncId)(A:List PV)(ty esz:Nat)(cells:List PV)(m:Nat)(ys:List PV):Prop:=qL P f=true/\esz≠0/\
 ∀(C:bI) (w:World) (vs:List Value),(∀b o v,C b o v->w.cell? ⟨b,o,none⟩=some v)->bO C A vs->
  Calls P f vs.toArray w fun e w'=>∃v us q c,e= .returned (Up v us)/\Below w.heap.size w w'/\bO (uB C w.heap.size q w') ys us/\
   ((q=none/\v= .slice none 0 0/\m=0/\cells=[]/\c=0)\/∃b arr,q=some b/\v= .slice (some ⟨b,0,none⟩) m c/\m<=c/\w.heap.size<=b/\w'.heap[b]? =some (.cells arr ty (0,0))/\
     arr.size=c*esz/\cells.length<=arr.size/\c<=maxLen/\∀(i:Nat) x,cells[i]? =some x->∃u,arr[i]? =some u/\u.oneCell'=true/\aU (uB C w.heap.size q w') x u)
def aBC(n m:Nat)(ys:List PV):AV:=match ys with
 |[] => .own (sit n 0) 0 m
 |ys=> .tup (.own (sit n 0) 0 m::ys.map .p)
def aEX(P:Program)(f:FuncId)(A:List PV)(ty esz:Nat)(cells:List PV)(m:Nat)(ys:List PV):Prop:=qL P f=true/\esz≠0/\
 ∀(C:bI) (w:World) (vs:List Value),(∀b o v,C b o v->w.cell? ⟨b,o,none⟩=some v)->bO C A vs->
  Calls P f (Value.slice none 0 0::vs).toArray w fun e w'=>∃v us q c,e= .returned (Up v us)/\Below w.heap.size w w'/\bO (uB C w.heap.size q w') ys us/\
   ((q=none/\v= .slice none 0 0/\m=0/\cells=[]/\c=0)\/∃b arr,q=some b/\v= .slice (some ⟨b,0,none⟩) m c/\m<=c/\w.heap.size<=b/\w'.heap[b]? =some (.cells arr ty (0,0))/\
     arr.size=c*esz/\cells.length<=arr.size/\c<=maxLen/\∀(i:Nat) x,cells[i]? =some x->∃u,arr[i]? =some u/\u.oneCell'=true/\aU (uB C w.heap.size q w') x u)
def Ah(P:Program)(n:Nat)(f:FuncId)(avs:List AV)(K:Res):Prop:=
 ∃A ty esz cells m ys,((cK avs=some A/\Xy P f A ty esz cells m ys)\/∃r,avs= .nil::r/\cK r=some A/\aEX P f A ty esz cells m ys)/\K (aBC n m ys) [] [(sit n 0,some ⟨ty,esz,cells.map .p⟩)]
def Sq(P:Program)(n:Nat)(fv:AV)(args:List AV)(K:Res):Prop:=match fv with
 | .fn (.func f) first caps=>Ah P n f (first++args++caps) K
 | .p (.fn (.func f) first caps)=>Ah P n f (first.map .p++args++caps.map .p) K
 |_=>False
section
variable {P:Program} {o:Oper} {E:Operand->AV} {σ:Nat->Option Ob} {n:Nat}
theorem bO.aD4{ρ:Ren}{C:bI}:∀{l:List PV} {vs:List Value},bO C l vs->aP ρ C (l.map .p) vs
 |[],vs,h=>by unfold bO at h;simp only[List.map_nil];unfold aP;exact h
 |x::l,vs,h=>by
  unfold bO at h;obtain⟨v,r,rfl,h2,h3⟩:=h;simp only[List.map_cons];unfold aP;exact⟨v,r,rfl,by unfold aE;exact h2,bO.aD4 h3⟩
theorem Xi{c:Call}{f:Operand}(ho:o.op= .call c)(hc:c.callee= .value f){K:Res}(h:Sq P n (E f) (c.args.toList.map E) K):∃r R W,bM P o E σ n r R W/\K r R W:=by
 have hfm:f∈o.op.operands.toList:=by rw[ho];simp[Op.operands,Call.operands,hc]
 have ham:∀x∈c.args.toList,x∈o.op.operands.toList:=by intro x hx;rw[ho];simp[Op.operands,Call.operands];exact .inr (by simpa using hx)
 have key:∀(fid:FuncId) (first caps:List AV),(∀ρ C v,aE ρ C (E f) v->∃vs1 vs2:List Value,v= .func (.func fid) vs1.toArray vs2.toArray/\aP ρ C first vs1/\aP ρ C caps vs2)->
   Ah P n fid (first++c.args.toList.map E++caps) K->∃r R W,bM P o E σ n r R W/\K r R W:=by
  intro fid first caps hfv ⟨A,ty,esz,cells,m,ys,hA,hK⟩
  obtain⟨hok,he,hcalls⟩:qL P fid=true/\esz≠0/\∀(ρ:Ren) (C:bI) (w:World) (vs:List Value),(∀b o v,C b o v->w.cell? ⟨b,o,none⟩=some v)->aP ρ C (first++c.args.toList.map E++caps) vs->
   Calls P fid vs.toArray w fun e w'=>∃v us q c,e= .returned (Up v us)/\Below w.heap.size w w'/\bO (uB C w.heap.size q w') ys us/\
    ((q=none/\v= .slice none 0 0/\m=0/\cells=[]/\c=0)\/∃b arr,q=some b/\v= .slice (some ⟨b,0,none⟩) m c/\m<=c/\w.heap.size<=b/\w'.heap[b]? =some (.cells arr ty (0,0))/\
      arr.size=c*esz/\cells.length<=arr.size/\c<=maxLen/\∀(i:Nat) x,cells[i]? =some x->∃u,arr[i]? =some u/\u.oneCell'=true/\aU (uB C w.heap.size q w') x u):=by
   rcases hA with⟨hA,h1,h2,h3⟩|⟨r,hr,hA,h1,h2,h3⟩
   ·exact⟨h1,h2,fun ρ C w vs hC h=>h3 C w vs hC (kY hA h)⟩
   ·refine⟨h1,h2,fun ρ C w vs hC h=> ?_⟩
    rw[hr]at h;unfold aP at h;obtain⟨v,vs',rfl,h4,h5⟩:=h;unfold aE at h4;subst h4;exact h3 C w vs' hC (kY hA h5)
  refine⟨_,_,_,?_,hK⟩;intro C0 ρ g V w B hs hB hR hn hgn hE;have hn:=hn _ (dM n 0);have hgn:=hgn _ (dM n 0);have hcl:∀s,cls s≠n->s≠sit n 0:=fun s h e=>h (by rw[e];exact dM n 0)
  obtain⟨vs1,vs2,hv,q1,q2⟩:=hfv _ _ _ (hE f hfm);have hargs:∀l:List Operand,(∀x∈l,x∈o.op.operands.toList)->aP ρ (aJ C0 B w ρ g) (l.map E) (l.map (bB V)):=by
   intro l;induction l with
   |nil=>intro _;simp only[List.map_nil];unfold aP;rfl
   |cons x l ih=>
    intro hx;simp only[List.map_cons];unfold aP;exact⟨_,_,rfl,hE x (hx x List.mem_cons_self),ih fun y hy=>hx y (List.mem_cons_of_mem _ hy)⟩
  have hall:=(q1.append (hargs _ ham)).append q2;have hrun:(execOp (bB V) o).run P w= .ok (.enter fid (vs1++c.args.toList.map (bB V)++vs2).toArray) w:=by
   unfold execOp;rw[ho];have e2:vs1.toArray++Array.map (bB V) c.args++vs2.toArray=(vs1++c.args.toList.map (bB V)++vs2).toArray:=by
    apply Array.toList_inj.1;simp
   simp only[resolve,hc,hv,Deferred.ofValue,Sem.run_bind,Sem.run_pure,Result.andThen_ok,invoke,dN hok,e2]
  have hlive:∀s ob b c,g s=some ob->ρ s=some (some b,c)->b<w.heap.size:=by
   intro s ob b c e1 e2;obtain⟨_,arr,e3⟩:=hs.at e1 e2;exact e3.lt
  unfold bZ;rw[hrun];dsimp only;refine(hcalls ρ (aJ C0 B w ρ g) w _ (fun b o v h=>h.1) hall).mono ?_
  rintro e w' ⟨v,us,q,c,rfl,hbel,hys,hrow⟩;have hqb:∀b,q=some b->w.heap.size<=b:=by
   intro b hb;rcases hrow with⟨h1,_⟩|⟨b',arr,h1,_,_,h4,_⟩
   ·rw[h1]at hb;cases hb
   ·rw[h1]at hb;cases hb;exact h4
  have hold:∀b,b<w.heap.size->w'.heap[b]? =w.heap[b]? :=fun b hb=>hbel.block b hb
  unfold aBC;generalize hnS:sit n 0=nS at*
  let ρ':Ren:=fun s=>if s=nS then some (q,c)else ρ s
  have hρn:ρ' nS=some (q,c):=if_pos rfl;have hρs:∀s,s≠nS->ρ' s=ρ s:=fun s h=>if_neg h
  have hup:∀s,s≠nS->cB g [(nS,some ⟨ty,esz,cells.map .p⟩)] s=g s:=by
   intro s h;unfold cB;simp[List.lookup,beq_eq_false_iff_ne.2 h]
  have hmono:∀b o' x,aJ C0 B w ρ g b o' x->aJ C0 B w' ρ' (cB g [(nS,some ⟨ty,esz,cells.map .p⟩)]) b o' x:=by
   intro b o' x ⟨e1,e2,e0⟩;have hlt:=World.block_lt_of_cell? w ⟨b,o',none⟩ e1;refine⟨(World.cell?_of_block (hold b hlt)).trans e1,fun s c' e3=> ?_,e0⟩
   by_cases hsn:s=nS
   ·subst hsn;rw[hρn]at e3;cases e3;have:=hqb b rfl;have hlt:b<w.heap.size:=hlt;omega
   ·rw[hup s hsn];rw[hρs s hsn]at e3;exact e2 s c' e3
  have hkeep:∀b o' x,uB (aJ C0 B w ρ g) w.heap.size q w' b o' x->aJ C0 B w' ρ' (cB g [(nS,some ⟨ty,esz,cells.map .p⟩)]) b o' x:=by
   rintro b o' x (h1|⟨h1,h2,h3⟩)
   ·exact hmono b o' x h1
   ·refine⟨h3,fun s c' e3=> ?_,.inl (Nat.le_trans hB h1)⟩
    by_cases hsn:s=nS
    ·subst hsn;rw[hρn]at e3;cases e3;exact absurd rfl h2
    ·rw[hup s hsn];rw[hρs s hsn]at e3;cases hgs:g s with
     |none=>rfl
     |some ob=>have:=hlive s ob b c' hgs e3;omega
  refine⟨_,rfl,ρ',fun s hs=>hρs s (hcl s hs),hmono,?_,?_,hbel.mono hB⟩
  ·refine hs.step (fun s o' _ hgs=>hρs s (fun h=>by subst h;rw[hgn]at hgs;cases hgs)) (fun s q' hq=>by rw[hρs s (fun e=>by subst e;rw[hn]at hq;cases hq)];exact hq) hmono ?_ ?_ fun k es clock hk=>hold k (iT hk)
   ·intro s ob b c' _ e2 e3;exact hold b (hlive s ob b c' e2 e3)
   ·intro s o' hso;have hsn:s=nS:=by
     rcases Nat.decEq s nS with h|h
     ·simp[List.lookup,beq_eq_false_iff_ne.2 h]at hso
     ·exact h
    subst hsn;simp[List.lookup]at hso;subst hso;refine⟨q,c,hρn,?_⟩;rcases hrow with⟨h1,h2,h3,h4,h5⟩|⟨b,arr,h1,h2,h3,h4,h5,h6,h7,h8,h9⟩
    ·exact .inl ⟨h1,he,by rw[h4];rfl,h5⟩
    ·refine .inr ⟨b,arr,h1,Nat.le_trans hB h4,⟨h5,fun h=>absurd h he,fun _=>⟨h6,by simpa using h7,h8⟩,fun i x hi=> ?_⟩,fun s' o2 c' hne hg' hr'=> ?_⟩
     ·have hi:(cells.map AV.p)[i]? =some x:=hi;rw[List.getElem?_map]at hi;cases hci:cells[i]? with
      |none=>rw[hci]at hi;cases hi
      |some y=>
       rw[hci]at hi;simp only[Option.map_some,Option.some.injEq]at hi;subst hi;obtain⟨u,k1,k2,k3⟩:=h9 i y hci;exact⟨u,k1,k2,by unfold aE;exact aU.mono hkeep y u k3⟩
     ·rw[hup s' hne]at hg';rw[hρs s' hne]at hr';have:=hlive s' o2 b c' hg' hr';omega
  ·have hown:aE ρ' (aJ C0 B w' ρ' (cB g [(nS,some ⟨ty,esz,cells.map .p⟩)])) (.own nS 0 m) v:=by
    unfold aE;refine⟨q,c,hρn,?_⟩;rcases hrow with⟨h1,h2,h3,_⟩|⟨b,arr,h1,h2,h3,_⟩
    ·exact .inl ⟨h1,h2,h3,rfl⟩
    ·exact .inr ⟨b,0,c,h1,h2,h3,fun _=>rfl,fun _=>⟨rfl,rfl⟩⟩
   have hys2:aP ρ' (aJ C0 B w' ρ' (cB g [(nS,some ⟨ty,esz,cells.map .p⟩)])) (ys.map .p) us:=(bO.mono hkeep ys us hys).aD4;cases ys with
   |nil=>
    have:us=[] :=by have:=hys.length;simpa using this
    subst this;exact hown
   |cons y ys=>
    have hne:us≠[] :=fun h=>by have:=hys.length;rw[h]at this;simp at this
    cases us with
    |nil=>exact absurd rfl hne
    |cons u us=>
     unfold Up;dsimp only;unfold aE;refine⟨v::u::us,rfl,?_⟩;unfold aP;exact⟨v,u::us,rfl,hown,hys2⟩
 unfold Sq at h;split at h
 ·rename_i fid first caps e
  refine key fid first caps (fun ρ C v hv=> ?_) h
  rw[e]at hv;unfold aE at hv;exact hv
 ·rename_i fid first caps e
  refine key fid _ _ (fun ρ C v hv=> ?_) h
  rw[e]at hv;unfold aE aU at hv;obtain⟨vs1,vs2,h1,h2,h3⟩:=hv;exact⟨vs1,vs2,h1,h2.toA,h3.toA⟩
 ·exact h.elim
end
end Go.Proofs.YtdaeofhdgabhjaaGreat
namespace Go.Proofs.YtdaeofhdgabhjaaGreat
open Go.RowKit
theorem Fo{P:Program}{ops:Array Oper}{Q:Exit->Act->World->Prop}
  (hac:∀(i:Nat) (o:Oper),ops[i]? =some o->∀e∈o.after.toList,Region.binds .any e=true->e.on<i)
  (Inv:(Nat->Bool)->Act->World->Prop)
  (hstep:∀(i:Nat) (o:Oper) (D:Nat->Bool) (a:Act) (w:World),ops[i]? =some o->Inv D a w->D i=false->(∀e∈o.after.toList,Region.binds .any e=true->D e.on=true)->
    wpOp P ops Q i (fun a' w'=>Inv (fun j=>if j=i then true else D j) a' w') a w)
  (hend:∀(D:Nat->Bool) (a:Act) (w:World),Inv D a w->(∀i,i<ops.size->D i=true)->Q .normal a w):
  ∀(m k:Nat) (a:Act) (w:World),k+m=ops.size->Inv (fun j=>decide (j<k)) a w->wpOps P ops Q (List.range' k m) a w
 |0,k,a,w,hk,hI=>hend _ a w hI (fun i hi=>decide_eq_true (by omega))
 |m+1,k,a,w,hk,hI=>by
  rw[List.range'_succ,wpOps_cons];obtain⟨o,ho⟩:∃o,ops[k]? =some o:=⟨_,Array.getElem?_eq_getElem (by omega)⟩
  refine wpOp_mono ?_ (hstep k o _ a w ho hI (decide_eq_false (by omega)) (fun e he hb=>decide_eq_true (hac k o ho e he hb)))
  intro a' w' hI';refine Fo hac Inv hstep hend m (k+1) a' w' (by omega) ?_
  have e:(fun j=>decide (j<k+1))=(fun j=>if j=k then true else decide (j<k)):=by
   funext j
   by_cases h:j=k
   ·rw[if_pos h];exact decide_eq_true (by omega)
   ·rw[if_neg h];simp;omega
  rw[e];exact hI'
theorem Dr{P:Program}{id:Nat}{ops:Array Oper}{Q:Exit->Act->World->Prop}{a0:Act}{w0:World}
  (hac:∀(i:Nat) (o:Oper),ops[i]? =some o->∀e∈o.after.toList,Region.binds .any e=true->e.on<i)
  (Inv:(Nat->Bool)->Act->World->Prop) (h0:Inv (fun _=>false) a0 w0)
  (hstep:∀(i:Nat) (o:Oper) (D:Nat->Bool) (a:Act) (w:World),ops[i]? =some o->Inv D a w->D i=false->(∀e∈o.after.toList,Region.binds .any e=true->D e.on=true)->
    wpOp P ops Q i (fun a' w'=>Inv (fun j=>if j=i then true else D j) a' w') a w)
  (hend:∀(D:Nat->Bool) (a:Act) (w:World),Inv D a w->(∀i,i<ops.size->D i=true)->Q .normal a w):
  (Code.region id ops false).wp P Q a0 w0:=by
 refine wp_region ?_;have:=Fo (Q:=Q) hac Inv hstep hend ops.size 0 a0 w0 (by omega) (by
  have e:(fun j=>decide (j<0))=(fun _:Nat=>false):=by funext j;simp
  rw[e];exact h0)
 rw[List.range_eq_range'];exact this
theorem Ji{P:Program}{id:Nat}{ops:Array Oper}{Q:Exit->Act->World->Prop}{a0:Act}{w0:World}
  (dsts:List Nat)
  (hok:((List.range ops.size).all fun i=>((ops[i]?).map fun o=>(o.after.toList.all fun e=> !Region.binds .any e||decide (e.on<i))&&(match o.dst with|some d=>dsts.contains d|none=>true)).getD true)=true)
  (hds:∀s∈dsts,s<a0.tmps.size)
  (F:(Nat->Bool)->(Nat->Value)->World->Prop) (h0:F (fun _=>false) (fun s=>a0.tmps.getD s undef) w0)
  (hstep:∀(i:Nat) (o:Oper) (D:Nat->Bool) (V:Nat->Value) (w:World),ops[i]? =some o->F D V w->D i=false->(∀e∈o.after.toList,Region.binds .any e=true->D e.on=true)->
    (∀s,s∉dsts->V s=a0.tmps.getD s undef)->
    if Region.wanted o (gdV ops V)=true then
     bZ P o V w (fun v w'=>F (fun j=>if j=i then true else D j) (match o.dst with|some d=>fun s=>if s=d then v else V s|none=>V) w')
    else F (fun j=>if j=i then true else D j) (match o.dst with|some d=>fun s=>if s=d then undef else V s|none=>V) w)
  (hend:∀(D:Nat->Bool) (V:Nat->Value) (w:World),F D V w->(∀i,i<ops.size->D i=true)->Q .normal (dP a0 dsts V) w):
  (Code.region id ops false).wp P Q a0 w0:=by
 have hops:∀(i:Nat) (o:Oper),ops[i]? =some o->(∀e∈o.after.toList,Region.binds .any e=true->e.on<i)/\(∀d,o.dst=some d->d∈dsts):=by
  intro i o ho;have hi:i<ops.size:=(Array.getElem?_eq_some_iff.1 ho).1;rw[List.all_eq_true]at hok;have:=hok i (List.mem_range.2 hi);rw[ho]at this;simp only[Option.map_some,Option.getD_some,Bool.and_eq_true]at this;obtain⟨g2,g3⟩:=this;refine⟨?_,?_⟩
  ·intro e he hb;rw[List.all_eq_true]at g2;have:=g2 e he;rw[hb]at this;simpa using this
  ·intro d hd;rw[hd]at g3;simpa using g3
 refine Dr (fun i o ho=>(hops i o ho).1) (fun D a w=>a.defers=a0.defers/\a.tmps.size=a0.tmps.size/\(∀s,s∉dsts->a.tmps.getD s undef=a0.tmps.getD s undef)/\F D (fun s=>a.tmps.getD s undef) w) ⟨rfl,rfl,fun _ _=>rfl,h0⟩ ?_ ?_
 ·intro i o D a w ho ⟨i1,i2,i3,i4⟩ hD hpre;obtain⟨_,hdst⟩:=hops i o ho;have hrun:=hstep i o D (fun s=>a.tmps.getD s undef) w ho i4 hD hpre i3
  have hput:∀(v:Value) (w':World),F (fun j=>if j=i then true else D j) (match o.dst with|some d=>fun s=>if s=d then v else a.tmps.getD s undef|none=>fun s=>a.tmps.getD s undef) w'->
    (a.put o.dst v).defers=a0.defers/\(a.put o.dst v).tmps.size=a0.tmps.size/\(∀s,s∉dsts->(a.put o.dst v).tmps.getD s undef=a0.tmps.getD s undef)/\F (fun j=>if j=i then true else D j) (fun s=>(a.put o.dst v).tmps.getD s undef) w':=by
   intro v w' hF;cases hd:o.dst with
   |none=>rw[hd]at hF;exact⟨i1,i2,i3,hF⟩
   |some d=>
    rw[hd]at hF;have hdm:=hdst d hd;have hlt:d<a.tmps.size:=by rw[i2];exact hds d hdm
    have hget:∀s,(a.put (some d) v).tmps.getD s undef=if s=d then v else a.tmps.getD s undef:=by
     intro s;simp only[Act.put,Array.getD_eq_getD_getElem?,Array.getElem?_setIfInBounds];by_cases e:d=s
     ·subst e;rw[if_pos rfl,if_pos hlt,if_pos rfl];rfl
     ·rw[if_neg e,if_neg (fun e'=>e e'.symm)]
    refine⟨i1,by simpa[Act.put]using i2,?_,?_⟩
    ·intro s hs;rw[hget,if_neg (fun e=>hs (by rw[e];exact hdm))]
     exact i3 s hs
    ·have e:(fun s=>(a.put (some d) v).tmps.getD s undef)=(fun s=>if s=d then v else a.tmps.getD s undef):=funext hget
     rw[e];exact hF
  unfold wpOp;rw[ho];simp only[];rw[nR];by_cases hw:Region.wanted o (gdV ops fun s=>a.tmps.getD s undef)=true
  ·rw[if_pos hw]at hrun|-;refine .inl ?_;unfold Oper.wp;rw[Act.eval_evalV];unfold bZ at hrun;cases hr:(execOp (bB fun s=>a.tmps.getD s undef) o).run P w with
   |halt x w'=>rw[hr]at hrun;exact hrun.elim
   |ok n w'=>
    rw[hr]at hrun;cases n<;>simp only[]at hrun<;>first|exact hrun.elim|skip
    ·exact hput _ _ hrun
    ·exact hput _ _ hrun
    ·rename_i f args;show Calls P f args w' _;refine hrun.mono ?_;rintro e w'' ⟨v,rfl,hK⟩;exact hput _ _ hK
  ·rw[if_neg hw]at hrun|-;exact hput _ _ hrun
 ·intro D a w ⟨i1,i2,i3,i4⟩ hall;have:=hend D _ w i4 hall;obtain⟨p1,p2,p3⟩:=kB (fun s=>a.tmps.getD s undef) dsts a0 hds
  have e:dP a0 dsts (fun s=>a.tmps.getD s undef)=a:=by
   obtain⟨t,df⟩:=a;have ht:(dP a0 dsts (fun s=>t.getD s undef)).tmps=t:=by
    apply Array.ext
    ·rw[p2];exact i2.symm
    ·intro s h1 h2;have h3:=p3 s (by rw[<-i2];exact h2)
     rw[Array.getD_eq_getD_getElem?,Array.getElem?_eq_getElem h1,Option.getD_some]at h3;rw[h3];by_cases hm:s∈dsts
     ·rw[if_pos hm];simp[Array.getD_eq_getD_getElem?,h2]
     ·rw[if_neg hm,<-i3 s hm];simp[Array.getD_eq_getD_getElem?,h2]
   have hdf:(dP a0 dsts (fun s=>t.getD s undef)).defers=df:=p1.trans i1.symm
   show dP a0 dsts (fun s=>t.getD s undef)={tmps:=t,defers:=df}
   cases hp:dP a0 dsts (fun s=>t.getD s undef)with
   |mk t' df'=>
    rw[hp]at ht hdf;have e1:t'=t:=ht;have e2:df'=df:=hdf;rw[e1,e2]
  rw[e]at this;exact this
theorem Jk{P:Program}{id:Nat}{l:List Oper}{Q:Exit->Act->World->Prop}{a0:Act}{w0:World}
  (dsts:List Nat) (anc:List (List Nat)) (hok:okF l anc=true) (hdst:((List.range l.length).all fun i=>cH l i==1000000||dsts.contains (cH l i))=true) (hds:∀s∈dsts,s<a0.tmps.size)
  (WR:(Nat->Bool)->World->Prop) (fact:Nat->Value->World->Prop) (h0:WR (fun _=>false) w0)
  (hmono:∀j v w w',fact j v w->Below w.heap.size w w'->fact j v w')
  (hstep:oW (Sc P l anc a0 WR fact) l 0)
  (hend:∀(D:Nat->Bool) (V:Nat->Value) (w:World),(∀i,i<l.length->D i=true)->(∀i,i<l.length->fact i (eT l V i) w)->WR D w->Q .normal (dP a0 dsts V) w):
  (Code.region id l.toArray false).wp P Q a0 w0:=by
 unfold okF at hok;rw[List.all_eq_true]at hok;have hget:∀i o,l[i]? =some o->i<l.length:=fun i o h=>(List.getElem?_eq_some_iff.1 h).1
 have hop:∀i o,l[i]? =some o->(∀e∈o.after.toList,Region.binds .any e=true->e.on<i/\(eA anc i).contains e.on=true)/\o.guard=none/\
   (∀j,(eA anc i).contains j=true->j<i/\∃e∈o.after.toList,Region.binds .any e=true/\(e.on=j\/(eA anc e.on).contains j=true))/\(∀d,o.dst=some d->cH l i=d/\d≠1000000)/\(o.dst=none->cH l i=1000000):=by
  intro i o ho;have h1:=hok i (List.mem_range.2 (hget i o ho));simp only[Bool.and_eq_true]at h1;obtain⟨⟨h2,h3⟩,_⟩:=h1;rw[ho]at h2;simp only[Option.map_some,Option.getD_some,Bool.and_eq_true,Option.isNone_iff_eq_none,bne_iff_ne,ne_eq]at h2;refine⟨?_,h2.1.2,?_,?_,?_⟩
  ·intro e he hb;have:=List.all_eq_true.1 h2.1.1 e he;rw[hb]at this;simpa using this
  ·intro j hj;rw[List.all_eq_true]at h3;have:=h3 j (by simpa using hj)
   simp only[Bool.and_eq_true,decide_eq_true_eq]at this;obtain⟨h4,h5⟩:=this;refine⟨h4,?_⟩;rw[ho]at h5;simp only[Option.map_some,Option.getD_some,List.any_eq_true,Bool.and_eq_true,Bool.or_eq_true,beq_iff_eq]at h5;exact h5
  ·intro d hd;refine⟨by unfold cH;rw[ho];simp[hd],?_⟩
   rintro rfl;exact h2.2 hd
  ·intro hd;unfold cH;rw[ho];simp[hd]
 have huniq:∀i j,i<l.length->j<l.length->j≠i->cH l j=cH l i->cH l i=1000000:=by
  intro i j hi hj hne he;have h1:=hok i (List.mem_range.2 hi);simp only[Bool.and_eq_true]at h1;obtain⟨_,h3⟩:=h1;rw[List.all_eq_true]at h3;have:=h3 j (List.mem_range.2 hj);simp only[Bool.or_eq_true,beq_iff_eq,bne_iff_ne,ne_eq]at this;rcases this with(h|h)|h
  ·exact absurd h hne
  ·exact absurd he h
  ·exact h
 let G:(Nat->Bool)->(Nat->Value)->World->Prop:=fun D V w=>
  (∀i j,D i=true->(eA anc i).contains j=true->D j=true)/\(∀i,i<l.length->D i=true->fact i (eT l V i) w)/\
  (∀s,(∀j,j<l.length->cH l j=s->D j=false)->V s=a0.tmps.getD s undef)/\WR D w
 refine Ji dsts ?_ hds G ?_ ?_ ?_
 ·rw[List.all_eq_true];intro i hi;have hi':=List.mem_range.1 hi;simp only[List.size_toArray]at hi';have ho:l[i]? =some l[i] :=List.getElem?_eq_getElem hi';obtain⟨q1,q2,q3,q4,q5⟩:=hop i _ ho;simp only[List.getElem?_toArray,ho,Option.map_some,Option.getD_some,Bool.and_eq_true];refine⟨?_,?_⟩
  ·rw[List.all_eq_true];intro e he;cases hb:Region.binds .any e with
   |false=>simp
   |true=>simpa using(q1 e he hb).1
  ·cases hd:l[i].dst with
   |none=>rfl
   |some d=>
    have e1:=(q4 d hd).1;rw[List.all_eq_true]at hdst;have:=hdst i (List.mem_range.2 hi');rw[e1]at this;simp only[Bool.or_eq_true,beq_iff_eq]at this;rcases this with h|h
    ·exact absurd h (q4 d hd).2
    ·simpa using h
 ·exact⟨(fun i j h=>by cases h),(fun i _ h=>by cases h),(fun s _=>rfl),h0⟩
 ·intro i o D V w ho ⟨g1,g2,g3,g4⟩ hD hpre hV;have ho':l[i]? =some o:=by simpa using ho
  obtain⟨q1,q2,q3,q4,q5⟩:=hop i o ho';have hi:=hget i o ho';have hanc:∀j,(eA anc i).contains j=true->D j=true:=by
   intro j hj;obtain⟨_,e,he,hb,h⟩:=q3 j hj;have:=hpre e he hb;rcases h with rfl|h
   ·exact this
   ·exact g1 _ _ this h
  have hdesc:∀j,(eA anc j).contains i=true->D j=false:=by
   intro j hj;cases hx:D j with
   |false=>rfl
   |true=>rw[g1 _ _ hx hj]at hD;cases hD
  have hs:=mI l 0 hstep i o ho';rw[Nat.zero_add]at hs;have hrun:=hs D V w hD (fun j hj=>⟨hanc j hj,g2 j (Nat.lt_trans (q3 j hj).1 hi) (hanc j hj)⟩) hdesc (fun s hsl=>g3 s (fun j hj hjs=>by
   unfold Hw at hsl;rw[List.all_eq_true]at hsl;have:=hsl j (List.mem_range.2 hj);simp only[Bool.or_eq_true,bne_iff_ne,ne_eq,beq_iff_eq]at this;rcases this with(h|h)|h
   ·exact absurd hjs h
   ·exact hdesc j h
   ·rw[h];exact hD)) g4
  rw[if_pos (by unfold Region.wanted;rw[q2])]
  have hmono':∀(K K':Value->World->Prop),(∀v w,K v w->K' v w)->bZ P o V w K->bZ P o V w K':=by
   intro K K' hk h;unfold bZ at h|-;split at h
   ·exact hk _ _ h
   ·exact hk _ _ h
   ·exact h.mono fun e w'' ⟨v,he,hv⟩=>⟨v,he,hk _ _ hv⟩
   ·exact h.elim
  have key:∀(U:Nat->Value) (v:Value) (w':World),(∀s,s≠cH l i->U s=V s)->(cH l i≠1000000->U (cH l i)=v)->
    (fact i (if cH l i=1000000 then undef else v) w'/\WR (fF D i) w'/\(w'=w\/Below w.heap.size w w'\/∀j,D j=true->fact j (eT l V j) w->fact j (eT l V j) w'))->G (fF D i) U w':=by
   rintro U v w' hVd hVv ⟨k1,k2,k3⟩;refine⟨?_,?_,?_,k2⟩
   ·intro i' j h1 h2;by_cases e:j=i
    ·simp[fF,e]
    ·by_cases e':i'=i
     ·subst e';simp only[fF,e,if_false];exact hanc j h2
     ·simp only[fF,e',if_false]at h1;simp only[fF,e,if_false];exact g1 _ _ h1 h2
   ·intro i' hi' h1;by_cases e:i'=i
    ·subst e;have:eT l U i'=if cH l i'=1000000 then undef else v:=by
      unfold eT;by_cases h6:cH l i'=1000000
      ·rw[if_pos h6,if_pos h6]
      ·rw[if_neg h6,if_neg h6,hVv h6]
     rw[this];exact k1
    ·simp only[fF,e,if_false]at h1;have:eT l U i'=eT l V i':=by
      unfold eT;by_cases h6:cH l i'=1000000
      ·rw[if_pos h6,if_pos h6]
      ·rw[if_neg h6,if_neg h6,hVd];intro h7;exact h6 (by rw[h7];exact huniq i i' hi hi' e h7)
     rw[this];have h8:=g2 i' hi' h1;rcases k3 with rfl|k3|k3
     ·exact h8
     ·exact hmono _ _ _ _ h8 k3
     ·exact k3 i' h1 h8
   ·intro s hs;have hne:s≠cH l i:=by
     intro h;have:=hs i hi h.symm;simp[fF]at this
    rw[hVd s hne];refine g3 s (fun j hj hjs=> ?_)
    have:=hs j hj hjs;by_cases e:j=i
    ·subst e;exact hD
    ·simpa[fF,e]using this
  refine hmono' _ _ ?_ hrun;intro v w' hk;show G (fF D i) _ w';cases hd:o.dst with
  |none=>
   have e1:=q5 hd;refine key _ v w' ?_ (fun h=>absurd e1 h) hk
   intro s _;rfl
  |some d=>
   have e1:=(q4 d hd).1;refine key _ v w' ?_ ?_ hk
   ·intro s hs;rw[e1]at hs;simp only[];rw[if_neg hs]
   ·intro _;rw[e1];simp
 ·intro D V w ⟨g1,g2,g3,g4⟩ hall;simp only[List.size_toArray]at hall;exact hend D V w hall (fun i hi=>g2 i hi (hall i hi)) g4
end Go.Proofs.YtdaeofhdgabhjaaGreat
namespace Go.Proofs.YtdaeofhdgabhjaaGreat
open Go.RowKit
section
variable {P:Program} {o:Oper} {E:Operand->AV} {σ:Nat->Option Ob} {n:Nat}
def aD5(P:Program)(n:Nat)(t:TypeId)(x y:AV)(K:Res):Prop:=∃(k1 k2:IntKind) (m:Nat) (e:TypeId) (z:List AV) (i:TypeInfo),x= .p (.int k1 m)/\y= .p (.int k2 m)/\dO P t=some e/\P.info? e=some i/\
 vM P e=some z/\vL P e=true/\z≠[]/\m*aZ P e<=1000000/\m*i.bytes<=1000000000/\K (.own (sit n 0) 0 m) [] [(sit n 0,some ⟨e,aZ P e,xE m z⟩)]
theorem Ln{t e:TypeId}{i:TypeInfo}{zv:Value}{m:Nat}{k1 k2:IntKind}(he:dO P t=some e)(hi:P.info? e=some i)(hiz:i.zero=some zv)(hsz:aZ P e=zv.cells.size)(hpos:0<zv.cells.size)(h1:m*aZ P e<=1000000)(h2:m*i.bytes<=1000000000)(w:World):
  (Instr.makeSlice t (.int k1 m) (.int k2 m)).run P w= .ok (.slice (some ⟨w.heap.size,0,none⟩) m m) (w.alloc (.cells (List.replicate m zv.cells.toList).flatten.toArray e)):=by
 have hm:m<=1000000:=by
  have:m<=m*aZ P e:=Nat.le_mul_of_pos_right _ (by omega)
  omega
 have wl:IntKind.i64.wrap (m:Int)=m:=by rw[IntKind.wrap_i64];omega
 have n1:¬(m:Int)<0:=by omega
 have n2:¬(281474976710656<(i.bytes:Int)*m):=by
  have h3:((m*i.bytes:Nat):Int)<=((1000000000:Nat):Int):=Int.ofNat_le.2 h2;rw[Nat.mul_comm,Int.natCast_mul]at h3;omega
 have n4:¬(m:Int)<m:=by omega
 have e3:∀w:World,(sizeOf e).run P w= .ok (aZ P e) w:=fun w=>by simp[sizeOf,typeInfo,hi,aZ]
 have e4:∀w:World,(zeroValue e).run P w= .ok zv w:=fun w=>by simp[zeroValue,typeInfo,hi,hiz]
 have e5:(if m*aZ P e=0 then #[]else(Array.range (m*aZ P e)).map (fun j=>zv.cells[j % zv.cells.size]!))=(List.replicate m zv.cells.toList).flatten.toArray:=by
  split
  ·rename_i h0;have:m=0:=by
    rcases Nat.mul_eq_zero.1 h0 with h|h
    ·exact h
    ·omega
   subst this;rfl
  ·rw[hsz];apply Array.toList_inj.1;rw[Lo zv.cells hpos m]
 rw[<-e5];by_cases h0:m*aZ P e=0
 ·have:m=0:=by
   rcases Nat.mul_eq_zero.1 h0 with h|h
   ·exact h
   ·omega
  subst this;have w0:IntKind.i64.wrap 0=0:=by simpa using wl
  simp[w0,Instr.makeSlice,asInt,asIntOf,run_underlying (hZ he),typeInfo,hi,askRoom,newRow,sizeOf];rw[show Array.map (fun _:Nat=>(default:Value)) (Array.range 0)= #[] by simp]
 ·simp[Instr.makeSlice,asInt,asIntOf,run_underlying (hZ he),typeInfo,hi,wl,n1,n2,n4,askRoom,e3,e4,h0,newRow]
theorem aAY{t:TypeId}{a b:Operand}(ho:o.op= .makeSlice t a b){K:Res}(h:aD5 P n t (E a) (E b) K):∃r R W,bM P o E σ n r R W/\K r R W:=by
 obtain⟨k1,k2,m,e,z,i0,ha,hb,he,hi0,hz,hz1,hne,h1,h2,hK⟩:=h;refine⟨_,_,_,bM.alloc ?_,hK⟩;intro ρ C V w hE;obtain⟨i,zv,hi,hiz,hsz,hone,rfl⟩:=oZ hz hz1;rw[hi0]at hi;cases hi;have hsize:aZ P e=zv.cells.size:=by simp[aZ,hi0,hsz]
 have hpos:0<zv.cells.size:=by
  rcases Nat.eq_zero_or_pos zv.cells.size with h|h
  ·exfalso;apply hne;rw[<-Array.length_toList]at h;rw[List.length_eq_zero_iff.1 h];rfl
  ·exact h
 have hones:lT (List.replicate m zv.cells.toList).flatten:=by
  intro u hu;simp only[List.mem_flatten,List.mem_replicate]at hu;obtain⟨l',⟨_,rfl⟩,hu⟩:=hu;exact hone u hu
 have va:bB V a= .int k1 m:=by
  have:=hE a (by rw[ho];simp[Op.operands])
  rw[ha]at this;unfold aE at this;unfold aU at this;exact this
 have vb:bB V b= .int k2 m:=by
  have:=hE b (by rw[ho];simp[Op.operands])
  rw[hb]at this;unfold aE at this;unfold aU at this;exact this
 have hlen:(List.replicate m zv.cells.toList).flatten.length=m*aZ P e:=by rw[hsize];simp
 have hl2:(xE m (zv.cells.toList.map iU)).length=m*aZ P e:=by rw[rN,List.length_map,Array.length_toList,hsize]
 refine⟨.slice (some ⟨w.heap.size,0,none⟩) m m,(List.replicate m zv.cells.toList).flatten.toArray,m,?_,fun h=>by simp at h;omega,fun _=> ?_,?_,hones,fun ρ' C' h=> ?_⟩
 ·unfold execOp;rw[ho];dsimp only;rw[va,vb];have:=Ln (k1:=k1) (k2:=k2) he hi0 hiz hsize hpos h1 h2 w;simp[this]
 ·refine⟨?_,?_,?_⟩
  ·rw[List.size_toArray,hlen]
  ·rw[List.size_toArray,hlen,hl2];exact Nat.le_refl _
  ·have:m<=m*aZ P e:=Nat.le_mul_of_pos_right _ (by omega)
   unfold maxLen;omega
 ·rw[List.take_of_length_le (by show(List.replicate m zv.cells.toList).flatten.length<=_;rw[hlen,hl2];exact Nat.le_refl _)]
  exact xU _ m
 ·unfold aE;exact⟨_,_,h,.inr ⟨_,0,m,rfl,rfl,Nat.le_refl _,fun _=>rfl,fun _=>⟨rfl,rfl⟩⟩⟩
theorem qC{α:Type}(g0:Nat->Nat)(x:α)(s:Nat):∀l:List Nat,(l.map fun i=>(g0 i,x)).lookup s=if s∈l.map g0 then some x else none
 |[] =>rfl
 |i::l=>by
  rw[List.map_cons,List.lookup_cons,qC g0 x s l,List.map_cons];by_cases h:s=g0 i
  ·rw[beq_iff_eq.2 h,if_pos (show s∈g0 i::l.map g0 by rw[h];exact List.mem_cons_self)]
  ·rw[beq_eq_false_iff_ne.2 h];by_cases h2:s∈l.map g0
   ·rw[if_pos h2,if_pos (show s∈g0 i::l.map g0 from List.mem_cons_of_mem _ h2)]
   ·rw[if_neg h2,if_neg (show¬s∈g0 i::l.map g0 from fun h3=>(List.mem_cons.1 h3).elim h h2)]
theorem bM.fam{r:AV}{ob iob:Ob}{g0:Nat->Nat}{m0:Nat}(hi1:iob.esz≠0)(hi2:iob.cells=[])(hg0:∀i,cls (g0 i)=n)(hg1:∀i,g0 i≠sit n 0)
  (h:∀(ρ:Ren) (C:bI) (V:Nat->Value) (w:World),(∀x∈o.op.operands.toList,aE ρ C (E x) (bB V x))->
  ∃v arr c,(execOp (bB V) o).run P w= .ok (.value v) (w.alloc (.cells arr ob.ty))/\(ob.esz=0->arr.size=ob.cells.length)/\(ob.esz≠0->arr.size=c*ob.esz/\ob.cells.length<=arr.size/\c<=maxLen)/\
   lT arr.toList/\∀(ρ':Ren) (C':bI),ρ' (sit n 0)=some (some w.heap.size,c)->(∀i,i<m0->ρ' (g0 i)=some (none,0))->aP ρ' C' ob.cells (arr.toList.take ob.cells.length)/\aE ρ' C' r v):
  bM P o E σ n r [] ((sit n 0,some ob)::(List.range m0).map fun i=>(g0 i,some iob)):=by
 intro C0 ρ g V w B hs hB _ hn hgn hE;have hcl:∀s,cls s≠n->s≠sit n 0:=fun s h e=>h (by rw[e];exact dM n 0)
 have hcl2:∀s,s∈(List.range m0).map g0->cls s=n:=fun s hs=>by
  obtain⟨i,_,rfl⟩:=List.mem_map.1 hs;exact hg0 i
 have hmem:∀i,i<m0->g0 i∈(List.range m0).map g0:=fun i hi=>List.mem_map_of_mem (List.mem_range.2 hi)
 have hm:cls (sit n 0)=n:=dM n 0;generalize sit n 0=m at*;obtain⟨v,arr,c,hrun,h1,h2,h4,h5⟩:=h ρ _ V w hE;unfold bZ;rw[hrun];dsimp only;have hblk:(w.alloc (.cells arr ob.ty)).heap[w.heap.size]? =some (.cells arr ob.ty (0,0)):=heap_alloc_new w _;generalize hM:(List.range m0).map g0=M at*
 let ρ':Ren:=fun s=>if s=m then some (some w.heap.size,c)else if s∈M then some (none,0)else ρ s
 have hext:∀s q,ρ s=some q->ρ' s=some q:=by
  intro s q hq;show(if s=m then _ else _)=_
  rw[if_neg (fun e=>by rw[e,hn _ hm]at hq;cases hq),if_neg (fun e=>by rw[hn _ (hcl2 s e)]at hq;cases hq)];exact hq
 have hlt:∀s ob b c,g s=some ob->ρ s=some (some b,c)->b<w.heap.size:=by
  intro s ob b c e1 e2;obtain⟨_,arr,e3⟩:=hs.at e1 e2;exact e3.lt
 have hold:∀b,b<w.heap.size->(w.alloc (.cells arr ob.ty)).heap[b]? =w.heap[b]? :=fun b hb=>Below.heap_alloc w _ b hb
 generalize hW:((m,some ob)::(List.range m0).map fun i=>(g0 i,some iob))=W
 have hlk:∀s,W.lookup s=if s=m then some (some ob)else if s∈M then some (some iob)else none:=by
  intro s;rw[<-hW,List.lookup_cons,qC,hM];by_cases e:s=m
  ·rw[beq_iff_eq.2 e,if_pos e]
  ·rw[beq_eq_false_iff_ne.2 e,if_neg e]
 have hup:∀s,s≠m->s∉M->cB g W s=g s:=by
  intro s h1 h2;unfold cB;rw[hlk,if_neg h1,if_neg h2]
 have hmono:∀b o' x,aJ C0 B w ρ g b o' x->aJ C0 B (w.alloc (.cells arr ob.ty)) ρ' (cB g W) b o' x:=by
  intro b o' x ⟨e1,e2,e0⟩;have hb:b<w.heap.size:=World.block_lt_of_cell? w ⟨b,o',none⟩ e1;refine⟨(World.cell?_of_block (hold b hb)).trans e1,?_,e0⟩;intro s c' e3;by_cases e:s=m
  ·simp only[ρ',if_pos e]at e3;cases e3;omega
  ·by_cases e':s∈M
   ·simp only[ρ',if_neg e,if_pos e']at e3;cases e3
   ·simp only[ρ',if_neg e,if_neg e']at e3;rw[hup s e e'];exact e2 s c' e3
 have k5:=fun C'=>h5 ρ' C' (by simp[ρ']) (fun i hi=>by
  show(if g0 i=m then _ else _)=_
  rw[if_neg (hg1 i),if_pos (hmem i hi)])
 refine⟨ρ',fun s hs=> ?_,hmono,?_,(k5 _).2,(Below.refl B w).alloc hB _⟩
 ·show(if s=m then _ else _)=_
  rw[if_neg (hcl s hs),if_neg fun e=>hs (hcl2 s e)]
 refine hs.step ?_ hext hmono ?_ ?_ fun c es clock hc=>hold c (iT hc)
 ·intro s ob' e1 e2;show(if s=m then _ else _)=_
  rw[if_neg (fun e=>by rw[e,hgn _ hm]at e2;cases e2),if_neg (fun e=>by rw[hgn _ (hcl2 s e)]at e2;cases e2)]
 ·intro s ob' b c' _ e2 e3;exact hold b (hlt s ob' b c' e2 e3)
 ·intro s ob' e;rw[hlk]at e;by_cases e1:s=m
  ·rw[if_pos e1]at e;subst e1;have e2:ob'=ob:=by cases e;rfl
   subst e2;refine⟨some w.heap.size,c,by simp[ρ'],.inr ⟨w.heap.size,arr,rfl,hB,⟨hblk,h1,h2,?_⟩,?_⟩⟩
   ·intro i x hi;obtain⟨u,g1,g2⟩:=(k5 _).1.get _ _ i x hi;rw[List.getElem?_take]at g1;split at g1
    ·exact⟨u,by simpa using g1,h4 u (List.mem_of_getElem? g1),g2⟩
    ·cases g1
   ·intro s' o' c' hne e3 e4;by_cases e':s'∈M
    ·simp only[ρ',if_neg hne,if_pos e']at e4;cases e4
    ·rw[hup s' hne e']at e3;simp only[ρ',if_neg hne,if_neg e']at e4;have:=hlt s' o' _ c' e3 e4;omega
  ·rw[if_neg e1]at e;by_cases e':s∈M
   ·rw[if_pos e']at e;cases e;exact⟨none,0,by simp only[ρ',if_neg e1,if_pos e'],.inl ⟨rfl,hi1,hi2,rfl⟩⟩
   ·rw[if_neg e']at e;cases e
def Zx(P:Program)(n:Nat)(t:TypeId)(x y:AV)(K:Res):Prop:=∃(g0:Nat->Nat) (ity:TypeId) (wd:Nat) (k1 k2:IntKind) (m:Nat) (e:TypeId) (i:TypeInfo),x= .p (.int k1 m)/\y= .p (.int k2 m)/\dO P t=some e/\P.info? e=some i/\
 vM P e=some [.nil]/\vL P e=true/\wd≠0/\(∀i,cls (g0 i)=n)/\(∀i,g0 i≠sit n 0)/\m<=1000000/\m*i.bytes<=1000000000/\
 K (.own (sit n 0) 0 m) [] ((sit n 0,some ⟨e,1,(List.range m).map fun j=> .own (g0 j) 0 0⟩)::(List.range m).map fun j=>(g0 j,some ⟨ity,wd,[]⟩))
theorem zN{α:Type}(v:α):∀m,(List.replicate m [v]).flatten=List.replicate m v
 |0=>rfl
 |m+1=>by rw[List.replicate_succ,List.flatten_cons,zN v m];rfl
theorem Wg{t:TypeId}{a b:Operand}(ho:o.op= .makeSlice t a b){K:Res}(h:Zx P n t (E a) (E b) K):∃r R W,bM P o E σ n r R W/\K r R W:=by
 obtain⟨g0,ity,wd,k1,k2,m,e,i0,ha,hb,he,hi0,hz,hz1,hwd,hg0,hg1,h1,h2,hK⟩:=h;refine⟨_,_,_,bM.fam (iob:=⟨ity,wd,[]⟩) hwd rfl hg0 hg1 ?_,hK⟩;intro ρ C V w hE;obtain⟨i,zv,hi,hiz,hsz,hone,hzv⟩:=oZ hz hz1;rw[hi0]at hi;cases hi;have hnil:zv.cells.toList=[.slice none 0 0] :=by
  have h3:aP ρ C (zv.cells.toList.map iU) zv.cells.toList:=jJ _;rw[show zv.cells.toList.map iU=[.nil]from hzv.symm]at h3
  unfold aP at h3;obtain⟨v,r,h4,h5,h6⟩:=h3;unfold aP at h6;unfold aE at h5;rw[h4,h5,h6]
 have hsize:aZ P e=zv.cells.size:=by simp[aZ,hi0,hsz]
 have hs1:zv.cells.size=1:=by rw[<-Array.length_toList,hnil];rfl
 have va:bB V a= .int k1 m:=by
  have:=hE a (by rw[ho];simp[Op.operands])
  rw[ha]at this;unfold aE at this;unfold aU at this;exact this
 have vb:bB V b= .int k2 m:=by
  have:=hE b (by rw[ho];simp[Op.operands])
  rw[hb]at this;unfold aE at this;unfold aU at this;exact this
 have hlist:(List.replicate m zv.cells.toList).flatten=List.replicate m (.slice none 0 0):=by rw[hnil,zN]
 refine⟨.slice (some ⟨w.heap.size,0,none⟩) m m,(List.replicate m zv.cells.toList).flatten.toArray,m,?_,(fun h=>absurd h Nat.one_ne_zero),fun _=> ?_,?_,fun ρ' C' h h'=>⟨?_,?_⟩⟩
 ·unfold execOp;rw[ho];dsimp only;rw[va,vb];have:=Ln (k1:=k1) (k2:=k2) he hi0 hiz hsize (by omega) (by rw[hsize,hs1];omega) h2 w
  simp[this]
 ·rw[hlist];refine⟨by simp,by simp,?_⟩
  unfold maxLen;omega
 ·intro u hu;simp only[List.mem_flatten,List.mem_replicate]at hu;obtain⟨l',⟨_,rfl⟩,hu⟩:=hu;exact hone u hu
 ·rw[hlist];rw[List.take_of_length_le (by simp)]
  refine aP.of _ _ (by simp) fun j x hj=> ?_
  rw[List.getElem?_map]at hj;by_cases hjm:j<m
  ·rw[List.getElem?_range hjm]at hj;cases hj;refine⟨.slice none 0 0,by simp[hjm],?_⟩
   unfold aE;exact⟨none,0,h' j hjm,.inl ⟨rfl,rfl,rfl,rfl⟩⟩
  ·rw[List.getElem?_eq_none (by simp;omega)]at hj;cases hj
 ·unfold aE;exact⟨_,_,h,.inr ⟨_,0,m,rfl,rfl,Nat.le_refl _,fun _=>rfl,fun _=>⟨rfl,rfl⟩⟩⟩
end
end Go.Proofs.YtdaeofhdgabhjaaGreat
namespace Go.Proofs.YtdaeofhdgabhjaaGreat
open Go.RowKit
abbrev Sto:=Nat->Option Ob
def AOp(P:Program)(n:Nat)(o:Oper)(E:Operand->AV)(σ:Nat->Option Ob)(K:Res):Prop:=match o.op with
 | .move x=>K (E x) [] []
 | .assign x=>K (E x) [] []\/(E x= .nil/\K (.p (.sl 0 [])) [] [])
 | .pick c a b=>Fa (E c) (E a) (E b) fun r=>K r [] []
 | .alloc t=>aAk P n t K
 | .box t x=>aII n t (E x) K
 | .build t parts=>aAd P t (parts.toList.map fun q=>(q.1,E q.2)) fun r=>K r [] []
 | .buildSlice t len parts=>Um P n t len (parts.toList.map fun q=>(q.1,E q.2)) K
 | .load t x=>(match E x with
   | .p (.pro cs off)=>Yv P t cs off fun r=>K (.p r) [] []
   | .ptr s off=>∃ob,σ s=some ob/\yV P t ob.cells off fun r=>K r [s] []
   |_=>False)
 | .store t a x=>xG P t σ (E a) (E x) K
 | .nilCheck x=>aBG (E x)=true/\K (E x) [] []
 | .binOp op t x y _=>Uv P op t (E x) (E y) fun r=>K r [] []
 | .unOp op _ x=>unA op (E x) fun r=>K r [] []
 | .convert s d x=>So P s d (E x) fun r=>K r [] []
 | .makeFunc f first caps=>K (.fn f (first.toList.map E) (caps.toList.map E)) [] []
 | .slice t x lo hi none=>xH P t (E x) (loA E lo 0) (loA E hi (Ht (E x))) fun r=>K r [] []
 | .fieldAddr t x f=>Pp P t f (E x) fun r=>K r [] []
 | .field t x f=>Pn P t f (E x) fun r=>K r [] []
 | .indexAddr t x i=>Hx P t (E x) (E i) fun r=>K r [] []
 | .extract x i=>Ku (E x) i fun r=>K r [] []
 | .call {callee:= .value f,args, .. }=>Sr P σ (E f) (args.toList.map E) K\/Sq P n (E f) (args.toList.map E) K
 | .call {callee:= .builtin .len,args:=⟨[x]⟩,argTypes:=⟨[t]⟩}=>aBI P t (E x) fun r=>K r [] []
 | .call {callee:= .builtin .append,args:=⟨[x,y]⟩,argTypes:=⟨[t,t']⟩}=>(dO P t').isSome=true/\Xx P n t σ (E x) (E y) K
 | .call {callee:= .builtin .min,args:=⟨[x,y]⟩, .. }=>mmA min (E x) (E y) fun r=>K r [] []
 | .call {callee:= .builtin .max,args:=⟨[x,y]⟩, .. }=>mmA max (E x) (E y) fun r=>K r [] []
 | .makeSlice t a b=>aD5 P n t (E a) (E b) K\/Zx P n t (E a) (E b) K
 |_=>False
theorem Xp{P:Program}{n:Nat}{o:Oper}{E:Operand->AV}{σ:Nat->Option Ob}{K:Res}(h:AOp P n o E σ K):∃r R W,bM P o E σ n r R W/\K r R W:=by
 have lift:∀{K':AV->Prop} {R:List Nat},(∃r,bM P o E σ n r R []/\K' r)->(∀r,K' r->K r R [])->∃r R W,bM P o E σ n r R W/\K r R W:=fun⟨r,h1,h2⟩ h3=>⟨r,_,[],h1,h3 r h2⟩
 unfold AOp at h;split at h
 ·rename_i x ho;exact⟨_,_,_,Ly (.inl ho),h⟩
 ·rename_i x ho;exact Or.elim h (fun h=>⟨_,_,_,Ly (.inr ho),h⟩) (fun h=>⟨_,_,_,Ww (.inr ho) h.1,h.2⟩)
 ·rename_i ho;exact lift (aAP ho h) fun _ h=>h
 ·rename_i ho;exact Xq ho h
 ·rename_i ho;exact aCJ ho h
 ·rename_i ho;exact lift (Xl ho h) fun _ h=>h
 ·rename_i ho;exact Rw ho h
 ·rename_i ho;split at h
  ·rename_i e;obtain⟨r,h1,h2⟩:=Wh (o:=o) (σ:=σ) (n:=n) ho e h;exact⟨_,_,_,h1,h2⟩
  ·rename_i e;obtain⟨ob,h1,h2⟩:=h;obtain⟨r,h3,h4⟩:=Wi (o:=o) (n:=n) ho e h1 h2;exact⟨_,_,_,h3,h4⟩
  ·exact h.elim
 ·rename_i ho;exact Vc ho h
 ·rename_i ho;exact⟨_,_,_,aCh ho h.1,h.2⟩
 ·rename_i ho;exact lift (aCK ho h) fun _ h=>h
 ·rename_i ho;exact lift (aEZ ho h) fun _ h=>h
 ·rename_i ho;exact lift (aBm ho h) fun _ h=>h
 ·rename_i ho;exact⟨_,_,_,aAX ho,h⟩
 ·rename_i ho;exact lift (Vh ho h) fun _ h=>h
 ·rename_i ho;exact lift (Wv ho h) fun _ h=>h
 ·rename_i ho;exact lift (Wu ho h) fun _ h=>h
 ·rename_i ho;exact lift (Wp ho h) fun _ h=>h
 ·rename_i ho;exact lift (aBd ho h) fun _ h=>h
 ·rename_i ho;exact Or.elim h (aBp ho rfl) (Xi ho rfl)
 ·rename_i ho;exact lift (aCo ho h) fun _ h=>h
 ·rename_i ho;exact aCM h.1 ho h.2
 ·rename_i ho;exact lift (aCj ho h) fun _ h=>h
 ·rename_i ho;exact lift (aCm ho h) fun _ h=>h
 ·rename_i ho;exact Or.elim h (aAY ho) (Wg ho)
 ·exact h.elim
structure St(C0:bI)(B:Nat)(wI:World)(F:List AV)(σ:Nat->Option Ob)(N:Nat)(a:Act)(w:World):Prop where
 ex:∃ρ:Ren,StR C0 ρ σ w B/\(∀s,N<=cls s->ρ s=none)/\∀t,aE ρ (aJ C0 B w ρ σ) (F.getD t .any) (a.tmps.getD t Go.undef)
 le:B<=w.heap.size
 defers:a.defers=[]
 size:a.tmps.size=F.length
 below:Below B wI w
theorem aAc(ops:List Oper)(j:Nat):((ops.map (·.dst))[j]?).join=(ops[j]?).bind (·.dst):=by
 rw[List.getElem?_map];cases ops[j]? <;>rfl
def gdA(ds:List (Option Nat))(F:List AV)(j:Nat):Option (Option Bool):=match(ds[j]?).join with
 |some d=>(match F.getD d .any with| .p (.bool b)=>some (some b)| .undef=>some none|_=>none)
 |none=>none
def hU(F:List AV)(d:Option Nat)(r:AV):List AV:=match d with|some d=>F.set d r|none=>F
abbrev pI:=List (List Nat×List Nat)
def inC(R Rc:List Nat):Prop:=∀s∈R,cls s∈Rc
def iD(P:Program)(N:Nat)(ds:List (Option Nat)):List Oper->Nat->List AV->Sto->pI->(List AV->Sto->pI->Prop)->Prop
 |[],_,F,L,log,K=>K F L log
 |o::rest,i,F,L,log,K=>match o.guard with
  |none=>∃r R W Rc Wc,bM P o (kF F) L (N+i) r R W/\inC R Rc/\inC (W.map (·.1)) Wc/\iD P N ds rest (i+1) (hU F o.dst r) (cB L W) (log++[(Rc,Wc)]) K
  |some (j,want)=>(match gdA ds F j with
   |some (some b)=>if b=want then∃r R W Rc Wc,bM P o (kF F) L (N+i) r R W/\inC R Rc/\inC (W.map (·.1)) Wc/\iD P N ds rest (i+1) (hU F o.dst r) (cB L W) (log++[(Rc,Wc)]) K
    else iD P N ds rest (i+1) (hU F o.dst .undef) L (log++[([],[])]) K
   |some none=>iD P N ds rest (i+1) (hU F o.dst .undef) L (log++[([],[])]) K
   |none=>False)
structure Tr where
 r:AV
 R:List Nat
 W:List (Nat×Option Ob)
 Rc:List Nat
 Wc:List Nat
instance:Inhabited Tr:=⟨⟨.any,[],[],[],[]⟩⟩
def nI(ops:List Oper)(tr:Nat->Tr)(F0:List AV):Nat->List AV
 |0=>F0
 |k+1=>hU (nI ops tr F0 k) ((ops[k]?).bind (·.dst)) (tr k).r
def sgD(tr:Nat->Tr)(σ0:Nat->Option Ob)(D:Nat->Bool):Nat->Nat->Option Ob
 |0=>σ0
 |k+1=>if D k=true then cB (sgD tr σ0 D k) (tr k).W else sgD tr σ0 D k
def pP(tr:Nat->Tr)(n:Nat):pI:=(List.range n).map fun k=>((tr k).Rc,(tr k).Wc)
def pQ(P:Program)(N:Nat)(ops:List Oper)(F0:List AV)(σ0:Nat->Option Ob)(tr:Nat->Tr)(k:Nat):Prop:=
 ∀o,ops[k]? =some o->(((o.guard=none\/∃j b,o.guard=some (j,b)/\gdA (ops.map (·.dst)) (nI ops tr F0 k) j=some (some b))/\
   bM P o (kF (nI ops tr F0 k)) (sgD tr σ0 (fun _=>true) k) (N+k) (tr k).r (tr k).R (tr k).W/\inC (tr k).R (tr k).Rc/\inC ((tr k).W.map (·.1)) (tr k).Wc)\/
  (∃j want q,o.guard=some (j,want)/\gdA (ops.map (·.dst)) (nI ops tr F0 k) j=some q/\q≠some want/\tr k=⟨.undef,[],[],[],[]⟩))
theorem nD(ops:List Oper)(F0:List AV){tr tr':Nat->Tr}:∀k,(∀j,j<k->tr j=tr' j)->nI ops tr F0 k=nI ops tr' F0 k
 |0,_=>rfl
 |k+1,h=>by simp only[nI];rw[nD ops F0 k (fun j hj=>h j (by omega)),h k (by omega)]
theorem mL(σ0:Nat->Option Ob){tr tr':Nat->Tr}{D D':Nat->Bool}:∀k,(∀j,j<k->tr j=tr' j)->(∀j,j<k->D j=D' j)->sgD tr σ0 D k=sgD tr' σ0 D' k
 |0,_,_=>rfl
 |k+1,h,h2=>by simp only[sgD];rw[mL σ0 k (fun j hj=>h j (by omega)) (fun j hj=>h2 j (by omega)),h k (by omega),h2 k (by omega)]
theorem Kg{P:Program}{N:Nat}{ops:List Oper}{F0:List AV}{σ0:Nat->Option Ob}{tr tr':Nat->Tr}{k:Nat}(h:∀j,j<=k->tr j=tr' j)(hg:pQ P N ops F0 σ0 tr k):pQ P N ops F0 σ0 tr' k:=by
 unfold pQ at*;rw[nD ops F0 k (fun j hj=>(h j (by omega)).symm),mL (D':=fun _=>true) σ0 k (fun j hj=>(h j (by omega)).symm) (fun _ _=>rfl),<-h k (Nat.le_refl _)]
 exact hg
def qU(tr:Nat->Tr)(i:Nat)(x:Tr):Nat->Tr:=fun k=>if k=i then x else tr k
theorem Kz{tr:Nat->Tr}{i:Nat}{x:Tr}{k:Nat}(h:k<i):tr k=qU tr i x k:=by unfold qU;rw[if_neg (by omega)]
theorem Dp{P:Program}{N:Nat}{ops:List Oper}{F0:List AV}{L0:Sto}{K:List AV->Sto->pI->Prop}:
  ∀(rest:List Oper) (i:Nat) (F:List AV) (L:Sto) (log:pI) (tr:Nat->Tr),i<=ops.length->ops.drop i=rest->F=nI ops tr F0 i->L=sgD tr L0 (fun _=>true) i->log=pP tr i->
   (∀k,k<i->pQ P N ops F0 L0 tr k)->iD P N (ops.map (·.dst)) rest i F L log K->
   ∃(tr':Nat->Tr) (L':Sto),(∀k,k<ops.length->pQ P N ops F0 L0 tr' k)/\L'=sgD tr' L0 (fun _=>true) ops.length/\K (nI ops tr' F0 ops.length) L' (pP tr' ops.length)
 |[],i,F,L,log,tr,hil,hd,hF,hL,hlog,hg,h=>by
  have hi:i=ops.length:=by
   have:=congrArg List.length hd;simp at this;omega
  subst hi;refine⟨tr,L,hg,hL,?_⟩;unfold iD at h;rw[<-hF,<-hlog];exact h
 |o::rest,i,F,L,log,tr,hil,hd,hF,hL,hlog,hg,h=>by
  have hlt:i<ops.length:=by
   have:=congrArg List.length hd;simp at this;omega
  have ho:ops[i]? =some o:=by
   have:=congrArg (fun l=>l[0]?) hd
   simpa using this
  have hd':ops.drop (i+1)=rest:=by
   have:=congrArg List.tail hd;simpa using this
  have step:∀(x:Tr),pQ P N ops F0 L0 (qU tr i x) i->iD P N (ops.map (·.dst)) rest (i+1) (hU F o.dst x.r) (cB L x.W) (log++[(x.Rc,x.Wc)]) K->
    ∃(tr':Nat->Tr) (L':Sto),(∀k,k<ops.length->pQ P N ops F0 L0 tr' k)/\L'=sgD tr' L0 (fun _=>true) ops.length/\K (nI ops tr' F0 ops.length) L' (pP tr' ops.length):=by
   intro x hgx hx;have hc:∀j,j<i->tr j=qU tr i x j:=fun j hj=>Kz hj
   have hxi:qU tr i x i=x:=by unfold qU;rw[if_pos rfl]
   refine Dp rest (i+1) _ _ _ (qU tr i x) hlt hd' ?_ ?_ ?_ ?_ hx
   ·simp only[nI,ho,Option.bind_some,hxi];rw[hF,nD ops F0 i hc]
   ·simp only[sgD,if_true,hxi];rw[hL,mL (D':=fun _=>true) L0 i hc (fun _ _=>rfl)]
   ·unfold pP at hlog|-;rw[List.range_succ,List.map_append,List.map_singleton,hxi,hlog]
    congr 1
    apply List.map_congr_left;intro k hk;rw[hc k (List.mem_range.1 hk)]
   ·intro k hk;by_cases e:k=i
    ·subst e;exact hgx
    ·exact Kg (fun j hj=>hc j (by omega)) (hg k (by omega))
  have hc:∀x:Tr,∀j,j<i->qU tr i x j=tr j:=fun x j hj=>(Kz hj).symm
  have hxi:∀x:Tr,qU tr i x i=x:=fun x=>by unfold qU;rw[if_pos rfl]
  have mkG:∀x:Tr,(o.guard=none\/∃j b,o.guard=some (j,b)/\gdA (ops.map (·.dst)) F j=some (some b))->bM P o (kF F) L (N+i) x.r x.R x.W->inC x.R x.Rc->inC (x.W.map (·.1)) x.Wc->pQ P N ops F0 L0 (qU tr i x) i:=by
   intro x h1 h2 h3 h4 o' ho';rw[ho]at ho';cases ho';rw[nD ops F0 i (hc x),mL (D':=fun _=>true) L0 i (hc x) (fun _ _=>rfl),<-hF,<-hL,hxi]
   exact .inl ⟨h1,h2,h3,h4⟩
  unfold iD at h;split at h
  ·rename_i hgd;obtain⟨r,R,W,Rc,Wc,h1,i1,i2,h2⟩:=h;exact step ⟨r,R,W,Rc,Wc⟩ (mkG _ (.inl hgd) h1 i1 i2) h2
  ·rename_i j want hgd;have skip:∀q,gdA (ops.map (·.dst)) F j=some q->q≠some want->iD P N (ops.map (·.dst)) rest (i+1) (hU F o.dst .undef) L (log++[([],[])]) K->
     ∃(tr':Nat->Tr) (L':Sto),(∀k,k<ops.length->pQ P N ops F0 L0 tr' k)/\L'=sgD tr' L0 (fun _=>true) ops.length/\K (nI ops tr' F0 ops.length) L' (pP tr' ops.length):=by
    intro q hq hne hx;refine step ⟨.undef,[],[],[],[]⟩ ?_ hx;intro o' ho';rw[ho]at ho';cases ho';rw[nD ops F0 i (hc _),<-hF,hxi];exact .inr ⟨j,want,q,hgd,hq,hne,rfl⟩
   split at h
   ·rename_i b hb;split at h
    ·rename_i e;subst e;obtain⟨r,R,W,Rc,Wc,h1,i1,i2,h2⟩:=h;exact step ⟨r,R,W,Rc,Wc⟩ (mkG _ (.inr ⟨j,b,hgd,hb⟩) h1 i1 i2) h2
    ·rename_i e;exact skip _ hb (fun h=>e (by cases h;rfl)) h
   ·rename_i hb;exact skip _ hb (by simp) h
   ·exact h.elim
def Pu(ops:List Oper):List (List Nat):=
 ops.foldl (fun acc o=>acc++[(o.after.toList.filter (Region.binds .any)).foldl (fun s e=>s++(e.on::acc.getD e.on []).filter fun x=> !s.contains x) []]) []
def Oy(o:Oper):List Nat:=o.op.operands.toList.filterMap fun x=>match x with| .tmp t=>some t|_=>none
def okE(l:List Oper)(anc:List (List Nat)):Bool:=
 (List.range l.length).all fun i=>
  (((l[i]?).map fun o=>(o.after.toList.all fun e=> !Region.binds .any e||(decide (e.on<i)&&(eA anc i).contains e.on))&&o.dst !=some 1000000).getD false)&&
  ((eA anc i).all fun j=>decide (j<i)&&(((l[i]?).map fun o=>o.after.toList.any fun e=>Region.binds .any e&&(e.on==j||(eA anc e.on).contains j)).getD false))&&
  ((List.range l.length).all fun j=>j==i||cH l j !=cH l i||cH l i==1000000)
def Sl(ops:List Oper)(anc:List (List Nat)):Bool:=
 okE ops anc&&
 ((List.range ops.length).all fun i=>((ops[i]?).map fun o=>
   ((Oy o).all fun t=>(List.range ops.length).all fun j=>j==i||cH ops j !=t||(eA anc i).contains j||(eA anc j).contains i)&&
   (match o.guard with|none=>true|some (j,_)=>(eA anc i).contains j&&((ops[j]?).bind (·.dst)).isSome)).getD false)
def Sp(a b:List Nat×List Nat):Bool:=a.2.any (fun s=>b.1.contains s||b.2.contains s)||a.1.any (fun s=>b.2.contains s)
def Be(anc:List (List Nat))(log:pI):Bool:=(List.range log.length).all fun i=>(List.range i).all fun j=> !Sp (log.getD i ([],[])) (log.getD j ([],[]))||(eA anc i).contains j
theorem We{ops:List Oper}{anc:List (List Nat)}(h:okE ops anc=true):
  (∀(i:Nat) o,ops[i]? =some o->(∀e∈o.after.toList,Region.binds .any e=true->e.on<i/\(eA anc i).contains e.on=true)/\
    (∀j,(eA anc i).contains j=true->j<i/\∃e∈o.after.toList,Region.binds .any e=true/\(e.on=j\/(eA anc e.on).contains j=true))/\(∀d,o.dst=some d->cH ops i=d/\d≠1000000)/\(o.dst=none->cH ops i=1000000))/\
  ∀i j,i<ops.length->j<ops.length->j≠i->cH ops j=cH ops i->cH ops i=1000000:=by
 unfold okE at h;rw[List.all_eq_true]at h;have hget:∀(i:Nat) o,ops[i]? =some o->i<ops.length:=fun i o h=>(List.getElem?_eq_some_iff.1 h).1
 refine⟨?_,?_⟩
 ·intro i o ho;have h1:=h i (List.mem_range.2 (hget i o ho));simp only[Bool.and_eq_true]at h1;obtain⟨⟨h2,h3⟩,_⟩:=h1;rw[ho]at h2;simp only[Option.map_some,Option.getD_some,Bool.and_eq_true,bne_iff_ne,ne_eq]at h2;refine⟨?_,?_,?_,?_⟩
  ·intro e he hb;have:=List.all_eq_true.1 h2.1 e he;rw[hb]at this;simpa using this
  ·intro j hj;rw[List.all_eq_true]at h3;have:=h3 j (by simpa using hj)
   simp only[Bool.and_eq_true,decide_eq_true_eq]at this;obtain⟨h4,h5⟩:=this;refine⟨h4,?_⟩;rw[ho]at h5;simp only[Option.map_some,Option.getD_some,List.any_eq_true,Bool.and_eq_true,Bool.or_eq_true,beq_iff_eq]at h5;exact h5
  ·intro d hd;refine⟨by unfold cH;rw[ho];simp[hd],?_⟩
   rintro rfl;exact h2.2 hd
  ·intro hd;unfold cH;rw[ho];simp[hd]
 ·intro i j hi hj hne he;have h1:=h i (List.mem_range.2 hi);simp only[Bool.and_eq_true]at h1;obtain⟨_,h3⟩:=h1;rw[List.all_eq_true]at h3;have:=h3 j (List.mem_range.2 hj);simp only[Bool.or_eq_true,beq_iff_eq,bne_iff_ne,ne_eq]at this;rcases this with(h|h)|h
  ·exact absurd h hne
  ·exact absurd he h
  ·exact h
theorem aE8{tr:Nat->Tr}{σ0:Nat->Option Ob}{D:Nat->Bool}{s i n:Nat}(hin:i<=n)
  (hlo:∀k,k<i->(tr k).W.lookup s≠none->D k=true) (hhi:∀k,i<=k->k<n->(tr k).W.lookup s≠none->D k=false):
  sgD tr σ0 D n s=sgD tr σ0 (fun _=>true) i s:=by
 have h1:∀m,m<=i->sgD tr σ0 D m s=sgD tr σ0 (fun _=>true) m s:=by
  intro m;induction m with
  |zero=>intro _;rfl
  |succ m ih=>
   intro hm;simp only[sgD,if_true];cases hD:D m with
   |true=>rw[if_pos rfl];unfold cB;rw[ih (by omega)]
   |false=>
    rw[if_neg (by simp)]
    have:(tr m).W.lookup s=none:=by
     cases hl:(tr m).W.lookup s with
     |none=>rfl
     |some x=>have:=hlo m (by omega) (by rw[hl];simp);rw[hD]at this;cases this
    unfold cB;rw[this];exact ih (by omega)
 have h2:∀m,i<=m->m<=n->sgD tr σ0 D m s=sgD tr σ0 D i s:=by
  intro m;induction m with
  |zero=>intro h _;rw[show i=0 by omega]
  |succ m ih=>
   intro hi hm;by_cases e:i=m+1
   ·rw[e]
   ·simp only[sgD];cases hD:D m with
    |false=>rw[if_neg (by simp)];exact ih (by omega) (by omega)
    |true=>
     rw[if_pos rfl];have:(tr m).W.lookup s=none:=by
      cases hl:(tr m).W.lookup s with
      |none=>rfl
      |some x=>have:=hhi m (by omega) (by omega) (by rw[hl];simp);rw[hD]at this;cases this
     unfold cB;rw[this];exact ih (by omega) (by omega)
 rw[h2 n hin (Nat.le_refl _),h1 i (Nat.le_refl _)]
theorem Dc{W:List (Nat×Option Ob)}{s:Nat}(h:W.lookup s≠none):s∈W.map (·.1):=by
 induction W with
 |nil=>simp at h
 |cons q W ih=>
  obtain⟨k,x⟩:=q;by_cases e:s=k
  ·subst e;simp
  ·simp only[List.lookup,beq_eq_false_iff_ne.2 e]at h;exact List.mem_cons_of_mem _ (ih h)
theorem Ig{g:Nat->Option Ob}{W:List (Nat×Option Ob)}{s:Nat}(h:W.lookup s=none):cB g W s=g s:=by unfold cB;rw[h]
theorem rO(F:List AV)(d:Option Nat)(r:AV):(hU F d r).length=F.length:=by cases d<;>simp[hU]
theorem lJ(ops:List Oper)(tr:Nat->Tr)(F0:List AV):∀k,(nI ops tr F0 k).length=F0.length
 |0=>rfl
 |k+1=>by simp only[nI];rw[rO,lJ ops tr F0 k]
theorem qD{ops:List Oper}{tr:Nat->Tr}{F0:List AV}{t j:Nat}(hj:(ops[j]?).bind (·.dst)=some t)(ht:t<F0.length)(hu:∀k,k≠j->(ops[k]?).bind (·.dst)≠some t):∀m,j<m->(nI ops tr F0 m).getD t .any=(tr j).r
 |0,h=>by omega
 |m+1,h=>by
  simp only[nI];by_cases e:m=j
  ·subst e;rw[hj];have:=lJ ops tr F0 m;simp[hU,List.getD_eq_getElem?_getD,this,ht]
  ·have ih:=qD (tr:=tr) hj ht hu m (by omega)
   cases hd:(ops[m]?).bind (·.dst)with
   |none=>simpa[hU]using ih
   |some d=>
    have:d≠t:=fun e2=>hu m e (by rw[hd,e2])
    simp only[hU,List.getD_eq_getElem?_getD,List.getElem?_set_ne this]at ih|-;exact ih
theorem nH{ops:List Oper}{tr:Nat->Tr}{F0:List AV}{t:Nat}:∀m,(∀k,k<m->(ops[k]?).bind (·.dst)≠some t)->(nI ops tr F0 m).getD t .any=F0.getD t .any
 |0,_=>rfl
 |m+1,h=>by
  simp only[nI];have ih:=nH (tr:=tr) (F0:=F0) m fun k hk=>h k (by omega)
  cases hd:(ops[m]?).bind (·.dst)with
  |none=>simpa[hU]using ih
  |some d=>
   have:d≠t:=fun e2=>h m (by omega) (by rw[hd,e2])
   simp only[hU,List.getD_eq_getElem?_getD,List.getElem?_set_ne this]at ih|-;exact ih
theorem tM{ρ:Ren}{C:bI}{F:List AV}{V:Nat->Value}{x:Operand}(h:∀t,x= .tmp t->aE ρ C (F.getD t .any) (V t)):aE ρ C (kF F x) (bB V x):=by
 cases x with
 |tmp t=>exact h t rfl
 |const v=>exact Nq v
 |global g=>unfold kF aE;trivial
 |func f=>
  unfold kF aE aU;exact⟨[],[],rfl,by unfold bO;rfl,by unfold bO;rfl⟩
theorem pV{P:Program}{o:Oper}{V:Nat->Value}{w:World}{K K':Value->World->Prop}(h:bZ P o V w K)(hk:∀v w,K v w->K' v w):bZ P o V w K':=by
 unfold bZ at h|-;split at h
 ·exact hk _ _ h
 ·exact hk _ _ h
 ·exact h.mono fun e w'' ⟨v,he,hv⟩=>⟨v,he,hk _ _ hv⟩
 ·exact h.elim
theorem Qa{o:Oper}{t:Nat}(h: .tmp t∈o.op.operands.toList):t∈Oy o:=List.mem_filterMap.2 ⟨.tmp t,h,rfl⟩
theorem StR.drew{C0:bI}{ρ:Ren}{g:Nat->Option Ob}{w:World}{B:Nat}(h:StR C0 ρ g w B):StR C0 ρ g w.drew B:=by
 refine⟨fun s o hg=> ?_,h.inj,h.mpi⟩
 obtain⟨q,c,h1,h2|⟨b,arr,h2,h3,h4⟩⟩:=h.ob s o hg
 ·exact⟨q,c,h1,.inl h2⟩
 ·exact⟨q,c,h1,.inr ⟨b,arr,h2,h3,⟨h4.blk,h4.box,h4.row,h4.cells⟩⟩⟩
theorem Jt{P:Program}{id N:Nat}{ops:List Oper}{Q:Exit->Act->World->Prop}{a0:Act}{w0:World}{C0:bI}{B:Nat}{wI:World}{F0:List AV}{L0:Sto}{K:List AV->Sto->Prop}
  (hm:P.follows .mixedOrders=true) (anc:List (List Nat)) (hok:Sl ops anc=true) (hds:((List.range ops.length).all fun i=>match(ops[i]?).bind (·.dst)with|some d=>decide (d<F0.length)|none=>true)=true)
  (hS:St C0 B wI F0 L0 N a0 w0) (h:iD P N (ops.map (·.dst)) ops 0 F0 L0 [] fun F L log=>Be anc log=true/\K F L)
  (hK:∀F L a w,K F L->F.length=F0.length->St C0 B wI F L (N+ops.length) a w->Q .normal a w):(Code.region id ops.toArray true).wp P Q a0 w0:=by
 obtain⟨tr,L',hgood,hL',hfeet,hKK⟩:=Dp ops 0 F0 L0 [] default (Nat.zero_le _) rfl rfl rfl rfl (fun k hk=>by omega) h
 unfold Sl at hok;rw[Bool.and_eq_true,List.all_eq_true]at hok;obtain⟨hokE,hokT⟩:=hok;obtain⟨hop,huq⟩:=We hokE;obtain⟨⟨ρ0,hs0,hn0,hf0⟩,hle0,hdf0,hsz0,hbl0⟩:=hS;have hget:∀(i:Nat) o,ops[i]? =some o->i<ops.length:=fun i o h=>(List.getElem?_eq_some_iff.1 h).1
 have hat:∀(i:Nat),i<ops.length->∃o,ops[i]? =some o:=fun i hi=>⟨_,List.getElem?_eq_getElem hi⟩
 have hdst:∀(j t:Nat),(ops[j]?).bind (·.dst)=some t->cH ops j=t/\t≠1000000/\j<ops.length/\t<F0.length:=by
  intro j t hj;obtain⟨o,ho,hd⟩:=Option.bind_eq_some_iff.1 hj;have:=(hop j o ho).2.2.1 t hd;refine⟨this.1,this.2,hget j o ho,?_⟩;rw[List.all_eq_true]at hds;have h2:=hds j (List.mem_range.2 (hget j o ho));rw[hj]at h2;simpa using h2
 have huniq:∀(j t:Nat),(ops[j]?).bind (·.dst)=some t->∀(k:Nat),k≠j->(ops[k]?).bind (·.dst)≠some t:=by
  intro j t hj k hk e;obtain⟨h1,h2,h3,_⟩:=hdst j t hj;obtain⟨h4,_,h5,_⟩:=hdst k t e;exact h2 (h1▸huq j k h3 h5 hk (h4.trans h1.symm))
 have hclash:∀i k,i<ops.length->k<ops.length->k≠i->∀s,s∈(tr i).R\/s∈(tr i).W.map (·.1)->(tr k).W.lookup s≠none->(k<i->(eA anc i).contains k=true)/\(i<k->(eA anc k).contains i=true):=by
  intro i k hi hk hne s hs hw;have hws:=Dc hw;have hin:∀j,j<ops.length->inC (tr j).R (tr j).Rc/\inC ((tr j).W.map (·.1)) (tr j).Wc:=fun j hj=>by
   obtain⟨o,ho⟩:=hat j hj;rcases hgood j hj o ho with⟨_,_,h1,h2⟩|⟨_,_,_,_,_,_,h⟩
   ·exact⟨h1,h2⟩
   ·rw[h];exact⟨fun s h=>(List.not_mem_nil h).elim,fun s h=>(List.not_mem_nil h).elim⟩
  have hwc:=(hin k hk).2 s hws;have hsc:cls s∈(tr i).Rc\/cls s∈(tr i).Wc:=hs.imp ((hin i hi).1 s) ((hin i hi).2 s);have hfl:(pP tr ops.length).length=ops.length:=by simp[pP]
  have hfg:∀j,j<ops.length->(pP tr ops.length).getD j ([],[])=((tr j).Rc,(tr j).Wc):=by
   intro j hj;simp[pP,List.getD_eq_getElem?_getD,hj]
  unfold Be at hfeet;rw[List.all_eq_true]at hfeet;have hsym:∀a b:List Nat×List Nat,cls s∈b.2->(cls s∈a.1\/cls s∈a.2)->Sp a b=true/\Sp b a=true:=by
   intro a b hb ha;unfold Sp;refine⟨?_,?_⟩
   ·rw[Bool.or_eq_true];rcases ha with ha|ha
    ·exact .inr (List.any_eq_true.2 ⟨cls s,ha,by simpa using hb⟩)
    ·exact .inl (List.any_eq_true.2 ⟨cls s,ha,by rw[Bool.or_eq_true];exact .inr (by simpa using hb)⟩)
   ·rw[Bool.or_eq_true];refine .inl (List.any_eq_true.2 ⟨cls s,hb,?_⟩);rw[Bool.or_eq_true];rcases ha with ha|ha
    ·exact .inl (by simpa using ha)
    ·exact .inr (by simpa using ha)
  obtain⟨c1,c2⟩:=hsym ((tr i).Rc,(tr i).Wc) ((tr k).Rc,(tr k).Wc) hwc hsc;refine⟨fun hlt=> ?_,fun hlt=> ?_⟩
  ·have:=hfeet i (List.mem_range.2 (by rw[hfl];exact hi))
   rw[List.all_eq_true]at this;have:=this k (List.mem_range.2 hlt);rw[hfg i hi,hfg k hk,c1]at this;simpa using this
  ·have:=hfeet k (List.mem_range.2 (by rw[hfl];exact hk))
   rw[List.all_eq_true]at this;have:=this i (List.mem_range.2 hlt);rw[hfg i hi,hfg k hk,c2]at this;simpa using this
 let dsts:List Nat:=(List.range ops.length).filterMap fun i=>(ops[i]?).bind (·.dst)
 have hdm:∀(t:Nat),t∈dsts↔∃(j:Nat),(ops[j]?).bind (·.dst)=some t:=by
  intro t;simp only[dsts,List.mem_filterMap,List.mem_range];exact⟨fun⟨j,_,h⟩=>⟨j,h⟩,fun⟨j,h⟩=>⟨j,(hdst j t h).2.2.1,h⟩⟩
 let G:(Nat->Bool)->(Nat->Value)->World->Prop:=fun D V w=>∃ρ:Ren,
  (∀i j,D i=true->(eA anc i).contains j=true->D j=true)/\(∀i,D i=true->i<ops.length)/\
  StR C0 ρ (sgD tr L0 D ops.length) w B/\B<=w.heap.size/\Below B wI w/\
  (∀(j t:Nat),D j=true->(ops[j]?).bind (·.dst)=some t->aE ρ (aJ C0 B w ρ (sgD tr L0 D ops.length)) (tr j).r (V t))/\
  (∀(t:Nat),(∀(j:Nat),D j=true->(ops[j]?).bind (·.dst)≠some t)->V t=a0.tmps.getD t Go.undef)/\
  (∀t,aE ρ (aJ C0 B w ρ (sgD tr L0 D ops.length)) (F0.getD t .any) (a0.tmps.getD t Go.undef))/\
  (∀k s,D k=false->cls s=N+k->ρ s=none)
 refine yZ hm dsts ?_ ?_ G ?_ ?_ ?_
 ·rw[List.all_eq_true];intro i hi;have hi':=List.mem_range.1 hi;simp only[List.size_toArray]at hi';obtain⟨o,ho⟩:=hat i hi';obtain⟨q1,q3,q4,q5⟩:=hop i o ho;simp only[List.getElem?_toArray,ho,Option.map_some,Option.getD_some,Bool.and_eq_true];refine⟨?_,?_⟩
  ·rw[List.all_eq_true];intro e he;cases hb:Region.binds .any e with
   |false=>simp
   |true=>simpa using(q1 e he hb).1
  ·cases hd:o.dst with
   |none=>rfl
   |some d=>simpa using(hdm d).2 ⟨i,by rw[ho];exact hd⟩
 ·intro s hs;obtain⟨j,hj⟩:=(hdm s).1 hs;rw[hsz0];exact(hdst j s hj).2.2.2
 ·have e0:sgD tr L0 (fun _=>false) ops.length=L0:=by
   have:∀m,sgD tr L0 (fun _=>false) m=L0:=by
    intro m;induction m with
    |zero=>rfl
    |succ m ih=>simp only[sgD,Bool.false_eq_true,if_false];exact ih
   exact this _
  refine⟨ρ0,(fun i j h=>by cases h),(fun i h=>by cases h),?_,hle0,hbl0.drew,(fun j t h=>by cases h),(fun t _=>rfl),?_,fun k s _ hs=>hn0 s (by omega)⟩
  ·rw[e0];exact hs0.drew
  ·rw[e0];exact hf0
 ·intro i o D V w ho ⟨ρ,g1,g2,g3,g4,g5,g6,g7,g8,g9⟩ hD hpre _;have ho':ops[i]? =some o:=by simpa using ho
  have hi:=hget i o ho';obtain⟨q1,q3,q4,q5⟩:=hop i o ho';have hanc:∀j,(eA anc i).contains j=true->D j=true:=by
   intro j hj;obtain⟨_,e,he,hb,h⟩:=q3 j hj;have:=hpre e he hb;rcases h with rfl|h
   ·exact this
   ·exact g1 _ _ this h
  have hdesc:∀j,(eA anc j).contains i=true->D j=false:=by
   intro j hj;cases hx:D j with
   |false=>rfl
   |true=>rw[g1 _ _ hx hj]at hD;cases hD
  have hT:=hokT i (List.mem_range.2 hi);rw[ho']at hT;simp only[Option.map_some,Option.getD_some,Bool.and_eq_true]at hT;obtain⟨hT1,hT2⟩:=hT
  let Fi:=nI ops tr F0 i
  have hslot:∀t,t∈Oy o\/(∃(j:Nat) (b:Bool),o.guard=some (j,b)/\(ops[j]?).bind (·.dst)=some t)->aE ρ (aJ C0 B w ρ (sgD tr L0 D ops.length)) (Fi.getD t .any) (V t):=by
   intro t ht;have hdone:∀(j:Nat),j<i->(ops[j]?).bind (·.dst)=some t->D j=true:=by
    intro j hji hj;rcases ht with ht|⟨j',b,hg,hj'⟩
    ·rw[List.all_eq_true]at hT1;have:=hT1 t ht;rw[List.all_eq_true]at this;have:=this j (List.mem_range.2 (by omega))
     simp only[Bool.or_eq_true,beq_iff_eq,bne_iff_ne,ne_eq]at this;rcases this with((h|h)|h)|h
     ·omega
     ·exact absurd (hdst j t hj).1 h
     ·exact hanc j h
     ·have h1:=(hop j _ (List.getElem?_eq_getElem (by omega))).2.1 i h
      omega
    ·have:j=j':=by
      rcases Nat.decEq j j' with h|h
      ·exact absurd hj (huniq j' t hj' j h)
      ·exact h
     subst this;rw[hg]at hT2;simp only[Bool.and_eq_true]at hT2;exact hanc j hT2.1
   have hnot:∀(j:Nat),i<=j->(ops[j]?).bind (·.dst)=some t->D j=false:=by
    intro j hij hj;by_cases e:j=i
    ·rw[e];exact hD
    rcases ht with ht|⟨j',b,hg,hj'⟩
    ·rw[List.all_eq_true]at hT1;have:=hT1 t ht;rw[List.all_eq_true]at this;have:=this j (List.mem_range.2 (hdst j t hj).2.2.1);simp only[Bool.or_eq_true,beq_iff_eq,bne_iff_ne,ne_eq]at this;rcases this with((h|h)|h)|h
     ·omega
     ·exact absurd (hdst j t hj).1 h
     ·have:=(q3 j h).1;omega
     ·exact hdesc j h
    ·have:j=j':=by
      rcases Nat.decEq j j' with h|h
      ·exact absurd hj (huniq j' t hj' j h)
      ·exact h
     subst this;rw[hg]at hT2;simp only[Bool.and_eq_true]at hT2;have:=(q3 j hT2.1).1;omega
   by_cases hw:∃(j:Nat),j<i/\(ops[j]?).bind (·.dst)=some t
   ·obtain⟨j,hji,hj⟩:=hw;have:=qD (tr:=tr) hj (hdst j t hj).2.2.2 (huniq j t hj) i hji;show aE _ _ ((nI ops tr F0 i).getD t .any) _;rw[this];exact g6 j t (hdone j hji hj) hj
   ·have:=nH (ops:=ops) (tr:=tr) (F0:=F0) (t:=t) i fun k hk e=>hw ⟨k,hk,e⟩
    show aE _ _ ((nI ops tr F0 i).getD t .any) _;rw[this,g7 t fun j hDj e=> ?_]
    ·exact g8 t
    ·rcases Nat.lt_or_ge j i with h|h
     ·exact hw ⟨j,h,e⟩
     ·rw[hnot j h e]at hDj;cases hDj
  have hgi:=hgood i hi o ho';have hDset:∀s,sgD tr L0 (fun j=>if j=i then true else D j) ops.length s=cB (sgD tr L0 D ops.length) (tr i).W s:=by
   intro s;have hlt:∀m,m<=i->sgD tr L0 (fun j=>if j=i then true else D j) m=sgD tr L0 D m:=fun m hm=>mL _ m (fun _ _=>rfl) (fun j hj=>by rw[if_neg (by omega)])
   cases hl:(tr i).W.lookup s with
   |none=>
    rw[Ig hl];have:∀m,i<m->sgD tr L0 (fun j=>if j=i then true else D j) m s=sgD tr L0 D m s:=by
     intro m;induction m with
     |zero=>intro h;omega
     |succ m ih=>
      intro hm;by_cases e:m=i
      ·subst e;simp only[sgD,if_true,hD,Bool.false_eq_true,if_false];rw[Ig hl,hlt m (Nat.le_refl _)]
      ·simp only[sgD,if_neg e];cases hDm:D m with
       |false=>simp only[Bool.false_eq_true,if_false];exact ih (by omega)
       |true=>simp only[if_true];unfold cB;rw[ih (by omega)]
    exact this _ hi
   |some x=>
    have:∀m,i<m->m<=ops.length->sgD tr L0 (fun j=>if j=i then true else D j) m s=x:=by
     intro m;induction m with
     |zero=>intro h;omega
     |succ m ih=>
      intro hm hmn;by_cases e:m=i
      ·subst e;simp only[sgD,if_true];unfold cB;rw[hl]
      ·simp only[sgD,if_neg e];have hlm:D m=true->(tr m).W.lookup s=none:=by
        intro hDm;cases hl2:(tr m).W.lookup s with
        |none=>rfl
        |some y=>
         have:=(hclash i m hi (by omega) e s (.inr (Dc (by rw[hl];simp))) (by rw[hl2];simp)).2 (by omega)
         rw[hdesc m this]at hDm;cases hDm
       cases hDm:D m with
       |false=>simp only[Bool.false_eq_true,if_false];exact ih (by omega) (by omega)
       |true=>simp only[if_true];rw[Ig (hlm hDm)];exact ih (by omega) (by omega)
    rw[this _ hi (Nat.le_refl _)];unfold cB;rw[hl]
  have key:∀(ρ':Ren) (v:Value) (w':World),(∀s,cls s≠N+i->ρ' s=ρ s)->
    (∀b o' x,aJ C0 B w ρ (sgD tr L0 D ops.length) b o' x->aJ C0 B w' ρ' (cB (sgD tr L0 D ops.length) (tr i).W) b o' x)->
    StR C0 ρ' (cB (sgD tr L0 D ops.length) (tr i).W) w' B->aE ρ' (aJ C0 B w' ρ' (cB (sgD tr L0 D ops.length) (tr i).W)) (tr i).r v->Below B w w'->
    G (fun j=>if j=i then true else D j) (match o.dst with|some d=>fun s=>if s=d then v else V s|none=>V) w':=by
   intro ρ' v w' k1 k2 k3 k4 k5;have hsg:sgD tr L0 (fun j=>if j=i then true else D j) ops.length=cB (sgD tr L0 D ops.length) (tr i).W:=funext hDset
   have hext:∀s q,ρ s=some q->ρ' s=some q:=by
    intro s q hq;rw[k1 s (fun e=>by rw[g9 i s hD e]at hq;cases hq)];exact hq
   have hVd:∀(t:Nat),(ops[i]?).bind (·.dst)=some t->(match o.dst with|some d=>fun s=>if s=d then v else V s|none=>V) t=v:=by
    intro t ht;rw[ho']at ht;have:o.dst=some t:=ht;rw[this];simp
   have hVn:∀(t:Nat),(ops[i]?).bind (·.dst)≠some t->(match o.dst with|some d=>fun s=>if s=d then v else V s|none=>V) t=V t:=by
    intro t ht;rw[ho']at ht;cases hd:o.dst with
    |none=>rfl
    |some d=>
     have:t≠d:=fun e=>ht (by rw[e];exact hd)
     simp[this]
   show G _ _ _;refine⟨ρ',?_,?_,by rw[hsg];exact k3,Nat.le_trans g4 k5.size,g5.trans k5,?_,?_,?_,?_⟩
   ·intro i' j h1 h2;dsimp only at h1|-;by_cases e:j=i
    ·rw[if_pos e]
    ·rw[if_neg e];by_cases e':i'=i
     ·subst e';exact hanc j h2
     ·rw[if_neg e']at h1;exact g1 _ _ h1 h2
   ·intro i' h1;dsimp only at h1;by_cases e':i'=i
    ·rw[e'];exact hi
    ·rw[if_neg e']at h1;exact g2 _ h1
   ·intro j t h1 h2;dsimp only at h1;rw[hsg];by_cases e:j=i
    ·subst e;rw[hVd t h2];exact k4
    ·rw[if_neg e]at h1;rw[hVn t (huniq j t h2 i (fun h=>e h.symm))]
     exact aE.mono hext k2 _ _ (g6 j t h1 h2)
   ·intro t ht;rw[hVn t (ht i (by simp))]
    refine g7 t fun j hj=>ht j ?_
    dsimp only;by_cases e:j=i
    ·rw[if_pos e]
    ·rw[if_neg e];exact hj
   ·intro t;rw[hsg];exact aE.mono hext k2 _ _ (g8 t)
   ·intro k s hk hs;dsimp only at hk;by_cases e:k=i
    ·rw[if_pos e]at hk;cases hk
    ·rw[if_neg e]at hk;rw[k1 _ (by omega)];exact g9 k s hk hs
  have hgv:∀j b q,o.guard=some (j,b)->gdA (ops.map (·.dst)) Fi j=some q->gdV ops.toArray V j=q:=by
   intro j b q hg hq;unfold gdA at hq;rw[aAc]at hq;cases hd:(ops[j]?).bind (·.dst)with
   |none=>rw[hd]at hq;cases hq
   |some d=>
    rw[hd]at hq;have hrep:=hslot d (.inr ⟨j,b,hg,hd⟩);unfold gdV;rw[show(ops.toArray[j]?).bind (·.dst)=some d by simpa using hd]
    dsimp only at hq|-;split at hq
    ·rename_i bb e;rw[e]at hrep;unfold aE aU at hrep;cases hq;rw[hrep]
    ·rename_i e;rw[e]at hrep;unfold aE at hrep;cases hq;rw[hrep];rfl
    ·cases hq
  rcases hgi with⟨hgd,hsim,_,_⟩|⟨j,want,q,hgd,hq,hne,htr⟩
  ·have hwant:Region.wanted o (gdV ops.toArray V)=true:=by
    unfold Region.wanted;rcases hgd with h|⟨j,b,h,hq⟩
    ·rw[h]
    ·rw[h];dsimp only;rw[hgv j b _ h hq];simp
   rw[if_pos hwant];have hsg:∀s,s∈(tr i).R\/s∈(tr i).W.map (·.1)->sgD tr L0 D ops.length s=sgD tr L0 (fun _=>true) i s:=by
    intro s hs;refine aE8 (Nat.le_of_lt hi) ?_ ?_
    ·intro k hk hw;exact hanc k ((hclash i k hi (by omega) (by omega) s hs hw).1 hk)
    ·intro k hk1 hk2 hw;by_cases e:k=i
     ·rw[e];exact hD
     ·exact hdesc k ((hclash i k hi hk2 e s hs hw).2 (by omega))
   have hgn:∀s,cls s=N+i->sgD tr L0 D ops.length s=none:=by
    intro s hs;cases hx:sgD tr L0 D ops.length s with
    |none=>rfl
    |some ob=>obtain⟨q,c,h1,_⟩:=g3.ob _ _ hx;rw[g9 i s hD hs]at h1;cases h1
   refine pV (hsim C0 ρ _ V w B g3 g4 (fun s hs=>hsg s (.inl hs)) (fun s hs=>g9 i s hD hs) hgn ?_) ?_
   ·intro x hx;refine tM fun t e=> ?_
    subst e;exact hslot t (.inl (Qa hx))
   ·rintro v w' ⟨ρ',k1,k2,k3,k4,k5⟩;exact key ρ' v w' k1 k2 k3 k4 k5
  ·have hwant:Region.wanted o (gdV ops.toArray V)=false:=by
    unfold Region.wanted;rw[hgd];dsimp only;rw[hgv j want _ hgd hq];simpa using hne
   rw[hwant,if_neg (by simp)]
   have e1:(tr i).W=[] :=by rw[htr]
   have e2:(tr i).r= .undef:=by rw[htr]
   refine key ρ Go.undef w (fun _ _=>rfl) ?_ ?_ ?_ (Below.refl _ _)
   ·rw[e1];exact fun _ _ _ h=>h
   ·rw[e1];exact g3
   ·rw[e2];unfold aE;rfl
 ·intro D V w ⟨ρ,g1,g2,g3,g4,g5,g6,g7,g8,g9⟩ hall;simp only[List.size_toArray]at hall;have hsg:sgD tr L0 D ops.length=L':=by
   rw[hL'];exact mL _ _ (fun _ _=>rfl) (fun j hj=>hall j hj)
  obtain⟨p1,p2,p3⟩:=kB V dsts a0 (fun s hs=>by
   obtain⟨j,hj⟩:=(hdm s).1 hs;rw[hsz0];exact(hdst j s hj).2.2.2)
  refine hK _ L' _ w hKK (lJ _ _ _ _) ⟨⟨ρ,by rw[<-hsg];exact g3,?_,?_⟩,g4,p1.trans hdf0,by rw[p2,hsz0,lJ],g5⟩
  ·intro s hs;have:D (cls s-N)=false:=by
    cases hx:D (cls s-N)with
    |false=>rfl
    |true=>have:=g2 _ hx;omega
   exact g9 _ s this (by omega)
  ·intro t;rw[<-hsg];by_cases ht:t<a0.tmps.size
   ·rw[p3 t ht];by_cases hm:t∈dsts
    ·rw[if_pos hm];obtain⟨j,hj⟩:=(hdm t).1 hm;obtain⟨_,_,h3,h4⟩:=hdst j t hj;rw[qD hj h4 (huniq j t hj) _ h3];exact g6 j t (hall j h3) hj
    ·rw[if_neg hm,nH _ fun k _ e=>hm ((hdm t).2 ⟨k,e⟩)]
     exact g8 t
   ·have:(nI ops tr F0 ops.length).getD t .any= .any:=by
     rw[List.getD_eq_getElem?_getD,List.getElem?_eq_none (by rw[lJ];omega)];rfl
    rw[this];unfold aE;trivial
attribute [irreducible] iD
end Go.Proofs.YtdaeofhdgabhjaaGreat
namespace Go.Proofs.YtdaeofhdgabhjaaGreat
open Go.RowKit
abbrev uF:=Exit->List AV->Sto->Nat->Prop
theorem uG{P:Program}{ops:Array Oper}{Q:Exit->Act->World->Prop}{i:Nat}{o:Oper}{a:Act}{w:World}{next:Act->World->Prop}(ho:ops[i]? =some o)
  (h:if Region.wanted o (gdV ops fun s=>a.tmps.getD s Go.undef)=true then bZ P o (fun s=>a.tmps.getD s Go.undef) w fun v w'=>next (a.put o.dst v) w' else next (a.put o.dst Go.undef) w):wpOp P ops Q i next a w:=by
 unfold wpOp;rw[ho];simp only[];rw[nR];by_cases hw:Region.wanted o (gdV ops fun s=>a.tmps.getD s undef)=true
 ·rw[if_pos hw]at h|-;refine .inl ?_;unfold Oper.wp;rw[Act.eval_evalV];unfold bZ at h;cases hr:(execOp (bB fun s=>a.tmps.getD s undef) o).run P w with
  |halt x w'=>rw[hr]at h;exact h.elim
  |ok n w'=>
   rw[hr]at h;cases n<;>simp only[]at h<;>first|exact h.elim|skip
   ·exact h
   ·exact h
   ·rename_i f args;show Calls P f args w' _;refine h.mono ?_;rintro e w'' ⟨v,rfl,hK⟩;exact hK
 ·rw[if_neg hw]at h|-;exact h
theorem Lr(a:Act)(d:Option Nat)(v:Value)(t:Nat):(a.put d v).tmps.getD t Go.undef=if d=some t/\t<a.tmps.size then v else a.tmps.getD t Go.undef:=by
 cases d with
 |none=>simp[Act.put]
 |some d=>
  simp only[Act.put,Array.getD_eq_getD_getElem?,Array.getElem?_setIfInBounds,Option.some.injEq];by_cases e:d=t
  ·subst e;by_cases h:d<a.tmps.size
   ·rw[if_pos rfl,if_pos h,if_pos ⟨rfl,h⟩];rfl
   ·rw[if_pos rfl,if_neg h,if_neg (fun hh=>h hh.2),Array.getElem?_eq_none (by omega)]
  ·rw[if_neg e,if_neg (fun hh=>e hh.1)]
theorem Gb(F:List AV)(d:Option Nat)(r:AV)(t:Nat):(hU F d r).getD t .any=if d=some t/\t<F.length then r else F.getD t .any:=by
 cases d with
 |none=>simp[hU]
 |some d=>
  simp only[hU,List.getD_eq_getElem?_getD,List.getElem?_set,Option.some.injEq];by_cases e:d=t
  ·subst e;by_cases h:d<F.length
   ·rw[if_pos rfl,if_pos h,if_pos ⟨rfl,h⟩];rfl
   ·rw[if_pos rfl,if_neg h,if_neg (fun hh=>h hh.2),List.getElem?_eq_none (by omega)]
  ·rw[if_neg e,if_neg (fun hh=>e hh.1)]
section
variable {P:Program} {C0:bI} {B:Nat} {wI:World}
theorem St.mono{F:List AV}{σ:Nat->Option Ob}{N N':Nat}{a:Act}{w:World}(h:St C0 B wI F σ N a w)(hN:N<=N'):St C0 B wI F σ N' a w:=by
 obtain⟨⟨ρ,h1,h2,h3⟩,h4,h5,h6,h7⟩:=h;exact⟨⟨ρ,h1,fun s hs=>h2 s (by omega),h3⟩,h4,h5,h6,h7⟩
theorem tF{ops tail:List Oper}{m N:Nat}{Q:Exit->Act->World->Prop}{K:List AV->Sto->pI->Prop}(hm:m+tail.length=ops.length)(hK:∀F L log a w,K F L log->St C0 B wI F L (N+m) a w->wpOps P ops.toArray Q (List.range' m tail.length) a w):
  ∀(rest:List Oper) (i:Nat) (F:List AV) (L:Sto) (log:pI) (a:Act) (w:World),i<=ops.length->ops.drop i=rest++tail->iD P N (ops.map (·.dst)) rest i F L log K->St C0 B wI F L (N+i) a w->wpOps P ops.toArray Q (List.range' i (rest.length+tail.length)) a w
 |[],i,F,L,log,a,w,hil,hd,h,hS=>by
  have hi:i=m:=by
   have:=congrArg List.length hd;simp at this;omega
  subst hi;unfold iD at h;simpa using hK F L log a w h hS
 |o::rest,i,F,L,log,a,w,hil,hd,h,hS=>by
  have hlt:i<ops.length:=by
   have:=congrArg List.length hd;simp at this;omega
  have ho:ops[i]? =some o:=by
   have:=congrArg (fun l=>l[0]?) hd
   simpa using this
  have hd':ops.drop (i+1)=rest++tail:=by
   have:=congrArg List.tail hd;simpa using this
  rw[List.length_cons,show rest.length+1+tail.length=(rest.length+tail.length)+1 by omega]
  rw[List.range'_succ,wpOps_cons];refine uG (by simpa using ho) ?_
  have hS':=hS;obtain⟨⟨ρ,s1,s2,s3⟩,s4,s5,s6,s7⟩:=hS;have fin:∀(ρ':Ren) (W:List (Nat×Option Ob)) (r:AV) (v:Value) (w':World) (K':Prop),(∀s,cls s≠N+i->ρ' s=ρ s)->(∀b o' x,aJ C0 B w ρ L b o' x->aJ C0 B w' ρ' (cB L W) b o' x)->StR C0 ρ' (cB L W) w' B->
    aE ρ' (aJ C0 B w' ρ' (cB L W)) r v->Below B w w'->St C0 B wI (hU F o.dst r) (cB L W) (N+(i+1)) (a.put o.dst v) w':=by
   intro ρ' W r v w' _ k1 k2 k3 k4 k5;have hext:∀s q,ρ s=some q->ρ' s=some q:=by
    intro s q hq;rw[k1 s (fun e=>by rw[s2 s (by omega)]at hq;cases hq)];exact hq
   refine⟨⟨ρ',k3,fun s hs=>by rw[k1 s (by omega)];exact s2 s (by omega),fun t=> ?_⟩,Nat.le_trans s4 k5.size,by cases hd2:o.dst<;>exact s5,by rw[rO];cases hd2:o.dst<;>simpa[Act.put]using s6,s7.trans k5⟩
   rw[Gb,Lr,s6];by_cases e:o.dst=some t/\t<F.length
   ·rw[if_pos e,if_pos e];exact k4
   ·rw[if_neg e,if_neg e];exact aE.mono hext k2 _ _ (s3 t)
  have run:(∃r R W Rc Wc,bM P o (kF F) L (N+i) r R W/\inC R Rc/\inC (W.map (·.1)) Wc/\iD P N (ops.map (·.dst)) rest (i+1) (hU F o.dst r) (cB L W) (log++[(Rc,Wc)]) K)->
    bZ P o (fun s=>a.tmps.getD s Go.undef) w fun v w'=>wpOps P ops.toArray Q (List.range' (i+1) (rest.length+tail.length)) (a.put o.dst v) w':=by
   rintro⟨r,R,W,Rc,Wc,hsim,_,_,hk⟩;have hgn:∀s,cls s=N+i->L s=none:=by
    intro s hs;cases hx:L s with
    |none=>rfl
    |some ob=>obtain⟨q,c,h1,_⟩:=s1.ob _ _ hx;rw[s2 s (by omega)]at h1;cases h1
   refine pV (hsim C0 ρ L _ w B s1 s4 (fun _ _=>rfl) (fun s hs=>s2 s (by omega)) hgn (fun x _=>tM fun t _=>s3 t)) ?_
   rintro v w' ⟨ρ',k1,k2,k3,k4,k5⟩;exact tF hm hK rest (i+1) _ _ _ _ w' hlt hd' hk (fin ρ' W r v w' True k1 k2 k3 k4 k5)
  have skip:iD P N (ops.map (·.dst)) rest (i+1) (hU F o.dst .undef) L (log++[([],[])]) K->wpOps P ops.toArray Q (List.range' (i+1) (rest.length+tail.length)) (a.put o.dst Go.undef) w:=by
   intro h;exact tF hm hK rest (i+1) _ _ _ _ w hlt hd' h (fin ρ [] .undef Go.undef w True (fun _ _=>rfl) (fun _ _ _ h=>h) s1 (by unfold aE;rfl) (Below.refl _ _))
  have hgv:∀j b q,o.guard=some (j,b)->gdA (ops.map (·.dst)) F j=some q->gdV ops.toArray (fun s=>a.tmps.getD s Go.undef) j=q:=by
   intro j b q hgd hq;unfold gdA at hq;rw[aAc]at hq;cases hd:(ops[j]?).bind (·.dst)with
   |none=>rw[hd]at hq;cases hq
   |some d=>
    rw[hd]at hq;have hrep:=s3 d;unfold gdV;rw[show(ops.toArray[j]?).bind (·.dst)=some d by simpa using hd]
    dsimp only at hq|-;split at hq
    ·rename_i bb e;rw[e]at hrep;unfold aE aU at hrep;cases hq;rw[hrep]
    ·rename_i e;rw[e]at hrep;unfold aE at hrep;cases hq;rw[hrep];rfl
    ·cases hq
  unfold iD at h;split at h
  ·rename_i hgd;have hw:Region.wanted o (gdV ops.toArray fun s=>a.tmps.getD s Go.undef)=true:=by unfold Region.wanted;rw[hgd]
   rw[if_pos hw];exact run h
  ·rename_i j want hgd;split at h
   ·rename_i b hb;split at h
    ·rename_i e;subst e;have hw:Region.wanted o (gdV ops.toArray fun s=>a.tmps.getD s Go.undef)=true:=by
      unfold Region.wanted;rw[hgd];dsimp only;rw[hgv j b _ hgd hb];simp
     rw[if_pos hw];exact run h
    ·rename_i e;have hw:Region.wanted o (gdV ops.toArray fun s=>a.tmps.getD s Go.undef)=false:=by
      unfold Region.wanted;rw[hgd];dsimp only;rw[hgv j want _ hgd hb];simpa using e
     rw[hw,if_neg (by simp)]
     exact skip h
   ·rename_i hb;have hw:Region.wanted o (gdV ops.toArray fun s=>a.tmps.getD s Go.undef)=false:=by
     unfold Region.wanted;rw[hgd];dsimp only;rw[hgv j want _ hgd hb];rfl
    rw[hw,if_neg (by simp)]
    exact skip h
   ·exact h.elim
theorem Js{id N:Nat}{ops:List Oper}{Q:Exit->Act->World->Prop}{a:Act}{w:World}{F:List AV}{L:Sto}{K:List AV->Sto->Prop}
  (hS:St C0 B wI F L N a w) (h:iD P N (ops.map (·.dst)) ops 0 F L [] fun F L _=>K F L)
  (hK:∀F L a w,K F L->St C0 B wI F L (N+ops.length) a w->Q .normal a w):(Code.region id ops.toArray false).wp P Q a w:=by
 refine wp_region ?_;have:=tF (P:=P) (C0:=C0) (B:=B) (wI:=wI) (Q:=Q) (tail:=[]) (m:=ops.length) rfl (fun F L _ a w h hS=>hK F L a w h hS) ops 0 F L [] a w (Nat.zero_le _) (by simp) h (by simpa using hS)
 rw[List.range_eq_range'];simpa using this
def Ox(P:Program)(o:Oper)(F:List AV)(L:Sto)(N:Nat)(K:List AV->Sto->Nat->Prop):Prop:=∀(C0:bI) (B:Nat) (wI:World) (a:Act) (w:World),St C0 B wI F L N a w->
 bZ P o (fun s=>a.tmps.getD s Go.undef) w fun v w'=>∃F' L' N',K F' L' N'/\St C0 B wI F' L' N' (a.put o.dst v) w'
theorem No{id N:Nat}{pre:List Oper}{o:Oper}{Q:Exit->Act->World->Prop}{a:Act}{w:World}{F:List AV}{L:Sto}{K:List AV->Sto->Nat->Prop}(hgd:o.guard=none)
  (hS:St C0 B wI F L N a w) (h:iD P N ((pre++[o]).map (·.dst)) pre 0 F L [] fun F L _=>Ox P o F L (N+pre.length) K)
  (hK:∀F L N a w,K F L N->St C0 B wI F L N a w->Q .normal a w):(Code.region id (pre++[o]).toArray false).wp P Q a w:=by
 refine wp_region ?_;have:=tF (P:=P) (C0:=C0) (B:=B) (wI:=wI) (Q:=Q) (ops:=pre++[o]) (tail:=[o]) (m:=pre.length) (by simp) (fun F L _ a w h hS=>by
  rw[List.length_singleton,List.range'_succ,wpOps_cons];refine uG (o:=o) (by simp) ?_
  have hw:Region.wanted o (gdV (pre++[o]).toArray fun s=>a.tmps.getD s Go.undef)=true:=by unfold Region.wanted;rw[hgd]
  rw[if_pos hw];refine pV (h C0 B wI a w hS) ?_;rintro v w' ⟨F',L',N',h1,h2⟩;exact hK F' L' N' _ _ h1 h2) pre 0 F L [] a w (Nat.zero_le _) (by simp) h (by simpa using hS)
 rw[List.range_eq_range'];simpa using this
end
def kE(F:List AV)(L:Sto)(N:Nat)(F':List AV)(L':Sto)(N':Nat):Prop:=∀(C0:bI) (B:Nat) (wI:World) (a:Act) (w:World),St C0 B wI F L N a w->St C0 B wI F' L' N' a w
theorem kE.rfl{F:List AV}{L:Sto}{N:Nat}:kE F L N F L N:=fun _ _ _ _ _ h=>h
def aIJ(P:Program)(draw:Bool)(ops:List Oper)(F:List AV)(L:Sto)(N:Nat)(K:List AV->Sto->Prop):Prop:=match draw with
 |true=>∃anc:List (List Nat),P.follows .mixedOrders=true/\Sl ops anc=true/\((List.range ops.length).all fun i=>match(ops[i]?).bind (·.dst)with|some d=>decide (d<F.length)|none=>true)=true/\iD P N (ops.map (·.dst)) ops 0 F L [] fun F L log=>Be anc log=true/\K F L
 |false=>(ops.all (fun o=>match o.guard with|none=>true|some (j,_)=>((ops[j]?).bind (·.dst)).isSome)=true)/\iD P N (ops.map (·.dst)) ops 0 F L [] fun F L _=>K F L
def awp(P:Program):Code->uF->List AV->Sto->Nat->Prop
 | .skip,Q,F,L,N=>Q .normal F L N
 | .region _ ops draw,Q,F,L,N=>(aIJ P draw ops.toList F L N fun F L=>Q .normal F L (N+ops.size))\/(draw=false/\∃pre o,ops.toList=pre++[o]/\o.guard=none/\iD P N (ops.toList.map (·.dst)) pre 0 F L [] fun F L _=>Ox P o F L (N+pre.length) fun F L N=>Q .normal F L N)
 | .seq a b,Q,F,L,N=>∃M:List AV->Sto->Nat->Prop,awp P a (fun e F L N=>match e with| .normal=>M F L N|e=>Q e F L N) F L N/\∀F L N,M F L N->∃F' L' N',kE F L N F' L' N'/\awp P b Q F' L' N'
 | .cond c t e,Q,F,L,N=>∃b,kF F c= .p (.bool b)/\(b=true->awp P t Q F L N)/\(b=false->awp P e Q F L N)
 | .block id c,Q,F,L,N=>awp P c (fun e F L N=>match e with| .exit id'=>if id'=id then Q .normal F L N else Q (.exit id') F L N|e=>Q e F L N) F L N
 | .loop c,Q,F,L,N=>∃(Inv:List AV->Sto->Nat->Prop) (μ:List AV->Sto->Nat->Nat),(∃F' L' N',kE F L N F' L' N'/\Inv F' L' N')/\
    ∀F L N,Inv F L N->awp P c (fun e F1 L1 N1=>match e with| .normal=>∃F' L' N',kE F1 L1 N1 F' L' N'/\Inv F' L' N'/\μ F' L' N'<μ F L N|e=>Q e F1 L1 N1) F L N
 | .exit id,Q,F,L,N=>Q (.exit id) F L N
 | .ret,Q,F,L,N=>Q .ret F L N
 | .scope c,Q,F,L,N=>awp P c (fun e F L N=>match e with| .goto _=>False|e=>Q e F L N) F L N
 | .label _,Q,F,L,N=>Q .normal F L N
 |_,_,_,_,_=>False
theorem zD{P:Program}{c:Code}{Q:Exit->Act->World->Prop}:∀{n:Nat} {a:Act} {w:World},Code.rounds P c Q n a w->Code.rounds P c Q (n+1) a w
 |0,_,_,h=>h.elim
 |n+1,a,w,h=>by
  refine wp_mono h ?_;intro e a w h;cases e<;>first|exact h|exact zD h
theorem Vq{P:Program}{c:Code}{Q:Exit->Act->World->Prop}{n m:Nat}(h:n<=m){a:Act}{w:World}(hr:Code.rounds P c Q n a w):Code.rounds P c Q m a w:=by
 induction h with
 |refl=>exact hr
 |step _ ih=>exact zD ih
theorem Uy{P:Program}{c:Code}{Q:Exit->Act->World->Prop}{a:Act}{w:World}(I:Nat->Act->World->Prop){n:Nat}(h0:I n a w)
  (hr:∀n a w,I n a w->c.wp P (Exit.then (fun a' w'=>∃m,m<n/\I m a' w') Q) a w):(Code.loop c).wp P Q a w:=by
 have key:∀n a w,I n a w->Code.rounds P c Q (n+1) a w:=by
  intro n;induction n using Nat.strongRecOn with
  |ind n ih=>
   intro a w h;refine wp_mono (hr n a w h) ?_;intro e a' w' h';cases e<;>first|exact h'|skip
   obtain⟨m,hm,hI⟩:=h';exact Vq (show m+1<=n by omega) (ih m hm a' w' hI)
 exact wp_loop_rounds (n+1) (key n a w h0)
theorem yP{P:Program}{C0:bI}{B:Nat}{wI:World}:∀(c:Code) (Q:uF) (F:List AV) (L:Sto) (N:Nat) (a:Act) (w:World),awp P c Q F L N->St C0 B wI F L N a w->
  c.wp P (fun e a' w'=>∃F' L' N',Q e F' L' N'/\St C0 B wI F' L' N' a' w') a w:=by
 intro c;induction c with
 |skip=>intro Q F L N a w h hS;exact wp_skip ⟨F,L,N,h,hS⟩
 |region id ops draw=>
  intro Q F L N a w h hS;rcases h with h|⟨rfl,pre,o,h1,h2,h3⟩
  rotate_left
  ·have e:ops=(pre++[o]).toArray:=by rw[<-h1]
   subst e;rw[List.toList_toArray]at h3;exact No h2 hS h3 fun F L N a w hk hs=>⟨F,L,N,hk,hs⟩
  cases draw with
  |true=>
   obtain⟨anc,h1,h2,h3,h4⟩:=h;have:=Jt (id:=id) (P:=P) (Q:=fun e a' w'=>∃F' L' N',Q e F' L' N'/\St C0 B wI F' L' N' a' w') h1 anc h2 h3 hS h4 (fun F' L' a' w' hk _ hs=>⟨F',L',_,hk,by simpa using hs⟩)
   simpa using this
  |false=>
   obtain⟨h1,h4⟩:=h;have:=Js (id:=id) (P:=P) (Q:=fun e a' w'=>∃F' L' N',Q e F' L' N'/\St C0 B wI F' L' N' a' w') hS h4 (fun F' L' a' w' hk hs=>⟨F',L',_,hk,by simpa using hs⟩)
   simpa using this
 |seq x y ihx ihy=>
  intro Q F L N a w h hS;obtain⟨M,h1,h2⟩:=h;refine wp_seq (wp_mono (ihx _ F L N a w h1 hS) ?_);rintro e a' w' ⟨F',L',N',hq,hs⟩;cases e<;>first|exact⟨F',L',N',hq,hs⟩|(obtain⟨F2,L2,N2,hw,hy⟩:=h2 _ _ _ hq;exact ihy Q F2 L2 N2 a' w' hy (hw C0 B wI a' w' hs))
 |cond c t e iht ihe=>
  intro Q F L N a w h hS;obtain⟨b,hb,h1,h2⟩:=h;obtain⟨⟨ρ,s1,s2,s3⟩,_⟩:=id hS;have hc:a.eval c= .bool b:=by
   rw[Act.eval_evalV];have:=tM (x:=c) (F:=F) (V:=fun s=>a.tmps.getD s undef) (ρ:=ρ) (C:=aJ C0 B w ρ L) (fun t _=>s3 t)
   rw[hb]at this;unfold aE aU at this;exact this
  exact wp_cond_split hc (fun e=>iht Q F L N a w (h1 e) hS) (fun e=>ihe Q F L N a w (h2 e) hS)
 |block id c ih=>
  intro Q F L N a w h hS;refine wp_block (wp_mono (ih _ F L N a w h hS) ?_);rintro e a' w' ⟨F',L',N',hq,hs⟩;cases e<;>first|exact⟨F',L',N',hq,hs⟩|skip
  rename_i id';show Exit.inBlock id _ (.exit id') a' w';unfold Exit.inBlock;dsimp only at hq|-;split at hq
  ·rename_i e;rw[if_pos e];exact⟨F',L',N',hq,hs⟩
  ·rename_i e;rw[if_neg e];exact⟨F',L',N',hq,hs⟩
 |loop c ih=>
  intro Q F L N a w h hS;obtain⟨Inv,μ,⟨F0,L0,N0,hw0,hI0⟩,hround⟩:=h;refine Uy (fun n a w=>∃F L N,Inv F L N/\St C0 B wI F L N a w/\μ F L N=n) ⟨F0,L0,N0,hI0,hw0 C0 B wI a w hS,rfl⟩ ?_
  rintro n a' w' ⟨F1,L1,N1,hI1,hS1,rfl⟩;refine wp_mono (ih _ F1 L1 N1 a' w' (hround F1 L1 N1 hI1) hS1) ?_;rintro e a2 w2 ⟨F2,L2,N2,hq,hs⟩;cases e<;>first|exact⟨F2,L2,N2,hq,hs⟩|skip
  obtain⟨F3,L3,N3,hw,hI3,hlt⟩:=hq;exact⟨_,hlt,F3,L3,N3,hI3,hw C0 B wI a2 w2 hs,rfl⟩
 |exit id=>intro Q F L N a w h hS;exact wp_exit ⟨F,L,N,h,hS⟩
 |ret=>intro Q F L N a w h hS;exact wp_ret ⟨F,L,N,h,hS⟩
 |rangeFunc f params x y _ _=>intro Q F L N a w h;exact h.elim
 |scope c ih=>
  intro Q F L N a w h hS;refine wp_scope_straight (wp_mono (ih _ F L N a w h hS) ?_);rintro e a' w' ⟨F',L',N',hq,hs⟩;cases e<;>first|exact hq.elim|exact⟨F',L',N',hq,hs⟩
 |label l=>intro Q F L N a w h hS;exact wp_label ⟨F,L,N,h,hS⟩
 |goto l=>intro Q F L N a w h;exact h.elim
 |refuse s=>intro Q F L N a w h;exact h.elim
section
variable {P:Program} {y:Code} {Q:uF} {F:List AV} {L:Sto} {N:Nat}
def gOk(l:List Oper):Bool:=l.all fun o=>match o.guard with|none=>true|some (j,_)=>((l[j]?).bind (·.dst)).isSome
def dOk(l:List Oper)(n:Nat):Bool:=(List.range l.length).all fun i=>match(l[i]?).bind (·.dst)with|some d=>decide (d<n)|none=>true
theorem Kc{x:Code}(J:List AV->Sto->Nat->Prop)(h1:awp P x (fun e F L N=>match e with| .normal=>∃F' L' N',kE F L N F' L' N'/\J F' L' N'|e=>Q e F L N) F L N)(h2:∀F L N,J F L N->awp P y Q F L N):awp P (.seq x y) Q F L N:=
 ⟨fun F L N=>∃F' L' N',kE F L N F' L' N'/\J F' L' N',h1,fun _ _ _ ⟨F',L',N',hw,hj⟩=>⟨F',L',N',hw,h2 _ _ _ hj⟩⟩
theorem aBr{c:Code}(Inv:List AV->Sto->Nat->Prop)(μ:List AV->Sto->Nat)(h0:∃F' L' N',kE F L N F' L' N'/\Inv F' L' N')
 (hr:∀F L N,Inv F L N->awp P c (fun e F1 L1 N1=>match e with| .normal=>∃F' L' N',kE F1 L1 N1 F' L' N'/\Inv F' L' N'/\μ F' L'<μ F L|e=>Q e F1 L1 N1) F L N):awp P (.loop c) Q F L N:=⟨Inv,fun F L _=>μ F L,h0,hr⟩
theorem Xn{c:Code}(Inv:List AV->Sto->Nat->Prop)(μ:List AV->Sto->Nat->Nat)(h0:∃F' L' N',kE F L N F' L' N'/\Inv F' L' N')
 (hr:∀F L N,Inv F L N->awp P c (fun e F1 L1 N1=>match e with| .normal=>∃F' L' N',kE F1 L1 N1 F' L' N'/\Inv F' L' N'/\μ F' L' N'<μ F L N|e=>Q e F1 L1 N1) F L N):awp P (.loop c) Q F L N:=⟨Inv,μ,h0,hr⟩
end
section
variable {P:Program} {N:Nat} {ds:List (Option Nat)} {K:List AV->Sto->pI->Prop}
end
end Go.Proofs.YtdaeofhdgabhjaaGreat
namespace Go.Proofs.YtdaeofhdgabhjaaGreat
open Go.RowKit
def oC(P:Program):List ResultVar->List AV->(Nat->Option Ob)->(List AV->Prop)->Prop
 |[],_,_,K=>K []
 | .tmp t::rs,F,σ,K=>oC P rs F σ fun l=>K (F.getD t .any::l)
 | .cell a t::rs,F,σ,K=>(match F.getD a .any with
   | .ptr s off=>∃ob,σ s=some ob/\yV P t ob.cells off fun r=>oC P rs F σ fun l=>K (r::l)
   |_=>False)
def On:List PV->PV
 |[x] =>x
 |m=> .tup m
def aBD(tmps:Array Value):ResultVar->Sem Value
 | .tmp t=>pure (tmps.getD t Go.undef)
 | .cell a t=>do loadVar t (<-asAddr (tmps.getD a Go.undef))
theorem qB(fn:Func)(tmps:Array Value):results fn tmps=(do let vs<-fn.results.mapM (aBD tmps);pure (if h:vs.size=1 then vs[0]else .tuple vs)):=by
 unfold results
 congr 1
def aEC(P:Program)(rs:List ResultVar)(r:PV):uF:=fun e F L _=>match e with
 | .normal| .ret=>oC P rs F L fun l=>∃m,gE (fE 3 L) l=some m/\On m=r
 |_=>False
section
variable {P:Program} {C0:bI} {B:Nat} {wI:World}
theorem rH{ρ:Ren}{σ:Nat->Option Ob}{a:Act}{w:World}{F:List AV}(hs:StR C0 ρ σ w B)(hf:∀t,aE ρ (aJ C0 B w ρ σ) (F.getD t .any) (a.tmps.getD t Go.undef)):
  ∀(rs:List ResultVar) (K:List AV->Prop),oC P rs F σ K->∃l vs,K l/\(rs.mapM (aBD a.tmps)).run P w= .ok vs w/\aP ρ (aJ C0 B w ρ σ) l vs
 |[],K,h=>⟨[],[],h,by simp,by unfold aP;rfl⟩
 | .tmp t::rs,K,h=>by
   unfold oC at h;obtain⟨l,vs,h1,h2,h3⟩:=rH hs hf rs _ h;refine⟨_,_::vs,h1,?_,by unfold aP;exact⟨_,vs,rfl,hf t,h3⟩⟩
   simp[List.mapM_cons,h2,aBD]
 | .cell x t::rs,K,h=>by
   unfold oC at h;split at h
   ·rename_i s off e;obtain⟨ob,hob,hl⟩:=h;obtain⟨r,hr,hv⟩:=Gh hl;obtain⟨l,vs,h1,h2,h3⟩:=rH hs hf rs _ hr;have hx:=hf x;rw[e]at hx;unfold aE at hx;obtain⟨b,c,hq,hpt⟩:=hx;obtain⟨_,arr,hO⟩:=hs.at hob hq;obtain⟨v,hrun,hrep⟩:=hv _ _ w b c arr hO;have hrun':(loadVar t ⟨b,off,none⟩).run P w= .ok v w:=by
     simpa[Instr.loadAt,Instr.sureAddr]using hrun
    refine⟨_,v::vs,h1,?_,by unfold aP;exact⟨_,vs,rfl,hrep,h3⟩⟩
    simp only[Array.getD_eq_getD_getElem?]at hpt;simp[List.mapM_cons,h2,aBD,hpt,asAddr,hrun']
   ·exact h.elim
def Xr:Sto:=fun s=>if s=sit 0 0 then some ⟨0,0,[.undef]⟩else none
def uR(L:Sto)(N:Nat):Prop:=(L=(fun _=>none)/\N=0)\/(L=Xr/\N=1)
theorem uR.st{L:Sto}{N:Nat}(h:uR L N){C:bI}{w:World}(hC:∀b o v,C b o v->w.cell? ⟨b,o,none⟩=some v):
  ∃ρ:Ren,StR C ρ L w w.heap.size/\(∀s,N<=cls s->ρ s=none)/\∀s b c,ρ s≠some (some b,c):=by
 rcases h with⟨rfl,rfl⟩|⟨rfl,rfl⟩
 ·exact⟨fun _=>none,⟨fun s o h=>(by cases h),fun s s' o o' b c c' h=>(by cases h),fun s s' o o' c c' h=>(by cases h)⟩,fun _ _=>rfl,fun s b c h=>by cases h⟩
 ·have hat:∀s o,Xr s=some o->s=sit 0 0/\o=⟨0,0,[.undef]⟩:=by
   intro s o h;unfold Xr at h;split at h
   ·cases h;exact⟨by assumption,rfl⟩
   ·cases h
  refine⟨fun s=>if s=sit 0 0 then some (none,0)else none,⟨?_,?_,?_⟩,?_,?_⟩
  ·intro s o h;obtain⟨rfl,rfl⟩:=hat s o h;have hno:∀i v,¬C w.heap.size i v:=fun i v hv=>absurd (World.block_lt_of_cell? w ⟨w.heap.size,i,none⟩ (hC _ _ _ hv)) (Nat.lt_irrefl _)
   exact⟨none,0,by simp,.inl ⟨rfl,.inr ⟨rfl,.inl ⟨rfl,fun i x _ v hv=>absurd hv (hno i v),fun i v hv=>absurd hv (hno i v)⟩⟩⟩⟩
  ·intro s s' o o' b c c' h1 h2 h3;try dsimp only at h3
   split at h3<;>cases h3
  ·intro s s' o o' c c' h1 h2 _ _ _ _ _;rw[(hat s o h1).1,(hat s' o' h2).1]
  ·intro s hs;try dsimp only
   split
   ·rename_i e;rw[e,dM]at hs;omega
   ·rfl
  ·intro s b c h3;try dsimp only at h3
   split at h3<;>cases h3
theorem Qj{f:FuncId}{fn:Func}{c:Code}{A:List PV}{r:PV}(hok:qL P f=true)(hf:P.funcs[f]? =some fn)(hb:fn.body=some c)
  {L0:Sto} {N0:Nat} (h0:uR L0 N0) (h:awp P c (aEC P fn.results.toList r) (A.map .p++List.replicate (fn.ntmps-A.length) .undef) L0 N0):Sat P false f A r:=by
 refine⟨hok,fun C w vs hC hrep=> ?_⟩
 obtain⟨ρ0,z1,z2,z3⟩:=h0.st hC;have hlen:=hrep.length;refine calls_of_wp hf hb (wp_mono (yP (C0:=C) (B:=w.heap.size) (wI:=w) c _ _ _ _ _ _ h ?_) ?_)
 ·refine⟨⟨ρ0,z1,z2,fun t=> ?_⟩,Nat.le_refl _,rfl,by simp[hlen],Below.refl _ _⟩
  by_cases ht:t<A.length
  ·have e1:(A.map AV.p++List.replicate (fn.ntmps-A.length) AV.undef).getD t .any= .p A[t] :=by
    rw[List.getD_eq_getElem?_getD,List.getElem?_append_left (by simpa using ht)];simp[ht]
   obtain⟨v,h1,h2⟩:=hrep.get _ _ t A[t] (List.getElem?_eq_getElem ht);have e2:(vs.toArray++Array.replicate (fn.ntmps-vs.toArray.size) undef).getD t undef=v:=by
    rw[Array.getD_eq_getD_getElem?,Array.getElem?_append_left (by simp;omega)];simp[h1]
   rw[e1];show aE _ _ _ ((vs.toArray++Array.replicate (fn.ntmps-vs.toArray.size) undef).getD t undef);rw[e2];unfold aE;refine aU.mono (fun b o x hx=>⟨hC b o x hx,fun s c h=>absurd h (z3 _ _ _),.inr hx⟩) _ v h2
  ·by_cases ht2:t<A.length+(fn.ntmps-A.length)
   ·have e1:(A.map AV.p++List.replicate (fn.ntmps-A.length) AV.undef).getD t .any= .undef:=by
     rw[List.getD_eq_getElem?_getD,List.getElem?_append_right (by simp;omega),List.getElem?_replicate,if_pos (by simp;omega)];rfl
    have e2:(vs.toArray++Array.replicate (fn.ntmps-vs.toArray.size) undef).getD t undef=undef:=by
     rw[Array.getD_eq_getD_getElem?,Array.getElem?_append_right (by simp;omega),Array.getElem?_replicate]
     split<;>rfl
    rw[e1];show aE _ _ _ ((vs.toArray++Array.replicate (fn.ntmps-vs.toArray.size) undef).getD t undef);rw[e2];unfold aE;rfl
   ·have e1:(A.map AV.p++List.replicate (fn.ntmps-A.length) AV.undef).getD t .any= .any:=by
     rw[List.getD_eq_getElem?_getD,List.getElem?_eq_none (by simp;omega)];rfl
    rw[e1];unfold aE;trivial
 ·rintro e a w' ⟨F,L,N,hq,⟨ρ,s1,s2,s3⟩,s4,s5,s6,s7⟩;have fin:oC P fn.results.toList F L (fun l=>∃m,gE (fE 3 L) l=some m/\On m=r)->a.defers=[]/\∃v,(results fn a.tmps).run P w'= .ok v w'/\∃v',Ending.returned v= .returned v'/\aU (fun b o x=>((false:Bool)=false/\C b o x)\/(w.heap.size<=b/\w'.cell? ⟨b,o,none⟩=some x)) r v'/\Below w.heap.size w w':=by
   intro h;refine⟨s5,?_⟩;obtain⟨l,us,⟨m,hm,hr⟩,h2,h3⟩:=rH s1 s3 _ _ h;have hres:(results fn a.tmps).run P w'= .ok (if h:us.toArray.size=1 then us.toArray[0]else .tuple us.toArray) w':=by
    rw[qB,Array.mapM_eq_mapM_toList];simp only[Sem.run_bind,Sem.run_map,h2,Result.andThen_ok,Sem.run_pure]
   refine⟨_,hres,_,rfl,?_,s7⟩;obtain⟨g1,g2⟩:=iK hm;have hrl:bO (fun b o x=>((false:Bool)=false/\C b o x)\/(w.heap.size<=b/\w'.cell? ⟨b,o,none⟩=some x)) m us:=by
    refine bO.of _ _ (by rw[<-g1];exact h3.length) fun i y hi=> ?_
    have hlt:i<l.length:=by rw[g1];exact(List.getElem?_eq_some_iff.1 hi).1
    obtain⟨y',h5,h6⟩:=g2 i _ (List.getElem?_eq_getElem hlt);rw[hi]at h5;cases h5;obtain⟨v,k1,k2⟩:=h3.get _ _ i _ (List.getElem?_eq_getElem hlt);refine⟨v,k1,Bs s1 _ (fun _=>True) ?_ ?_ 3 _ _ v h6 (fun s hs'=>⟨trivial,rfl⟩) k2⟩
    ·rintro b o x ⟨e1,e2,e3⟩;rcases e3 with e3|e3
     ·exact .inr ⟨e3,e1⟩
     ·exact .inl ⟨rfl,e3⟩
    ·intro s ob b c _ _ _ hb o x hx;exact .inr ⟨hb,hx⟩
   rw[<-hr];cases m with
   |nil=>
    unfold bO at hrl;subst hrl;unfold On aU;exact⟨[],rfl,by unfold bO;rfl⟩
   |cons x m=>
    cases m with
    |nil=>
     unfold bO at hrl;obtain⟨v,r',rfl,h7,h8⟩:=hrl;unfold bO at h8;subst h8;unfold On;simpa using h7
    |cons y m=>
     have hl:¬us.toArray.size=1:=by have:=hrl.length;simp at this;simp;omega
     rw[dif_neg hl];unfold On aU;exact⟨us,rfl,hrl⟩
  cases e<;>first|exact fin hq|exact hq.elim
end
theorem eD:∀{l:List AV} {A:List PV},cK l=some A->l=A.map .p
 |[],A,h=>by simp[cK]at h;subst h;rfl
 |x::l,A,h=>by
  unfold cK at h;split at h
  ·rename_i e;cases e
  ·rename_i y l' e;cases e;simp only[Option.map_eq_some_iff]at h;obtain⟨r,h1,rfl⟩:=h;rw[eD h1];rfl
  ·cases h
section
variable {P:Program} {σ:Nat->Option Ob} {f:FuncId} {fr:Bool} {A:List PV} {r:PV} {avs:List AV} {K:Res}
theorem rT(hs:Sat P fr f A r)(hA:cK avs=some A)(hK:K (.p r) [] []):pN P σ f avs K:=by
 have:=eD hA;subst this;refine .inl ⟨A,uM 3 σ A,fr,r,hs,.inl ⟨.inr hA,?_⟩⟩;rw[mC];exact hK
theorem wX{R:List Nat}(hs:Sat P true f A r)(hA:gE (fE 3 σ) avs=some A)(hR:bJ (dX 3 σ) avs=R)(hK:K (.p r) R []):pN P σ f avs K:=by
 subst hR;exact .inl ⟨A,hA,true,r,hs,.inl ⟨.inl rfl,hK⟩⟩
theorem Ny{R:List Nat}(hs:Sat P fr f A r)(hA:gE (fE 3 σ) avs=some A)(hR:bJ (dX 3 σ) avs=R)(hK:K (.p r) R (R.map (·,none))):pN P σ f avs K:=by
 subst hR;exact .inl ⟨A,hA,fr,r,hs,.inr hK⟩
def PV.flat:PV->Bool
 | .int .. | .bool _| .str _=>true
 | .agg l| .tup l=>l.all fun x=>match x with| .int .. | .bool _| .str _=>true|_=>false
 |_=>false
theorem aU.flat1{C C':bI}{x:PV}{v:Value}(hf:(match x with| .int .. | .bool _| .str _=>true|_=>false)=true)(h:aU C x v):aU C' x v:=by
 cases x<;>first|(cases hf;done)|(unfold aU at*;exact h)
theorem bO.flat{C C':bI}:∀{l:List PV} {vs:List Value},l.all (fun x=>match x with| .int .. | .bool _| .str _=>true|_=>false)=true->bO C l vs->bO C' l vs
 |[],vs,_,h=>by unfold bO at*;exact h
 |x::l,vs,hf,h=>by
  unfold bO at*;obtain⟨v,r,rfl,h1,h2⟩:=h;simp only[List.all_cons,Bool.and_eq_true]at hf;exact⟨v,r,rfl,aU.flat1 hf.1 h1,bO.flat hf.2 h2⟩
theorem aU.flat{C C':bI}{x:PV}{v:Value}(hf:x.flat=true)(h:aU C x v):aU C' x v:=by
 cases x<;>first|(cases hf;done)|(unfold aU at*;exact h)|skip
 ·unfold aU at*;obtain⟨vs,h1,h2,h3⟩:=h;exact⟨vs,h1,bO.flat hf h2,h3⟩
 ·unfold aU at*;obtain⟨vs,h1,h2⟩:=h;exact⟨vs,h1,bO.flat hf h2⟩
theorem Sat.fresh(hs:Sat P fr f A r)(hf:r.flat=true):Sat P true f A r:=
 ⟨hs.1,fun C w vs hC hr=>(hs.2 C w vs hC hr).mono fun _e _w' ⟨v,h1,h2,h3⟩=>⟨v,h1,aU.flat hf h2,h3⟩⟩
end
def aED(P:Program)(rs:List ResultVar)(ty esz:Nat)(cells:List PV)(m:Nat)(ys:List PV):uF:=fun e F L _=>match e with
 | .normal| .ret=>oC P rs F L fun l=>(∃s,l= .own s 0 m::ys.map .p/\L s=some ⟨ty,esz,cells.map .p⟩)\/(l= .nil::ys.map .p/\m=0/\cells=[])
 |_=>False
section
variable {P:Program} {C0:bI} {B:Nat} {wI:World}
theorem aP.Ca{ρ:Ren}{C:bI}:∀{l:List PV} {vs:List Value},aP ρ C (l.map .p) vs->bO C l vs
 |[],vs,h=>by simp only[List.map_nil]at h;unfold aP at h;unfold bO;exact h
 |x::l,vs,h=>by
  simp only[List.map_cons]at h;unfold aP at h;obtain⟨v,r,rfl,h2,h3⟩:=h;unfold aE at h2;unfold bO;exact⟨v,r,rfl,h2,aP.Ca h3⟩
theorem Fs{f:FuncId}{fn:Func}{c:Code}{A:List PV}{Q:uF}{C:bI}{w:World}{vs:List Value}{R:Ending->World->Prop}(hf:P.funcs[f]? =some fn)(hb:fn.body=some c)(hC:∀b o v,C b o v->w.cell? ⟨b,o,none⟩=some v)(hrep:bO C A vs)
  {L0:Sto} {N0:Nat} (h0:uR L0 N0) (h:awp P c Q (A.map .p++List.replicate (fn.ntmps-A.length) .undef) L0 N0)
  (hR:∀e a w' F L N,Q e F L N->St C w.heap.size w F L N a w'->(match e with| .normal| .ret=>a.defers=[]/\∃v,(results fn a.tmps).run P w'= .ok v w'/\R (.returned v) w'|_=>False)):Calls P f vs.toArray w R:=by
 obtain⟨ρ0,z1,z2,z3⟩:=h0.st hC;have hlen:=hrep.length;refine calls_of_wp hf hb (wp_mono (yP (C0:=C) (B:=w.heap.size) (wI:=w) c _ _ _ _ _ _ h ?_) ?_)
 ·refine⟨⟨ρ0,z1,z2,fun t=> ?_⟩,Nat.le_refl _,rfl,by simp[hlen],Below.refl _ _⟩
  by_cases ht:t<A.length
  ·have e1:(A.map AV.p++List.replicate (fn.ntmps-A.length) AV.undef).getD t .any= .p A[t] :=by
    rw[List.getD_eq_getElem?_getD,List.getElem?_append_left (by simpa using ht)];simp[ht]
   obtain⟨v,h1,h2⟩:=hrep.get _ _ t A[t] (List.getElem?_eq_getElem ht);have e2:(vs.toArray++Array.replicate (fn.ntmps-vs.toArray.size) undef).getD t undef=v:=by
    rw[Array.getD_eq_getD_getElem?,Array.getElem?_append_left (by simp;omega)];simp[h1]
   rw[e1];show aE _ _ _ ((vs.toArray++Array.replicate (fn.ntmps-vs.toArray.size) undef).getD t undef);rw[e2];unfold aE;refine aU.mono (fun b o x hx=>⟨hC b o x hx,fun s c h=>absurd h (z3 _ _ _),.inr hx⟩) _ v h2
  ·by_cases ht2:t<A.length+(fn.ntmps-A.length)
   ·have e1:(A.map AV.p++List.replicate (fn.ntmps-A.length) AV.undef).getD t .any= .undef:=by
     rw[List.getD_eq_getElem?_getD,List.getElem?_append_right (by simp;omega),List.getElem?_replicate,if_pos (by simp;omega)];rfl
    have e2:(vs.toArray++Array.replicate (fn.ntmps-vs.toArray.size) undef).getD t undef=undef:=by
     rw[Array.getD_eq_getD_getElem?,Array.getElem?_append_right (by simp;omega),Array.getElem?_replicate]
     split<;>rfl
    rw[e1];show aE _ _ _ ((vs.toArray++Array.replicate (fn.ntmps-vs.toArray.size) undef).getD t undef);rw[e2];unfold aE;rfl
   ·have e1:(A.map AV.p++List.replicate (fn.ntmps-A.length) AV.undef).getD t .any= .any:=by
     rw[List.getD_eq_getElem?_getD,List.getElem?_eq_none (by simp;omega)];rfl
    rw[e1];unfold aE;trivial
 ·rintro e a w' ⟨F,L,N,hq,hS⟩;have:=hR e a w' F L N hq hS;cases e<;>first|exact this|exact this.elim
theorem Nm{f:FuncId}{fn:Func}{c:Code}{A:List PV}{ty esz:Nat}{cells:List PV}{m:Nat}{ys:List PV}(hok:qL P f=true)(he:esz≠0)(hf:P.funcs[f]? =some fn)(hb:fn.body=some c)
  {L0:Sto} {N0:Nat} (h0:uR L0 N0) (h:awp P c (aED P fn.results.toList ty esz cells m ys) (A.map .p++List.replicate (fn.ntmps-A.length) .undef) L0 N0):Xy P f A ty esz cells m ys:=by
 refine⟨hok,he,fun C w vs hC hrep=>Fs hf hb hC hrep h0 h ?_⟩
 rintro e a w' F L N hq ⟨⟨ρ,s1,s2,s3⟩,s4,s5,s6,s7⟩;have fin:oC P fn.results.toList F L (fun l=>(∃s,l= .own s 0 m::ys.map .p/\L s=some ⟨ty,esz,cells.map .p⟩)\/(l= .nil::ys.map .p/\m=0/\cells=[]))->a.defers=[]/\∃v,(results fn a.tmps).run P w'= .ok v w'/\∃v' us q c,Ending.returned v= .returned (Up v' us)/\Below w.heap.size w w'/\bO (uB C w.heap.size q w') ys us/\
   ((q=none/\v'= .slice none 0 0/\m=0/\cells=[]/\c=0)\/∃b arr,q=some b/\v'= .slice (some ⟨b,0,none⟩) m c/\m<=c/\w.heap.size<=b/\w'.heap[b]? =some (.cells arr ty (0,0))/\
     arr.size=c*esz/\cells.length<=arr.size/\c<=maxLen/\∀(i:Nat) x,cells[i]? =some x->∃u,arr[i]? =some u/\u.oneCell'=true/\aU (uB C w.heap.size q w') x u):=by
  intro h;refine⟨s5,?_⟩;obtain⟨l,us,hl,h2,h3⟩:=rH s1 s3 _ _ h;have hres:(results fn a.tmps).run P w'= .ok (if h:us.toArray.size=1 then us.toArray[0]else .tuple us.toArray) w':=by
   rw[qB,Array.mapM_eq_mapM_toList];simp only[Sem.run_bind,Sem.run_map,h2,Result.andThen_ok,Sem.run_pure]
  refine⟨_,hres,?_⟩;have hout:∀v us',us=v::us'->(if h:us.toArray.size=1 then us.toArray[0]else Value.tuple us.toArray)=Up v us':=by
   rintro v us' rfl;cases us' with
   |nil=>rfl
   |cons u us'=>rw[dif_neg (by simp)];rfl
  rcases hl with⟨s,rfl,hs⟩|⟨rfl,hm,hc⟩
  ·unfold aP at h3;obtain⟨v,us',rfl,hv,hys⟩:=h3;unfold aE at hv;obtain⟨q,c,hρ,hcase⟩:=hv;have hkeep:∀b o x,aJ C w.heap.size w' ρ L b o x->uB C w.heap.size q w' b o x:=by
    rintro b o x ⟨e1,e2,e3|e3⟩
    ·refine .inr ⟨e3,fun hq=> ?_,e1⟩
     subst hq;have:=e2 s c hρ;rw[hs]at this;cases this
    ·exact .inl e3
   refine⟨v,us',q,c,by rw[hout v us' rfl],s7,bO.mono hkeep _ _ (aP.Ca hys),?_⟩
   obtain⟨q2,c2,hρ2,hob⟩:=s1.ob s _ hs;rw[hρ]at hρ2;cases hρ2;rcases hcase with⟨h1,h4,h5,_⟩|⟨b,o',c',h1,h4,h5,h6,h7⟩
   ·rcases hob with⟨_,⟨_,h8,h9⟩|⟨h8,_⟩⟩|⟨b,arr,h8,_⟩
    ·exact .inl ⟨h1,h4,h5,by simpa using h8,h9⟩
    ·exact absurd h8 he
    ·rw[h1]at h8;cases h8
   ·obtain⟨rfl,rfl⟩:=h7 rfl;rcases hob with⟨h8,_⟩|⟨b2,arr,h8,h9,h10⟩
    ·rw[h1]at h8;cases h8
    ·rw[h1]at h8;cases h8;obtain⟨r1,r2,r3⟩:=h10.row he;refine .inr ⟨b,arr,h1,h4,h5,h9,h10.blk,r1,by simpa using r2,r3,fun i x hi=> ?_⟩
     obtain⟨u,k1,k2,k3⟩:=h10.cells i (.p x) (by show(cells.map AV.p)[i]? =_;rw[List.getElem?_map,hi];rfl)
     unfold aE at k3;exact⟨u,k1,k2,aU.mono hkeep x u k3⟩
  ·unfold aP at h3;obtain⟨v,us',rfl,hv,hys⟩:=h3;unfold aE at hv;refine⟨v,us',none,0,by rw[hout v us' rfl],s7,bO.mono ?_ _ _ (aP.Ca hys),.inl ⟨rfl,hv,hm,hc,rfl⟩⟩
   rintro b o x ⟨e1,e2,e3|e3⟩
   ·exact .inr ⟨e3,(fun h=>by cases h),e1⟩
   ·exact .inl e3
 cases e<;>first|exact fin hq|exact hq.elim
end
end Go.Proofs.YtdaeofhdgabhjaaGreat
namespace Go.Proofs.YtdaeofhdgabhjaaGreat
open Go.RowKit
theorem aBu{ρ:Ren}{C:bI}{A:List AV}{vs:List Value}{n:Nat}(h:aP ρ C A vs)(t:Nat):aE ρ C ((A++List.replicate (n-A.length) AV.undef).getD t .any) ((vs.toArray++Array.replicate (n-vs.toArray.size) Go.undef).getD t Go.undef):=by
 have hlen:=h.length;by_cases ht:t<A.length
 ·obtain⟨v,h1,h2⟩:=h.get _ _ t A[t] (List.getElem?_eq_getElem ht);have e1:(A++List.replicate (n-A.length) AV.undef).getD t .any=A[t] :=by
   rw[List.getD_eq_getElem?_getD,List.getElem?_append_left ht];simp[ht]
  have e2:(vs.toArray++Array.replicate (n-vs.toArray.size) Go.undef).getD t Go.undef=v:=by
   rw[Array.getD_eq_getD_getElem?,Array.getElem?_append_left (by simp;omega)];simp[h1]
  rw[e1,e2];exact h2
 ·by_cases ht2:t<A.length+(n-A.length)
  ·have e1:(A++List.replicate (n-A.length) AV.undef).getD t .any= .undef:=by
    rw[List.getD_eq_getElem?_getD,List.getElem?_append_right (by omega),List.getElem?_replicate,if_pos (by omega)];rfl
   have e2:(vs.toArray++Array.replicate (n-vs.toArray.size) Go.undef).getD t Go.undef=Go.undef:=by
    rw[Array.getD_eq_getD_getElem?,Array.getElem?_append_right (by simp;omega),Array.getElem?_replicate]
    split<;>rfl
   rw[e1,e2];unfold aE;rfl
  ·have e1:(A++List.replicate (n-A.length) AV.undef).getD t .any= .any:=by
    rw[List.getD_eq_getElem?_getD,List.getElem?_eq_none (by simp;omega)];rfl
   rw[e1];unfold aE;trivial
abbrev iC:Nat:=sit 0 0
theorem Br{C0:bI}{B:Nat}{ρ:Ren}{w:World}{L:Sto}{S:List AV}(h:StR C0 ρ L w B)(hL:L iC=some ⟨0,0,.undef::S⟩):
  ∃c,ρ iC=some (none,c)/\(∀(i:Nat) x,(AV.undef::S)[i]? =some x->∀v,C0 B i v->aE ρ (aJ C0 B w ρ L) x v)/\∀i v,C0 B i v->i<(AV.undef::S).length:=by
 obtain⟨q,c,h1,⟨rfl,h2|⟨_,h2⟩⟩|⟨b,arr,_,_,h2⟩⟩:=h.ob _ _ hL
 ·exact absurd rfl h2.1
 ·rcases h2 with⟨_,h3,h4⟩|⟨h3,_⟩
  ·exact⟨c,h1,h3,h4⟩
  ·cases h3
 ·obtain⟨v,_,h3,h4⟩:=h2.cells 0 .undef rfl;unfold aE at h4;subst h4;cases h3
theorem StR.stk{C0 C1:bI}{B:Nat}{ρ:Ren}{w:World}{L:Sto}{S T:List AV}(h:StR C0 ρ L w B)(hL:L iC=some ⟨0,0,.undef::S⟩)(h1:∀b,b<B->C1 b=C0 b)
  (h2:∀(i:Nat) x,T[i]? =some x->∀v,C1 B i v->aE ρ (aJ C0 B w ρ L) x v) (h3:∀i v,C1 B i v->i<T.length):
  (∀b o x,aJ C1 B w ρ (cB L [(iC,some ⟨0,0,T⟩)]) b o x↔aJ C0 B w ρ L b o x)/\StR C1 ρ (cB L [(iC,some ⟨0,0,T⟩)]) w B:=by
 obtain⟨c0,k1,_,_⟩:=Br h hL;have hup:∀s,s≠iC->cB L [(iC,some ⟨0,0,T⟩)] s=L s:=by intro s hs;unfold cB;simp[List.lookup,beq_eq_false_iff_ne.2 hs]
 have hus:cB L [(iC,some ⟨0,0,T⟩)] iC=some ⟨0,0,T⟩:=by unfold cB;simp[List.lookup]
 have hC:∀b o x,aJ C1 B w ρ (cB L [(iC,some ⟨0,0,T⟩)]) b o x↔aJ C0 B w ρ L b o x:=by
  intro b o x;have e:(B<=b\/C1 b o x)↔(B<=b\/C0 b o x):=by
   rcases Nat.lt_or_ge b B with hb|hb
   ·rw[h1 b hb]
   ·exact⟨fun _=> .inl hb,fun _=> .inl hb⟩
  unfold aJ;rw[e];refine and_congr_right fun _=>and_congr_left fun _=>forall_congr' fun s=>forall_congr' fun c=> ?_
  by_cases hs:s=iC
  ·subst hs;constructor
   ·intro _ e;rw[k1]at e;cases e
   ·intro _ e;rw[k1]at e;cases e
  ·rw[hup s hs]
 refine⟨hC,?_,?_,?_⟩
 ·intro s o ho;by_cases hs:s=iC
  ·subst hs;rw[hus]at ho;cases ho;exact⟨none,c0,k1,.inl ⟨rfl,.inr ⟨rfl,.inl ⟨rfl,fun i x hi v hv=>aE.mono (fun _ _ h=>h) (fun b o x h=>(hC b o x).2 h) x v (h2 i x hi v hv),h3⟩⟩⟩⟩
  ·rw[hup s hs]at ho;obtain⟨q,c,e1,⟨e2,e3|⟨e3,e4⟩⟩|⟨b,arr,e2,e3,e4⟩⟩:=h.ob s o ho
   ·exact⟨q,c,e1,.inl ⟨e2,.inl e3⟩⟩
   ·refine⟨q,c,e1,.inl ⟨e2,.inr ⟨e3,?_⟩⟩⟩;rcases e4 with⟨f1,f2,f3⟩|⟨f1,f2,es,clock,f3,f4⟩
    ·subst e2;exact absurd (h.mpi s iC o _ c c0 ho hL e3 rfl e1 k1 (.inr ⟨f1,rfl⟩)) hs
    ·exact .inr ⟨f1,f2,es,clock,f3,aP.mono (fun _ _ h=>h) (fun b o x h=>(hC b o x).2 h) _ _ f4⟩
   ·refine⟨q,c,e1,.inr ⟨b,arr,e2,e3,e4.blk,e4.box,e4.row,fun i x hi=> ?_⟩⟩
    obtain⟨v,g1,g2,g3⟩:=e4.cells i x hi;exact⟨v,g1,g2,aE.mono (fun _ _ h=>h) (fun b o x h=>(hC b o x).2 h) x v g3⟩
 ·intro s s' o o' b c c' e1 e2 e3 e4;have n1:s≠iC:=fun e=>by subst e;rw[k1]at e3;cases e3
  have n2:s'≠iC:=fun e=>by subst e;rw[k1]at e4;cases e4
  rw[hup s n1]at e1;rw[hup s' n2]at e2;exact h.inj s s' o o' b c c' e1 e2 e3 e4
 ·intro s s' o o' c c' e1 e2 m1 m2 e3 e4 hT;have key:∀s o,cB L [(iC,some ⟨0,0,T⟩)] s=some o->∃o2,L s=some o2/\o2.ty=o.ty/\o2.esz=o.esz:=by
   intro s o ho;by_cases hs:s=iC
   ·subst hs;rw[hus]at ho;cases ho;exact⟨_,hL,rfl,rfl⟩
   ·rw[hup s hs]at ho;exact⟨o,ho,rfl,rfl⟩
  obtain⟨p,f1,f2,f3⟩:=key s o e1;obtain⟨p',f1',f2',f3'⟩:=key s' o' e2;exact h.mpi s s' p p' c c' f1 f1' (by rw[f3];exact m1) (by rw[f3'];exact m2) e3 e4 (by unfold Kl at*;rw[f2,f2'];exact hT)
variable {P:Program}
def Kj:List AV->AV
 |[] => .undef
 |[x] =>x
 |l=> .tup l
theorem Tf{C0:bI}{B:Nat}{fn:Func}{ρ:Ren}{σ:Nat->Option Ob}{a:Act}{w:World}{F:List AV}{K:List AV->Prop}(hs:StR C0 ρ σ w B)(hf:∀t,aE ρ (aJ C0 B w ρ σ) (F.getD t .any) (a.tmps.getD t Go.undef))(h:oC P fn.results.toList F σ K):
  ∃l v,K l/\(results fn a.tmps).run P w= .ok v w/\aE ρ (aJ C0 B w ρ σ) (Kj l) v:=by
 obtain⟨l,us,hl,h2,h3⟩:=rH hs hf _ _ h;have hres:(results fn a.tmps).run P w= .ok (if h:us.toArray.size=1 then us.toArray[0]else .tuple us.toArray) w:=by
  rw[qB,Array.mapM_eq_mapM_toList];simp only[Sem.run_bind,Sem.run_map,h2,Result.andThen_ok,Sem.run_pure]
 refine⟨l,_,hl,hres,?_⟩;match l,us,h3 with
 |[],us,h3=>unfold aP at h3;subst h3;show aE _ _ .undef _;unfold aE;rfl
 |[x],us,h3=>
  unfold aP at h3;obtain⟨v,r,rfl,h4,h5⟩:=h3;unfold aP at h5;subst h5;exact h4
 |x::y::l,us,h3=>
  have hlen:=h3.length;rw[dif_neg (by simp at hlen|-;omega)]
  show aE _ _ (.tup (x::y::l)) _;unfold aE;exact⟨us,rfl,h3⟩
def aHB(P:Program)(rs:List ResultVar)(d:Option Nat)(m n:Nat)(K:List AV->Sto->Nat->Prop):uF:=fun e Fc Lc Nc=>match e with
 | .normal| .ret=>oC P rs Fc Lc fun l=>∃S F2,Lc iC=some ⟨0,0,.undef::(S++F2)⟩/\S.length=m/\F2.length=n/\K (hU F2 d (Kj l)) (cB Lc [(iC,some ⟨0,0,.undef::S⟩)]) Nc
 |_=>False
theorem aA5{o:Oper}{c:Call}{f:Operand}{fid:FuncId}{fn:Func}{body:Code}{A S F:List AV}{L:Sto}{N:Nat}{K:List AV->Sto->Nat->Prop}(ho:o.op= .call c)(hc:c.callee= .value f)(hfv:kF F f= .p (.fn (.func fid) [] []))
  (hA:c.args.toList.map (kF F)=A) (hok:qL P fid=true) (hf:P.funcs[fid]? =some fn) (hb:fn.body=some body) (hL:L iC=some ⟨0,0,.undef::S⟩)
  (h:awp P body (aHB P fn.results.toList o.dst S.length F.length K) (A++List.replicate (fn.ntmps-A.length) .undef) (cB L [(iC,some ⟨0,0,.undef::(S++F)⟩)]) N):Ox P o F L N K:=by
 intro C0 B wI a w ⟨⟨ρ,s1,s2,s3⟩,s4,s5,s6,s7⟩;obtain⟨c0,k1,k2,k3⟩:=Br s1 hL
 let V:Nat->Value:=fun s=>a.tmps.getD s Go.undef
 have hev:∀x:Operand,aE ρ (aJ C0 B w ρ L) (kF F x) (bB V x):=fun x=>tM fun t _=>s3 t
 have hvf:bB V f= .func (.func fid) #[] #[] :=by
  have:=hev f;rw[hfv]at this;unfold aE aU at this;obtain⟨v1,v2,h1,h2,h3⟩:=this;unfold bO at h2 h3;rw[h1,h2,h3]
 have hrun:(execOp (bB V) o).run P w= .ok (.enter fid (c.args.toList.map (bB V)).toArray) w:=by
  unfold execOp;rw[ho];have e2: #[] ++Array.map (bB V) c.args++ #[] =(c.args.toList.map (bB V)).toArray:=by
   apply Array.toList_inj.1;simp
  simp only[resolve,hc,hvf,Deferred.ofValue,Sem.run_bind,Sem.run_pure,Result.andThen_ok,invoke,dN hok,e2]
 have hargs:aP ρ (aJ C0 B w ρ L) A (c.args.toList.map (bB V)):=by
  rw[<-hA];generalize c.args.toList=l;induction l with
  |nil=>simp only[List.map_nil];unfold aP;rfl
  |cons x l ih=>simp only[List.map_cons];unfold aP;exact⟨_,_,rfl,hev x,ih⟩
 let C1:bI:=fun b i v=>if b=B then(if i<(AV.undef::S).length then C0 B i v else a.tmps[i-(AV.undef::S).length]? =some v)else C0 b i v
 have hC1:∀b,b<B->C1 b=C0 b:=fun b hb=>by funext i v;exact if_neg (by omega)
 have hC1B:∀i v,C1 B i v->if i<(AV.undef::S).length then C0 B i v else a.tmps[i-(AV.undef::S).length]? =some v:=fun i v hv=>by
  have hv:(if B=B then(if i<(AV.undef::S).length then C0 B i v else a.tmps[i-(AV.undef::S).length]? =some v)else C0 B i v):=hv
  rwa[if_pos rfl]at hv
 obtain⟨hCC,hst⟩:=s1.stk (C1:=C1) (T:= .undef::(S++F)) hL hC1 (by
  intro i x hi v hv;have hv:=hC1B i v hv;rw[<-List.cons_append]at hi;split at hv
  ·rename_i hlt;rw[List.getElem?_append_left hlt]at hi;exact k2 i x hi v hv
  ·rename_i hlt;rw[List.getElem?_append_right (by omega)]at hi
   have:=s3 (i-(AV.undef::S).length);rw[List.getD_eq_getElem?_getD,hi,Array.getD_eq_getD_getElem?,hv]at this;exact this) (by
  intro i v hv;have hv:=hC1B i v hv;rw[<-List.cons_append,List.length_append];split at hv
  ·rename_i hlt;omega
  ·rename_i hlt;have:=(Array.getElem?_eq_some_iff.1 hv).1;omega)
 unfold bZ;rw[hrun];dsimp only;have hlen:=hargs.length;have hfin:∀(e:Exit) (a':Act) (w':World),(∃F' L' N',aHB P fn.results.toList o.dst S.length F.length K e F' L' N'/\St C1 B w F' L' N' a' w')->
   match e with| .normal| .ret=>a'.defers=[]/\∃v,(results fn a'.tmps).run P w'= .ok v w'/\∃v',Ending.returned v= .returned v'/\∃F' L' N',K F' L' N'/\St C0 B wI F' L' N' (a.put o.dst v') w'|_=>False:=by
  rintro e a' w' ⟨Fc,Lc,Nc,hq,⟨⟨ρ1,t1,t2,t3⟩,t4,t5,t6,t7⟩⟩;have fin:oC P fn.results.toList Fc Lc (fun l=>∃S2 F2,Lc iC=some ⟨0,0,.undef::(S2++F2)⟩/\S2.length=S.length/\F2.length=F.length/\K (hU F2 o.dst (Kj l)) (cB Lc [(iC,some ⟨0,0,.undef::S2⟩)]) Nc)->
    a'.defers=[]/\∃v,(results fn a'.tmps).run P w'= .ok v w'/\∃v',Ending.returned v= .returned v'/\∃F' L' N',K F' L' N'/\St C0 B wI F' L' N' (a.put o.dst v') w':=by
   intro hr;obtain⟨l,v,⟨S2,F2,hL2,hS2,hF2,hK⟩,hres,hrep⟩:=Tf t1 t3 hr;refine⟨t5,v,hres,v,rfl,_,_,Nc,hK,?_⟩;obtain⟨c1,j1,j2,j3⟩:=Br t1 hL2;have hl2:(AV.undef::S2).length=(AV.undef::S).length:=by simp[hS2]
   obtain⟨hCC2,hst2⟩:=t1.stk (C1:=C0) (T:= .undef::S2) hL2 (fun b hb=>(hC1 b hb).symm) (by
    intro i x hi v hv;have hlt:i<(AV.undef::S2).length:=(List.getElem?_eq_some_iff.1 hi).1;refine j2 i x (by rw[<-List.cons_append,List.getElem?_append_left hlt];exact hi) v ?_
    show(if B=B then(if i<(AV.undef::S).length then C0 B i v else a.tmps[i-(AV.undef::S).length]? =some v)else C0 B i v)
    rw[if_pos rfl,if_pos (by omega)];exact hv) (by
    intro i v hv;rw[hl2];exact k3 i v hv)
   have hfr:∀t,aE ρ1 (aJ C0 B w' ρ1 (cB Lc [(iC,some ⟨0,0,.undef::S2⟩)])) (F2.getD t .any) (a.tmps.getD t Go.undef):=by
    intro t;by_cases ht:t<F2.length
    ·have htm:t<a.tmps.size:=by rw[s6];omega
     have e1:F2.getD t .any=F2[t] :=by rw[List.getD_eq_getElem?_getD];simp[ht]
     have e2:a.tmps.getD t Go.undef=a.tmps[t] :=by rw[Array.getD_eq_getD_getElem?];simp[htm]
     rw[e1,e2];refine aE.mono (fun _ _ h=>h) (fun b o x h=>(hCC2 b o x).2 h) _ _ (j2 ((AV.undef::S).length+t) F2[t] (by rw[<-List.cons_append,List.getElem?_append_right (by omega),show(AV.undef::S).length+t-(AV.undef::S2).length=t by omega];simp[ht]) a.tmps[t] ?_)
     show(if B=B then(if(AV.undef::S).length+t<(AV.undef::S).length then C0 B ((AV.undef::S).length+t) _ else a.tmps[(AV.undef::S).length+t-(AV.undef::S).length]? =some _)else C0 B _ _)
     rw[if_pos rfl,if_neg (by omega),Nat.add_sub_cancel_left]
     simp[htm]
    ·rw[List.getD_eq_getElem?_getD,List.getElem?_eq_none (by omega)]
     show aE _ _ .any _;unfold aE;trivial
   refine⟨⟨ρ1,hst2,t2,fun t=> ?_⟩,t4,by cases hd:o.dst<;>exact s5,by rw[rO,hF2];cases hd:o.dst<;>simpa[Act.put]using s6,s7.trans t7⟩
   rw[Gb,Lr,s6];by_cases e:o.dst=some t/\t<F.length
   ·rw[if_pos (by rw[hF2];exact e),if_pos e]
    exact aE.mono (fun _ _ h=>h) (fun b o x h=>(hCC2 b o x).2 h) _ _ hrep
   ·rw[if_neg (by rw[hF2];exact e),if_neg e];exact hfr t
  cases e<;>first|exact fin hq|exact hq.elim
 refine calls_of_wp hf hb (wp_mono (yP (C0:=C1) (B:=B) (wI:=w) body _ _ _ _ _ _ h ?_) ?_)
 ·refine⟨⟨ρ,hst,s2,fun t=> ?_⟩,s4,rfl,by simp[hlen],Below.refl _ _⟩
  exact aE.mono (fun _ _ h=>h) (fun b o x h=>(hCC b o x).2 h) _ _ (aBu hargs t)
 ·intro e a' w' h;have:=hfin e a' w' h;cases e<;>first|exact this|exact this.elim
end Go.Proofs.YtdaeofhdgabhjaaGreat
namespace Go.Proofs.YtdaeofhdgabhjaaGreat
open Go.RowKit
abbrev Rf:=Nat->Option (Option Nat)
mutual
def cS(m:Rf):AV->AV->Prop
 | .any,_=>True
 | .p x,y=>y= .p x
 | .nil,y=>y= .nil
 | .undef,y=>y= .undef
 | .ptr s off,y=>∃o,m s=some (some o)/\y= .ptr o off
 | .own s o n,y=>(∃s',m s=some (some s')/\y= .own s' o n)\/(m s=some none/\y= .nil/\o=0/\n=0)
 | .agg l,y=>∃r,(y= .agg r\/∃q:List PV,y= .p (.agg q)/\r=q.map .p)/\dD m l r
 | .tup l,y=>∃r,(y= .tup r\/∃q:List PV,y= .p (.tup q)/\r=q.map .p)/\dD m l r
 | .fn f a b,y=>∃a2 b2,y= .fn f a2 b2/\dD m a a2/\dD m b b2
 | .mp s,y=>∃o,m s=some (some o)/\y= .mp o
def dD(m:Rf):List AV->List AV->Prop
 |[],r=>r=[]
 |x::l,r=>∃y r',r=y::r'/\cS m x y/\dD m l r'
end
def qJ(m:Rf)(ρ:Ren):Ren:=fun s=>match m s with
 |some (some o)=>ρ o
 |some none=>some (none,0)
 |none=>none
mutual
theorem oV{m:Rf}{ρ:Ren}{C C':bI}(hC:∀b o v,C b o v->C' b o v):∀(x y:AV) (v:Value),cS m x y->aE ρ C y v->aE (qJ m ρ) C' x v
 | .any,y,v,_,_=>by unfold aE;trivial
 | .p x,y,v,h,hv=>by unfold cS at h;subst h;unfold aE at*;exact aU.mono hC _ v hv
 | .nil,y,v,h,hv=>by unfold cS at h;subst h;unfold aE at*;exact hv
 | .undef,y,v,h,hv=>by unfold cS at h;subst h;unfold aE at*;exact hv
 | .ptr s off,y,v,h,hv=>by
   unfold cS at h;obtain⟨o,h1,rfl⟩:=h;unfold aE at*;obtain⟨b,c,h2,h3⟩:=hv;exact⟨b,c,by unfold qJ;rw[h1];exact h2,h3⟩
 | .own s o n,y,v,h,hv=>by
   unfold cS at h;rcases h with⟨s',h1,rfl⟩|⟨h1,rfl,rfl,rfl⟩
   ·unfold aE at*;obtain⟨q,c,h2,h3⟩:=hv;exact⟨q,c,by unfold qJ;rw[h1];exact h2,h3⟩
   ·unfold aE at*;exact⟨none,0,by unfold qJ;rw[h1],.inl ⟨rfl,hv,rfl,rfl⟩⟩
 | .agg l,y,v,h,hv=>by
   unfold cS at h;obtain⟨r,hy,hr⟩:=h;have:∃vs:List Value,v= .agg vs.toArray/\aP ρ C r vs/\lT vs:=by
    rcases hy with rfl|⟨q,rfl,rfl⟩
    ·unfold aE at hv;exact hv
    ·unfold aE aU at hv;obtain⟨vs,h1,h2,h3⟩:=hv;exact⟨vs,h1,h2.toA,h3⟩
   obtain⟨vs,h1,h2,h3⟩:=this;unfold aE;exact⟨vs,h1,mM hC l r vs hr h2,h3⟩
 | .tup l,y,v,h,hv=>by
   unfold cS at h;obtain⟨r,hy,hr⟩:=h;have:∃vs:List Value,v= .tuple vs.toArray/\aP ρ C r vs:=by
    rcases hy with rfl|⟨q,rfl,rfl⟩
    ·unfold aE at hv;exact hv
    ·unfold aE aU at hv;obtain⟨vs,h1,h2⟩:=hv;exact⟨vs,h1,h2.toA⟩
   obtain⟨vs,h1,h2⟩:=this;unfold aE;exact⟨vs,h1,mM hC l r vs hr h2⟩
 | .fn f a b,y,v,h,hv=>by
   unfold cS at h;obtain⟨a2,b2,rfl,h1,h2⟩:=h;unfold aE at*;obtain⟨vs1,vs2,h3,h4,h5⟩:=hv;exact⟨vs1,vs2,h3,mM hC a a2 vs1 h1 h4,mM hC b b2 vs2 h2 h5⟩
 | .mp s,y,v,h,hv=>by
   unfold cS at h;obtain⟨o,h1,rfl⟩:=h;unfold aE at*;obtain⟨c,h2,h3⟩:=hv;exact⟨c,by unfold qJ;rw[h1];exact h2,h3⟩
theorem mM{m:Rf}{ρ:Ren}{C C':bI}(hC:∀b o v,C b o v->C' b o v):∀(l r:List AV) (vs:List Value),dD m l r->aP ρ C r vs->aP (qJ m ρ) C' l vs
 |[],r,vs,h,hv=>by unfold dD at h;subst h;unfold aP at*;exact hv
 |x::l,r,vs,h,hv=>by
  unfold dD at h;obtain⟨y,r',rfl,h1,h2⟩:=h;unfold aP at*;obtain⟨v,vs',rfl,h3,h4⟩:=hv;exact⟨v,vs',rfl,oV hC x y v h1 h3,mM hC l r' vs' h2 h4⟩
end
theorem Ga{m:Rf}:∀{l r:List AV},dD m l r->l.length=r.length/\∀(i:Nat) x,l[i]? =some x->∃y,r[i]? =some y/\cS m x y
 |[],r,h=>by unfold dD at h;subst h;exact⟨rfl,fun i x h=>by simp at h⟩
 |x::l,r,h=>by
  unfold dD at h;obtain⟨y,r',rfl,h1,h2⟩:=h;obtain⟨h3,h4⟩:=Ga h2;refine⟨by simp[h3],fun i z hi=> ?_⟩
  cases i with
  |zero=>simp at hi;subst hi;exact⟨y,rfl,h1⟩
  |succ i=>simpa using h4 i z (by simpa using hi)
def vN(m:Rf)(ob' ob:Ob):Prop:=ob'.ty=ob.ty/\ob'.esz=ob.esz/\dD m ob'.cells ob.cells
theorem StR.rf{C0:bI}{B:Nat}{ρ:Ren}{w:World}{L L':Sto}(m:Rf)(hinj:∀s s' o,m s=some (some o)->m s'=some (some o)->s=s')
  (hL:∀s ob',L' s=some ob'->match m s with|some (some o)=>∃ob,L o=some ob/\vN m ob' ob|some none=>ob'.esz≠0/\ob'.cells=[] |none=>False) (s1:StR C0 ρ L w B):
  (∀b o v,aJ C0 B w ρ L b o v->aJ C0 B w (qJ m ρ) L' b o v)/\StR C0 (qJ m ρ) L' w B:=by
 have hCC:∀b o v,aJ C0 B w ρ L b o v->aJ C0 B w (qJ m ρ) L' b o v:=by
  intro b o v ⟨e1,e2,e3⟩;refine⟨e1,fun s c hs=> ?_,e3⟩
  cases hl:L' s with
  |none=>rfl
  |some ob'=>
   have:=hL s ob' hl;unfold qJ at hs;split at hs
   ·rename_i o' ho;rw[ho]at this;obtain⟨ob,h1,_⟩:=this;rw[e2 o' c hs]at h1;cases h1
   ·cases hs
   ·cases hs
 refine⟨hCC,?_,?_,?_⟩
 ·intro s ob' hl;have:=hL s ob' hl;split at this
  ·rename_i o ho;obtain⟨ob,h1,h2,h3,h4⟩:=this;obtain⟨q,c,k1,k2⟩:=s1.ob o ob h1;refine⟨q,c,by unfold qJ;rw[ho];exact k1,?_⟩
   obtain⟨g1,g2⟩:=Ga h4;rcases k2 with⟨k2,⟨k3,k4,k5⟩|⟨k3,k4⟩⟩|⟨b,arr,k2,k3,k4⟩
   ·exact .inl ⟨k2,.inl ⟨by rw[h3];exact k3,List.length_eq_zero_iff.1 (by rw[g1,k4];rfl),k5⟩⟩
   ·refine .inl ⟨k2,.inr ⟨by rw[h3];exact k3,?_⟩⟩
    rcases k4 with⟨e1,e2,e3⟩|⟨e1,e2,es,clock,e3,e4⟩
    ·refine .inl ⟨by rw[h2];exact e1,fun i x' hi v hv=> ?_,by rw[g1];exact e3⟩
     obtain⟨x,hx,hr⟩:=g2 i x' hi;exact oV hCC _ _ v hr (e2 i x hx v hv)
    ·exact .inr ⟨by rw[h2];exact e1,e2,es,clock,e3,mM hCC _ _ _ h4 e4⟩
   ·refine .inr ⟨b,arr,k2,k3,⟨by rw[h2];exact k4.blk,fun hz=>by rw[g1];exact k4.box (by rw[<-h3];exact hz),fun hz=>by rw[h3,g1];exact k4.row (by rw[<-h3];exact hz),?_⟩⟩
    intro i x' hi;obtain⟨x,hx,hr⟩:=g2 i x' hi;obtain⟨v,g3,g4,g5⟩:=k4.cells i x hx;exact⟨v,g3,g4,oV hCC _ _ v hr g5⟩
  ·rename_i ho;exact⟨none,0,by unfold qJ;rw[ho],.inl ⟨rfl,.inl ⟨this.1,this.2,rfl⟩⟩⟩
  ·exact this.elim
 ·intro s s' o o' b c c' h1 h2 h3 h4;have g1:=hL s o h1;have g2:=hL s' o' h2;unfold qJ at h3 h4;split at h3
  ·rename_i x hx;rw[hx]at g1;obtain⟨ob,k1,_⟩:=g1;split at h4
   ·rename_i x' hx';rw[hx']at g2;obtain⟨ob',k2,_⟩:=g2;have:=s1.inj x x' ob ob' b c c' k1 k2 h3 h4;subst this;exact hinj _ _ _ hx hx'
   ·cases h4
   ·cases h4
  ·cases h3
  ·cases h3
 ·intro s s' o o' c c' h1 h2 m1 m2 h3 h4 hT;have g1:=hL s o h1;have g2:=hL s' o' h2;unfold qJ at h3 h4;split at h3
  ·rename_i x hx;rw[hx]at g1;obtain⟨ob,k1,k2,k3,_⟩:=g1;split at h4
   ·rename_i x' hx';rw[hx']at g2;obtain⟨ob',q1,q2,q3,_⟩:=g2;have:=s1.mpi x x' ob ob' c c' k1 q1 (by rw[<-k3];exact m1) (by rw[<-q3];exact m2) h3 h4 (by unfold Kl at*;rw[<-k2,<-q2];exact hT)
    subst this;exact hinj _ _ _ hx hx'
   ·rename_i e;rw[e]at g2;exact absurd m2 g2.1
   ·cases h4
  ·rename_i e;rw[e]at g1;exact absurd m1 g1.1
  ·cases h3
theorem Sv{F F':List AV}{L L':Sto}{N N':Nat}(m:Rf)(hlt:∀s x,m s=some x->cls s<N')(hinj:∀s s' o,m s=some (some o)->m s'=some (some o)->s=s')
  (hlen:F'.length=F.length) (hF:∀t,t<F.length->cS m (F'.getD t .any) (F.getD t .any))
  (hL:∀s ob',L' s=some ob'->match m s with|some (some o)=>∃ob,L o=some ob/\vN m ob' ob|some none=>ob'.esz≠0/\ob'.cells=[] |none=>False):kE F L N F' L' N':=by
 intro C0 B wI a w ⟨⟨ρ,s1,s2,s3⟩,s4,s5,s6,s7⟩;obtain⟨hCC,hst⟩:=s1.rf m hinj hL;refine⟨⟨qJ m ρ,hst,?_,?_⟩,s4,s5,by rw[s6,hlen],s7⟩
 ·intro s hs;cases hr:m s with
  |none=>unfold qJ;rw[hr]
  |some x=>have:=hlt s x hr;omega
 ·intro t;by_cases ht:t<F.length
  ·exact oV hCC _ _ _ (hF t ht) (s3 t)
  ·rw[List.getD_eq_getElem?_getD,List.getElem?_eq_none (by omega)]
   show aE _ _ .any _;unfold aE;trivial
variable {P:Program}
def aEW(P:Program)(f:FuncId)(A:List PV)(r:AV)(σ1:Sto):Prop:=qL P f=true/\
 ∀(C:bI) (w:World) (vs:List Value),(∀b o v,C b o v->w.cell? ⟨b,o,none⟩=some v)->bO C A vs->
  Calls P f vs.toArray w fun e w'=>∃v ρ1,e= .returned v/\StR C ρ1 σ1 w' w.heap.size/\aE ρ1 (aJ C w.heap.size w' ρ1 σ1) r v/\Below w.heap.size w w'
def Kw(m:Rf)(L' L:Sto):Prop:=(∀s s' o,m s=some (some o)->m s'=some (some o)->s=s')/\
 ∀s ob',L' s=some ob'->match m s with|some (some o)=>∃ob,L o=some ob/\vN m ob' ob|some none=>ob'.esz≠0/\ob'.cells=[] |none=>False
def aEB(P:Program)(rs:List ResultVar)(r:AV)(σ1:Sto):uF:=fun e F L _=>match e with
 | .normal| .ret=>oC P rs F L fun l=>∃m:Rf,Kw m σ1 L/\cS m r (Kj l)
 |_=>False
theorem Nl{f:FuncId}{fn:Func}{c:Code}{A:List PV}{r:AV}{σ1:Sto}(hok:qL P f=true)(hf:P.funcs[f]? =some fn)(hb:fn.body=some c)
  {L0:Sto} {N0:Nat} (h0:uR L0 N0) (h:awp P c (aEB P fn.results.toList r σ1) (A.map .p++List.replicate (fn.ntmps-A.length) .undef) L0 N0):aEW P f A r σ1:=by
 refine⟨hok,fun C w vs hC hrep=>Fs hf hb hC hrep h0 h ?_⟩
 rintro e a w' F L N hq ⟨⟨ρ,s1,s2,s3⟩,s4,s5,s6,s7⟩;have fin:oC P fn.results.toList F L (fun l=>∃m:Rf,Kw m σ1 L/\cS m r (Kj l))->a.defers=[]/\∃v,(results fn a.tmps).run P w'= .ok v w'/\∃v' ρ1,Ending.returned v= .returned v'/\StR C ρ1 σ1 w' w.heap.size/\aE ρ1 (aJ C w.heap.size w' ρ1 σ1) r v'/\Below w.heap.size w w':=by
  intro h;obtain⟨l,v,⟨m,⟨h1,h2⟩,h3⟩,hres,hrep⟩:=Tf s1 s3 h;obtain⟨k1,k2⟩:=s1.rf m h1 h2;exact⟨s5,v,hres,v,_,rfl,k2,oV k1 _ _ v h3 hrep,s7⟩
 cases e<;>first|exact fin hq|exact hq.elim
variable {o:Oper} {E:Operand->AV} {σ:Nat->Option Ob} {n:Nat}
theorem Xh{c:Call}{f:Operand}{fid:FuncId}{A:List PV}{r r':AV}{σ1:Sto}{m1:Rf}{W':List (Nat×Option Ob)}(ho:o.op= .call c)(hc:c.callee= .value f)(hfv:E f= .p (.fn (.func fid) [] []))
  (hA:cK (c.args.toList.map E)=some A) (hS:aEW P fid A r σ1) (hcl:∀s x,m1 s=some x->cls s=n) (hWn:∀s,W'.lookup s≠none->cls s=n/\W'.lookup s≠some none) (hR:Kw m1 (fun s=>(W'.lookup s).join) σ1)
  (hty:∀s ob,W'.lookup s=some (some ob)->¬(ob.esz=0/\ob.ty=0)) (hr:cS m1 r' r):bM P o E σ n r' [] W':=by
 have hfm:f∈o.op.operands.toList:=by rw[ho];simp[Op.operands,Call.operands,hc]
 have ham:∀x∈c.args.toList,x∈o.op.operands.toList:=by intro x hx;rw[ho];simp[Op.operands,Call.operands];exact .inr (by simpa using hx)
 intro C0 ρ g V w B hs hB _ hn hgn hE;have hargs:∀l:List Operand,(∀x∈l,x∈o.op.operands.toList)->aP ρ (aJ C0 B w ρ g) (l.map E) (l.map (bB V)):=by
  intro l;induction l with
  |nil=>intro _;simp only[List.map_nil];unfold aP;rfl
  |cons x l ih=>
   intro hx;simp only[List.map_cons];unfold aP;exact⟨_,_,rfl,hE x (hx x List.mem_cons_self),ih fun y hy=>hx y (List.mem_cons_of_mem _ hy)⟩
 have hall:=kY hA (hargs _ ham);have hvf:bB V f= .func (.func fid) #[] #[] :=by
  have:=hE f hfm;rw[hfv]at this;unfold aE aU at this;obtain⟨v1,v2,h1,h2,h3⟩:=this;unfold bO at h2 h3;rw[h1,h2,h3]
 obtain⟨hok,hcalls⟩:=hS;have hrun:(execOp (bB V) o).run P w= .ok (.enter fid (c.args.toList.map (bB V)).toArray) w:=by
  unfold execOp;rw[ho];have e2: #[] ++Array.map (bB V) c.args++ #[] =(c.args.toList.map (bB V)).toArray:=by
   apply Array.toList_inj.1;simp
  simp only[resolve,hc,hvf,Deferred.ofValue,Sem.run_bind,Sem.run_pure,Result.andThen_ok,invoke,dN hok,e2]
 have hlive:∀s ob b c,g s=some ob->ρ s=some (some b,c)->b<w.heap.size:=by
  intro s ob b c e1 e2;obtain⟨_,arr,e3⟩:=hs.at e1 e2;exact e3.lt
 unfold bZ;rw[hrun];dsimp only;refine(hcalls (aJ C0 B w ρ g) w _ (fun b o v h=>h.1) hall).mono ?_
 rintro e w' ⟨v,ρ1,rfl,t1,t2,hbel⟩;obtain⟨j1,j2⟩:=t1.rf m1 hR.1 hR.2;have hold:∀b,b<w.heap.size->w'.heap[b]? =w.heap[b]? :=fun b hb=>hbel.block b hb
 generalize hρL:qJ m1 ρ1=ρL at*;have hLn:∀s q,ρL s=some q->cls s=n:=by
  intro s q hq;rw[<-hρL]at hq;unfold qJ at hq;cases hm:m1 s with
  |none=>rw[hm]at hq;cases hq
  |some x=>exact hcl s x hm
 let ρ':Ren:=fun s=>if cls s=n then ρL s else ρ s
 have hρn:∀s,cls s=n->ρ' s=ρL s:=fun s h=>if_pos h
 have hρs:∀s,cls s≠n->ρ' s=ρ s:=fun s h=>if_neg h
 have hL':∀s ob,W'.lookup s=some (some ob)->(fun s=>(W'.lookup s).join) s=some ob:=fun s ob h=>by show(W'.lookup s).join=_;rw[h];rfl
 have hup:∀s,W'.lookup s=none->cB g W' s=g s:=fun s h=>by unfold cB;rw[h]
 have hupn:∀s,cls s≠n->cB g W' s=g s:=fun s h=>hup s (by
  cases hl:W'.lookup s with
  |none=>rfl
  |some x=>exact absurd (hWn s (by rw[hl];simp)).1 h)
 have hnew:∀s ob,cB g W' s=some ob->cls s=n->W'.lookup s=some (some ob):=by
  intro s ob h hs';unfold cB at h;cases hl:W'.lookup s with
  |none=>rw[hl]at h;rw[hgn s hs']at h;cases h
  |some x=>rw[hl]at h;dsimp only at h;rw[h]
 have hext:∀s q,ρ s=some q->ρ' s=some q:=fun s q hq=>by
  rw[hρs s (fun e=>by rw[hn s e]at hq;cases hq)];exact hq
 have hextL:∀s q,ρL s=some q->ρ' s=some q:=fun s q hq=>by rw[hρn s (hLn s q hq)];exact hq
 have hge:∀s ob b c,W'.lookup s=some (some ob)->ρL s=some (some b,c)->w.heap.size<=b:=fun s ob b c h1 h2=>(j2.at (hL' s ob h1) h2).1
 have hmono:∀b o' x,aJ C0 B w ρ g b o' x->aJ C0 B w' ρ' (cB g W') b o' x:=by
  intro b o' x ⟨e1,e2,e3⟩;have hb:b<w.heap.size:=World.block_lt_of_cell? w ⟨b,o',none⟩ e1;refine⟨(World.cell?_of_block (hold b hb)).trans e1,fun s c' e4=> ?_,e3⟩
  by_cases hsn:cls s=n
  ·rw[hρn s hsn]at e4;cases hu:cB g W' s with
   |none=>rfl
   |some ob=>have:=hge s ob b c' (hnew s ob hu hsn) e4;omega
  ·rw[hρs s hsn]at e4;rw[hupn s hsn];exact e2 s c' e4
 have hCL:∀b o' x,aJ (aJ C0 B w ρ g) w.heap.size w' ρL (fun s=>(W'.lookup s).join) b o' x->aJ C0 B w' ρ' (cB g W') b o' x:=by
  intro b o' x ⟨e1,e2,e3⟩;refine⟨e1,fun s c' e4=> ?_,?_⟩
  ·by_cases hsn:cls s=n
   ·rw[hρn s hsn]at e4;have:=e2 s c' e4;cases hu:cB g W' s with
    |none=>rfl
    |some ob=>have h2:=hL' s ob (hnew s ob hu hsn);rw[this]at h2;cases h2
   ·rw[hρs s hsn]at e4;rw[hupn s hsn];rcases e3 with e3|e3
    ·cases hg:g s with
     |none=>rfl
     |some ob=>have:=hlive s ob b c' hg e4;omega
    ·exact e3.2.1 s c' e4
  ·rcases e3 with e3|e3
   ·exact .inl (Nat.le_trans hB e3)
   ·exact e3.2.2
 refine⟨_,rfl,ρ',hρs,hmono,?_,aE.mono hextL hCL _ _ (by rw[<-hρL];exact oV (by rw[hρL];exact j1) _ _ _ hr t2),hbel.mono hB⟩
 refine hs.stepG (fun s ob _ hg=>hρs s (fun e=>by rw[hgn s e]at hg;cases hg)) hext hmono (fun s ob b c' _ e2 e3=>hold b (hlive s ob b c' e2 e3)) (fun s ob c' es clock _ _ _ _ _ h=>hold c' (iT h)) ?_
 intro s ob hso;have hsn:=(hWn s (by rw[hso];simp)).1
 obtain⟨q,c',h1,⟨h2,h3|⟨h3,h4⟩⟩|⟨b,arr,h2,h3,h4⟩⟩:=j2.ob s ob (hL' s ob hso)
 ·exact⟨q,c',by rw[hρn s hsn];exact h1,.inl ⟨h2,h3⟩⟩
 ·refine⟨q,c',by rw[hρn s hsn];exact h1,.inr (.inl ⟨h2,h3,?_,?_⟩)⟩
  ·rcases h4 with⟨h5,_⟩|⟨h5,h6,es,clock,h7,h8⟩
   ·exact absurd ⟨h3,h5⟩ (hty s ob hso)
   ·exact .inr ⟨h5,Nat.le_trans hB h6,es,clock,h7,aP.mono hextL hCL _ _ h8⟩
  ·intro s' ob' c2 hne hu he hρ2 hT;have hT1:ob.ty=1/\ob'.ty=1/\c'=c2:=by
    rcases hT with hT|hT
    ·exact hT
    ·exact absurd ⟨h3,hT.1⟩ (hty s ob hso)
   by_cases hsn':cls s'=n
   ·rw[hρn s' hsn']at hρ2;subst h2;exact hne (j2.mpi s s' ob ob' c' c2 (hL' s ob hso) (hL' s' ob' (hnew s' ob' hu hsn')) h3 he h1 hρ2 hT).symm
   ·rw[hρs s' hsn']at hρ2;rw[hupn s' hsn']at hu;obtain⟨q2,c3,k1,⟨_,⟨k2,_⟩|⟨_,k2⟩⟩|⟨b,arr,k2,_⟩⟩:=hs.ob s' ob' hu
    ·exact k2 he
    ·rw[hρ2]at k1;cases k1;rcases k2 with⟨k3,_⟩|⟨_,_,es,clock,k3,_⟩
     ·rw[hT1.2.1]at k3;cases k3
     ·have hlt:=iT k3;rcases h4 with⟨h5,_⟩|⟨_,h6,_⟩
      ·exact absurd ⟨h3,h5⟩ (hty s ob hso)
      ·have:=hT1.2.2;omega
    ·rw[hρ2]at k1;cases k1;cases k2
 ·refine⟨q,c',by rw[hρn s hsn];exact h1,.inr (.inr ⟨b,arr,h2,Nat.le_trans hB h3,⟨h4.blk,h4.box,h4.row,fun i x hi=> ?_⟩,?_⟩)⟩
  ·obtain⟨u,g1,g2,g3⟩:=h4.cells i x hi;exact⟨u,g1,g2,aE.mono hextL hCL x u g3⟩
  ·intro s' ob' c2 hne hu hρ2;subst h2;by_cases hsn':cls s'=n
   ·rw[hρn s' hsn']at hρ2;exact hne (j2.inj s s' ob ob' b c' c2 (hL' s ob hso) (hL' s' ob' (hnew s' ob' hu hsn')) h1 hρ2).symm
   ·rw[hρs s' hsn']at hρ2;rw[hupn s' hsn']at hu;have:=hlive s' ob' b c2 hu hρ2;omega
end Go.Proofs.YtdaeofhdgabhjaaGreat
