/- What the statements about triangulations stand on: contracts of functions, plain laws. Part 2 of 6, no condition of its own. (N22 N23 E1 E3 G1 G2 G3 G4 G5 G6 G7 G8 G9 N16 X1 X2 X3 X4 N24) -/
import Derived.Test.YtdaeofhdgabhjaaGreatCC1
import Derived.MapKept
import Derived.IntWalk
namespace Go.Proofs.YtdaeofhdgabhjaaGreat
open Go.RowKit
def agI(xs:List Int):Value:= .agg (xs.map (Value.int .i64)).toArray
structure MKey(P:Program)(k:TypeId)(m:Nat):Prop where
 check:∀(w:World) (em:Bool) (xs:List Int),xs.length=m->(Instr.checkKey em 10000 k (agI xs)).run P w= .ok () w
 eq:∀(w:World) (xs ys:List Int),xs.length=m->ys.length=m->(Op.equal k (agI xs) (agI ys)).run P w= .ok (xs==ys) w
 now:∃d,P.underlying k=some d/\∀a b:Array Value,Instr.sameNow d (.agg a) (.agg b)=none
variable {P:Program}
def kO(es:List MapEntry)(ks:List (List Int×Value)):Prop:=es.map (fun e=>(e.key,e.val))=ks.map fun q=>(agI q.1,q.2)
theorem Ow{k:TypeId}{m:Nat}(K:MKey P k m)(w:World)(xs:List Int)(hx:xs.length=m):∀(es:List MapEntry) (ks:List (List Int×Value)) (i:Nat),kO es ks->(∀q∈ks,q.1.length=m)->
  ((Instr.findAsking k (agI xs) es i).run P w= .ok none w/\∀q∈ks,q.1≠xs)\/∃j v,(Instr.findAsking k (agI xs) es i).run P w= .ok (some (i+j,v)) w/\ks[j]? =some (xs,v)
 |[],ks,i,h,_=>by
  unfold kO at h;have:ks=[] :=by simpa using h.symm
  subst this;exact .inl ⟨rfl,fun q hq=>by cases hq⟩
 |e::es,ks,i,h,hl=>by
  cases ks with
  |nil=>unfold kO at h;simp at h
  |cons q ks=>
   unfold kO at h;simp only[List.map_cons,List.cons.injEq,Prod.mk.injEq]at h;obtain⟨⟨h1,h2⟩,h3⟩:=h;unfold Instr.findAsking;simp only[Sem.run_bind,h1,K.eq w xs q.1 hx (hl q List.mem_cons_self),Result.andThen_ok];by_cases hq:xs=q.1
   ·right;refine⟨0,q.2,?_,by rw[hq];rfl⟩
    rw[if_pos (by rw[hq];exact beq_self_eq_true _),h2];rfl
   ·rw[if_neg (by simpa using hq)]
    rcases Ow K w xs hx es ks (i+1) h3 (fun q hq=>hl q (List.mem_cons_of_mem _ hq))with⟨h4,h5⟩|⟨j,v,h4,h5⟩
    ·exact .inl ⟨h4,fun q' hq'=>by rcases List.mem_cons.1 hq' with rfl|hq';exact fun e=>hq e.symm;exact h5 q' hq'⟩
    ·exact .inr ⟨j+1,v,by rw[h4,show i+1+j=i+(j+1) by omega],h5⟩
theorem Ov{k:TypeId}{m:Nat}(K:MKey P k m)(w:World)(xs:List Int)(hx:xs.length=m)(es:List MapEntry)(ks:List (List Int×Value))(h:kO es ks)(hl:∀q∈ks,q.1.length=m):
  ((Instr.findKey k (agI xs) es).run P w= .ok none w/\∀q∈ks,q.1≠xs)\/∃j v,(Instr.findKey k (agI xs) es).run P w= .ok (some (j,v)) w/\ks[j]? =some (xs,v):=by
 obtain⟨d,hd,hn⟩:=K.now;unfold Instr.findKey;simp only[Sem.run_bind,run_underlying hd,Result.andThen_ok];cases es with
 |nil=>
  left;unfold kO at h;have:ks=[] :=by simpa using h.symm
  subst this;exact⟨rfl,fun q hq=>by cases hq⟩
 |cons e es=>
  have h1:Instr.findNow d (agI xs) (e::es) 0=none:=by
   unfold Instr.findNow;cases ks with
   |nil=>unfold kO at h;simp at h
   |cons q ks=>
    unfold kO at h;simp only[List.map_cons,List.cons.injEq,Prod.mk.injEq]at h;rw[h.1.1];unfold agI;rw[hn]
  rw[h1];simpa using Ow K w xs hx (e::es) ks 0 h hl
theorem Gy(xs:List Int):Instr.sameBits 10000 (agI xs) (agI xs)=true:=by
 unfold agI Instr.sameBits;simp only[beq_self_eq_true,Bool.true_and,List.all_eq_true];rintro⟨x,y⟩ h;obtain⟨i,hi,e⟩:=List.getElem_of_mem h;simp only[List.getElem_zip,Prod.mk.injEq]at e;simp only[List.getElem_map]at e;obtain⟨rfl,rfl⟩:=e;simp[Instr.sameBits]
theorem Yr(xs:List Int)(w:World):(Instr.keyThatStays (agI xs) (agI xs)).run P w= .ok (agI xs) w:=by
 unfold Instr.keyThatStays;rw[if_pos (Gy xs)];rfl
def lO(ks:List (List Int×AV)):List AV:=ks.flatMap fun q=>[.p (.agg (rZ q.1)),q.2]
theorem Ol{C:bR}:∀{xs:List Int} {vs:List Value},bZ C (rZ xs) vs->vs=xs.map (Value.int .i64)
 |[],vs,h=>by unfold rZ bZ at h;exact h
 |x::xs,vs,h=>by
  unfold rZ at h;simp only[List.map_cons]at h;unfold bZ at h;obtain⟨v,r,rfl,h1,h2⟩:=h;unfold aZ at h1;rw[h1,Ol (xs:=xs) h2];rfl
theorem Kz{ρ:Ren}{C:bR}{xs:List Int}{v:Value}(h:aO ρ C (.p (.agg (rZ xs))) v):v=agI xs:=by
 unfold aO aZ at h;obtain⟨vs,rfl,h1,_⟩:=h;rw[Ol h1];rfl
theorem aB4{ρ:Ren}{C:bR}(xs:List Int):aO ρ C (.p (.agg (rZ xs))) (agI xs):=by
 unfold aO aZ;refine⟨_,rfl,?_,fun u hu=> ?_⟩
 ·induction xs with
  |nil=>unfold rZ bZ;rfl
  |cons x xs ih=>unfold rZ;simp only[List.map_cons];unfold bZ;exact⟨_,_,rfl,by unfold aZ;rfl,ih⟩
 ·obtain⟨x,_,rfl⟩:=List.mem_map.1 hu;rfl
theorem Dy{ρ:Ren}{C:bR}:∀{ks:List (List Int×AV)} {es:List MapEntry},aW ρ C (lO ks) (es.flatMap fun e=>[e.key,e.val])->
  ∃kv:List (List Int×Value),kO es kv/\kv.length=ks.length/\∀(j:Nat) q,ks[j]? =some q->∃v,kv[j]? =some (q.1,v)/\aO ρ C q.2 v
 |[],es,h=>by
  unfold lO at h;simp only[List.flatMap_nil]at h;unfold aW at h;cases es with
  |nil=>exact⟨[],rfl,rfl,fun j q hq=>by simp at hq⟩
  |cons e es=>simp at h
 |q::ks,es,h=>by
  unfold lO at h;simp only[List.flatMap_cons,List.cons_append,List.nil_append]at h;cases es with
  |nil=>simp only[List.flatMap_nil]at h;unfold aW at h;obtain⟨v,r,h1,_⟩:=h;cases h1
  |cons e es=>
   simp only[List.flatMap_cons,List.cons_append,List.nil_append]at h;unfold aW at h;obtain⟨v,r,h1,h2,h3⟩:=h;cases h1;unfold aW at h3;obtain⟨v,r,h1,h4,h5⟩:=h3;cases h1;obtain⟨kv,g1,g2,g3⟩:=Dy (ks:=ks) (es:=es) h5;refine⟨(q.1,e.val)::kv,?_,by simp[g2],?_⟩
   ·unfold kO at*;simp only[List.map_cons,g1,Kz h2]
   ·intro j q' hj;cases j with
    |zero=>simp at hj;subst hj;exact⟨e.val,rfl,h4⟩
    |succ j=>exact g3 j q' (by simpa using hj)
theorem Wh{ρ:Ren}{C:bR}:∀{ks:List (List Int×AV)} {es:List MapEntry} {kv:List (List Int×Value)},kO es kv->kv.length=ks.length->(∀(j:Nat) q,ks[j]? =some q->∃v,kv[j]? =some (q.1,v)/\aO ρ C q.2 v)->
  aW ρ C (lO ks) (es.flatMap fun e=>[e.key,e.val])
 |[],es,kv,h,hl,_=>by
  have:kv=[] :=List.length_eq_zero_iff.1 hl;subst this;unfold kO at h;have:es=[] :=by simpa using h
  subst this;unfold lO;simp only[List.flatMap_nil];unfold aW;rfl
 |q::ks,es,kv,h,hl,hk=>by
  cases kv with
  |nil=>simp at hl
  |cons p kv=>
   cases es with
   |nil=>unfold kO at h;simp at h
   |cons e es=>
    unfold kO at h;simp only[List.map_cons,List.cons.injEq,Prod.mk.injEq]at h;obtain⟨⟨h1,h2⟩,h3⟩:=h;obtain⟨v,h4,h5⟩:=hk 0 q rfl;simp at h4;subst h4;unfold lO;simp only[List.flatMap_cons,List.cons_append,List.nil_append];unfold aW;refine⟨_,_,rfl,by rw[h1];exact aB4 q.1,?_⟩
    unfold aW;exact⟨_,_,rfl,by rw[h2];exact h5,Wh (ks:=ks) (kv:=kv) h3 (by simpa using hl) fun j q' hj=>by simpa using hk (j+1) q' (by simpa using hj)⟩
def vQ:List (List Int×AV)->List Int->AV->AV
 |[],_,z=>z
 |q::ks,xs,z=>if q.1=xs then q.2 else vQ ks xs z
def vL:List (List Int×AV)->List Int->AV->List (List Int×AV)
 |[],xs,v=>[(xs,v)]
 |q::ks,xs,v=>if q.1=xs then(xs,v)::ks else q::vL ks xs v
def Mq(ks:List (List Int×AV)):Prop:=ks.Pairwise fun p q=>p.1≠q.1
theorem Ik:∀{ks:List (List Int×AV)} {xs:List Int} {z:AV},(∀q∈ks,q.1≠xs)->vQ ks xs z=z
 |[],_,_,_=>rfl
 |q::ks,xs,z,h=>by unfold vQ;rw[if_neg (h q List.mem_cons_self)];exact Ik fun q hq=>h q (List.mem_cons_of_mem _ hq)
theorem Dv:∀{ks:List (List Int×AV)} {xs:List Int} {v:AV},(∀q∈ks,q.1≠xs)->vL ks xs v=ks++[(xs,v)]
 |[],_,_,_=>rfl
 |q::ks,xs,z,h=>by unfold vL;rw[if_neg (h q List.mem_cons_self),Dv fun q hq=>h q (List.mem_cons_of_mem _ hq)];rfl
theorem Oj:∀{ks:List (List Int×AV)} {xs:List Int} {v z:AV} {j:Nat},Mq ks->ks[j]? =some (xs,v)->vQ ks xs z=v
 |[],_,_,_,_,_,h=>by simp at h
 |q::ks,xs,v,z,0,_,h=>by simp at h;subst h;unfold vQ;rw[if_pos rfl]
 |q::ks,xs,v,z,j+1,hd,h=>by
  have h:ks[j]? =some (xs,v):=by simpa using h
  unfold Mq at hd;rw[List.pairwise_cons]at hd;unfold vQ;rw[if_neg (hd.1 _ (List.mem_of_getElem? h))];exact Oj hd.2 h
theorem Vv:∀{ks:List (List Int×AV)} {xs:List Int} {u v:AV} {j:Nat},Mq ks->ks[j]? =some (xs,u)->vL ks xs v=ks.set j (xs,v)
 |[],_,_,_,_,_,h=>by simp at h
 |q::ks,xs,u,v,0,_,h=>by simp at h;subst h;unfold vL;rw[if_pos rfl];rfl
 |q::ks,xs,u,v,j+1,hd,h=>by
  have h:ks[j]? =some (xs,u):=by simpa using h
  unfold Mq at hd;rw[List.pairwise_cons]at hd;unfold vL;rw[if_neg (hd.1 _ (List.mem_of_getElem? h)),Vv hd.2 h];rfl
variable {o:Oper} {E:Operand->AV} {σ:Nat->Option Ob} {n:Nat}
theorem Pz{t:TypeId}(ho:o.op= .makeMap t none):bX P o E σ n (.mp (sit n 0)) [] [(sit n 0,some ⟨1,0,[]⟩)] :=by
 intro C0 ρ g V w B hs hB _ hn hgn hE;have hn:=hn _ (eA n 0);have hgn:=hgn _ (eA n 0);have hcl:∀s,cls s≠n->s≠sit n 0:=fun s h e=>h (by rw[e];exact eA n 0)
 generalize sit n 0=m at*;have hrun:(execOp (bI V) o).run P w= .ok (.value (.map (some w.heap.size))) (w.alloc (.map #[] 0)):=by
  unfold execOp;rw[ho];rfl
 unfold cF;rw[hrun];dsimp only;have hblk:(w.alloc (.map #[] 0)).heap[w.heap.size]? =some (.map #[] 0):=heap_alloc_new w _
 let ρ':Ren:=fun s=>if s=m then some (none,w.heap.size)else ρ s
 have hext:∀s q,ρ s=some q->ρ' s=some q:=by
  intro s q hq;show(if s=m then _ else _)=_
  rw[if_neg (fun e=>by rw[e,hn]at hq;cases hq)];exact hq
 have hold:∀b,b<w.heap.size->(w.alloc (.map #[] 0)).heap[b]? =w.heap[b]? :=fun b hb=>Below.heap_alloc w _ b hb
 have hlk:∀s,s≠m->[(m,some (⟨1,0,[]⟩:Ob))].lookup s=none:=by intro s hs;simp[List.lookup,beq_eq_false_iff_ne.2 hs]
 have hup:∀s,s≠m->cG g [(m,some ⟨1,0,[]⟩)] s=g s:=by intro s hs;unfold cG;rw[hlk s hs]
 have hmono:∀b o' x,aP C0 B w ρ g b o' x->aP C0 B (w.alloc (.map #[] 0)) ρ' (cG g [(m,some ⟨1,0,[]⟩)]) b o' x:=by
  intro b o' x ⟨e1,e2,e0⟩;have hb:b<w.heap.size:=World.block_lt_of_cell? w ⟨b,o',none⟩ e1;refine⟨(World.cell?_of_block (hold b hb)).trans e1,?_,e0⟩;intro s c' e3;by_cases e:s=m
  ·subst e;simp only[ρ',if_true]at e3;cases e3
  ·simp only[ρ',if_neg e]at e3;rw[hup s e];exact e2 s c' e3
 refine⟨ρ',fun s hs=>by simp only[ρ',if_neg (hcl s hs)],hmono,?_,by unfold aO;exact⟨w.heap.size,by simp[ρ'],rfl⟩,(Below.refl B w).alloc hB _⟩
 refine hs.stepG ?_ hext hmono ?_ (fun s ob c es clock _ _ _ _ _ hc=>hold c (kD hc)) ?_
 ·intro s ob' e1 e2;have:s≠m:=fun e=>by rw[e,hgn]at e2;cases e2
  simp only[ρ',if_neg this]
 ·intro s ob' b c' _ e2 e3;obtain⟨_,arr,e4⟩:=hs.at e2 e3;exact hold b e4.lt
 ·intro s ob' e;have e1:s=m:=by
   rcases Nat.decEq s m with h|h
   ·rw[hlk s h]at e;cases e
   ·exact h
  subst e1;have e2:ob'=⟨1,0,[]⟩:=by simp[List.lookup]at e;exact e.symm
  subst e2;refine⟨none,w.heap.size,by simp[ρ'],.inr (.inl ⟨rfl,rfl,.inr ⟨rfl,hB, #[],0,hblk,by show aW _ _ [] [];unfold aW;rfl⟩,?_⟩)⟩
  intro s' o' c' hne e3 e4 e5 hT;rw[hup s' hne]at e3;simp only[ρ',if_neg hne]at e5;obtain⟨q2,c3,k1,⟨_,⟨k2,_⟩|⟨_,k2⟩⟩|⟨b,arr,k2,_⟩⟩:=hs.ob s' o' e3
  ·exact k2 e4
  ·rw[e5]at k1;cases k1;rcases hT with⟨_,hT2,hT3⟩|⟨hT,_⟩
   ·rcases k2 with⟨k3,_⟩|⟨_,_,es,clock,k3,_⟩
    ·rw[hT2]at k3;cases k3
    ·have:=kD k3;omega
   ·cases hT
  ·rw[e5]at k1;cases k1;cases k2
theorem Oh{C0:bR}{B:Nat}{ρ:Ren}{g:Nat->Option Ob}{w:World}{s c:Nat}{cells:List AV}(hs:StR C0 ρ g w B)(hg:g s=some ⟨1,0,cells⟩)(hρ:ρ s=some (none,c)):
  B<=c/\∃es clock,w.heap[c]? =some (Obj.map es clock)/\aW ρ (aP C0 B w ρ g) cells (es.toList.flatMap fun e=>[e.key,e.val]):=by
 obtain⟨q2,c3,k1,⟨_,⟨k2,_⟩|⟨_,k2⟩⟩|⟨b,arr,k2,_⟩⟩:=hs.ob s _ hg
 ·exact absurd rfl k2
 ·rw[hρ]at k1;cases k1;rcases k2 with⟨k3,_⟩|⟨_,k3,es,clock,k4,k5⟩
  ·cases k3
  ·exact⟨k3,es,clock,k4,k5⟩
 ·rw[hρ]at k1;cases k1;cases k2
theorem Tb{t k e:TypeId}{x i:Operand}{m s:Nat}{ks:List (List Int×AV)}{xs:List Int}{z:AV}{zv:Value}(ho:o.op= .lookup t x i false)(ht:P.underlying t=some (.map k e))(K:MKey P k m)(hz:∀w,(zeroValue e).run P w= .ok zv w)(hzr:∀ρ C,aO ρ C z zv)
  (hx:E x= .mp s) (hi:E i= .p (.agg (rZ xs))) (hxs:xs.length=m) (hob:σ s=some ⟨1,0,lO ks⟩) (hks:∀q∈ks,q.1.length=m) (hd:Mq ks):bX P o E σ n (vQ ks xs z) [s] [] :=by
 refine bX.pure fun C0 ρ g V w B hs hR hE=> ?_
 have hgs:g s=some ⟨1,0,lO ks⟩:=(hR s (by simp)).trans hob
 have hvx:=hE x (by rw[ho];simp[Op.operands])
 have hvi:=hE i (by rw[ho];simp[Op.operands])
 rw[hx]at hvx;rw[hi]at hvi;unfold aO at hvx;obtain⟨c,hρ,hvx⟩:=hvx;obtain⟨_,es,clock,hb,hrep⟩:=Oh hs hgs hρ;obtain⟨kv,g1,g2,g3⟩:=Dy hrep;have hkl:∀q∈kv,q.1.length=m:=by
  intro q hq;obtain⟨j,hj,e1⟩:=List.getElem_of_mem hq;have hj':j<ks.length:=by omega
  obtain⟨v,h1,_⟩:=g3 j ks[j] (List.getElem?_eq_getElem hj');rw[List.getElem?_eq_getElem hj,e1]at h1;cases h1;exact hks _ (List.getElem_mem hj')
 have hrun:∃v,(Instr.lookup t (.map (some c)) (agI xs) false).run P w= .ok v w/\aO ρ (aP C0 B w ρ g) (vQ ks xs z) v:=by
  rcases Ov K w xs hxs es.toList kv g1 hkl with⟨h1,h2⟩|⟨j,v,h1,h2⟩
  ·refine⟨zv,by simp[Instr.lookup,run_underlying ht,MapKept.run_getObj_map hb,K.check w _ xs hxs,h1,hz,Result.andThen],?_⟩
   rw[Ik]
   ·exact hzr _ _
   ·intro q hq e;obtain⟨j,hj,e1⟩:=List.getElem_of_mem hq;obtain⟨v,h3,_⟩:=g3 j q (by rw[List.getElem?_eq_getElem hj,e1])
    exact h2 _ (List.mem_of_getElem? h3) e
  ·refine⟨v,by simp[Instr.lookup,run_underlying ht,MapKept.run_getObj_map hb,K.check w _ xs hxs,h1,Result.andThen],?_⟩
   have hj:j<ks.length:=by rw[<-g2];exact(List.getElem?_eq_some_iff.1 h2).1
   obtain⟨q,hq⟩:∃q,ks[j]? =some q:=⟨_,List.getElem?_eq_getElem hj⟩;obtain⟨u,h3,h4⟩:=g3 j q hq;rw[h2]at h3;simp only[Option.some.injEq,Prod.mk.injEq]at h3;obtain⟨e1,rfl⟩:=h3;rw[Oj (v:=q.2) hd (by rw[hq,e1])]
   exact h4
 obtain⟨v,h1,h2⟩:=hrun;unfold cF execOp;rw[ho];simp only[hvx,Kz hvi,Sem.run_bind,h1,Result.andThen_ok,Sem.run_pure];exact⟨trivial,h2⟩
theorem kO.get{es:List MapEntry}{kv:List (List Int×Value)}(h:kO es kv){j:Nat}{q:List Int×Value}(hq:kv[j]? =some q):∃e,es[j]? =some e/\e.key=agI q.1/\e.val=q.2:=by
 unfold kO at h;have:=congrArg (fun l=>l[j]?) h
 simp only[List.getElem?_map,hq,Option.map_some,Option.map_eq_some_iff,Prod.mk.injEq]at this;obtain⟨e,h1,h2,h3⟩:=this;exact⟨e,h1,h2,h3⟩
theorem Hc{t k e:TypeId}{x i y:Operand}{m s:Nat}{ks:List (List Int×AV)}{xs:List Int}(ho:o.op= .mapUpdate t x i y)(ht:P.underlying t=some (.map k e))(K:MKey P k m)
  (hx:E x= .mp s) (hi:E i= .p (.agg (rZ xs))) (hxs:xs.length=m) (hob:σ s=some ⟨1,0,lO ks⟩) (hks:∀q∈ks,q.1.length=m) (hd:Mq ks):
  bX P o E σ n .undef [s] [(s,some ⟨1,0,lO (vL ks xs (E y))⟩)] :=by
 intro C0 ρ g V w B hs hB hR hn hgn hE;have hgs:g s=some ⟨1,0,lO ks⟩:=(hR s (by simp)).trans hob
 have hvx:=hE x (by rw[ho];simp[Op.operands])
 have hvi:=hE i (by rw[ho];simp[Op.operands])
 have hvy:=hE y (by rw[ho];simp[Op.operands])
 rw[hx]at hvx;rw[hi]at hvi;unfold aO at hvx;obtain⟨c,hρ,hvx⟩:=hvx;obtain⟨hBc,es,clock,hb,hrep⟩:=Oh hs hgs hρ;obtain⟨kv,g1,g2,g3⟩:=Dy hrep;have hkl:∀q∈kv,q.1.length=m:=by
  intro q hq;obtain⟨j,hj,e1⟩:=List.getElem_of_mem hq;have hj':j<ks.length:=by omega
  obtain⟨v,h1,_⟩:=g3 j ks[j] (List.getElem?_eq_getElem hj');rw[List.getElem?_eq_getElem hj,e1]at h1;cases h1;exact hks _ (List.getElem_mem hj')
 generalize hV:bI V y=vy at*;have hrun:∃(es':Array MapEntry) (clock':Nat),(Instr.mapUpdate t (.map (some c)) (agI xs) vy).run P w= .ok () {w with heap:=w.heap.setIfInBounds c (.map es' clock')}/\
   ∃kv',kO es'.toList kv'/\kv'.length=(vL ks xs (E y)).length/\∀(ρ':Ren) (C':bR),(∀s q,ρ s=some q->ρ' s=some q)->(∀b o x,aP C0 B w ρ g b o x->C' b o x)->∀(j:Nat) q,(vL ks xs (E y))[j]? =some q->∃v,kv'[j]? =some (q.1,v)/\aO ρ' C' q.2 v:=by
  rcases Ov K w xs hxs es.toList kv g1 hkl with⟨h1,h2⟩|⟨j,v,h1,h2⟩
  ·refine⟨es.push ⟨agI xs,vy,clock⟩,clock+1,?_,kv++[(xs,vy)],?_,?_,?_⟩
   ·simp[Instr.mapUpdate,run_underlying ht,MapKept.run_getObj_map hb,K.check w _ xs hxs,h1,MapKept.run_setObj_map _ hb,Result.andThen]
   ·unfold kO at*;simp only[Array.toList_push,List.map_append,g1,List.map_cons,List.map_nil]
   ·rw[Dv]
    ·simp[g2]
    ·intro q hq e;obtain⟨j,hj,e1⟩:=List.getElem_of_mem hq;obtain⟨v,h3,_⟩:=g3 j q (by rw[List.getElem?_eq_getElem hj,e1])
     exact h2 _ (List.mem_of_getElem? h3) e
   ·intro ρ' C' hρ' hC' j q hq;rw[Dv]at hq
    ·rcases Nat.lt_or_ge j ks.length with hj|hj
     ·rw[List.getElem?_append_left hj]at hq;obtain⟨v,h3,h4⟩:=g3 j q hq;exact⟨v,by rw[List.getElem?_append_left (by omega)];exact h3,aO.mono hρ' hC' _ _ h4⟩
     ·rw[List.getElem?_append_right hj]at hq;have hj2:j-ks.length=0:=by
       have:=(List.getElem?_eq_some_iff.1 hq).1;simp at this;omega
      rw[hj2]at hq;simp at hq;subst hq;exact⟨vy,by rw[List.getElem?_append_right (by omega),g2,hj2];rfl,aO.mono hρ' hC' _ _ hvy⟩
    ·intro q hq e;obtain⟨j,hj,e1⟩:=List.getElem_of_mem hq;obtain⟨v,h3,_⟩:=g3 j q (by rw[List.getElem?_eq_getElem hj,e1])
     exact h2 _ (List.mem_of_getElem? h3) e
  ·obtain⟨e0,h5,h6,h7⟩:=g1.get h2;have hj:j<ks.length:=by rw[<-g2];exact(List.getElem?_eq_some_iff.1 h2).1
   obtain⟨q0,hq0⟩:∃q,ks[j]? =some q:=⟨_,List.getElem?_eq_getElem hj⟩;have hq1:q0.1=xs:=by
    obtain⟨u,h3,_⟩:=g3 j q0 hq0;rw[h2]at h3;simp only[Option.some.injEq,Prod.mk.injEq]at h3;exact h3.1.symm
   have hput:vL ks xs (E y)=ks.set j (xs,E y):=Vv (u:=q0.2) hd (by rw[hq0,<-hq1])
   have hes:es[j]? =some e0:=by simpa using h5
   refine⟨es.modify j (fun e=>{e with key:=agI xs,val:=vy}),clock,?_,kv.set j (xs,vy),?_,?_,?_⟩
   ·simp[Instr.mapUpdate,run_underlying ht,MapKept.run_getObj_map hb,K.check w _ xs hxs,h1,hes,h6,Yr,MapKept.run_setObj_map _ hb,Result.andThen]
   ·unfold kO at*;rw[List.map_set,<-g1];have e1:(es.modify j (fun e=>{e with key:=agI xs,val:=vy})).toList=es.toList.set j {e0 with key:=agI xs,val:=vy}:=by
     apply List.ext_getElem?;intro i;rw[List.getElem?_set];by_cases hij:j=i
     ·subst hij;have:j<es.toList.length:=(List.getElem?_eq_some_iff.1 h5).1;rw[if_pos rfl,if_pos this];simp[hes]
     ·rw[if_neg hij];simp[hij]
    rw[e1,List.map_set]
   ·rw[hput];simp[g2]
   ·intro ρ' C' hρ' hC' i q hq;rw[hput,List.getElem?_set]at hq;split at hq
    ·rename_i e1;subst e1;have hq:some (xs,E y)=some q:=by simpa[hj]using hq
     cases hq;exact⟨vy,by rw[List.getElem?_set,if_pos rfl,if_pos (by omega)],aO.mono hρ' hC' _ _ hvy⟩
    ·rename_i hij;obtain⟨v,h3,h4⟩:=g3 i q hq;exact⟨v,by rw[List.getElem?_set,if_neg hij];exact h3,aO.mono hρ' hC' _ _ h4⟩
 obtain⟨es',clock',hr,kv',f1,f2,f3⟩:=hrun;have hclt:=kD hb;unfold cF execOp;rw[ho];simp only[hvx,Kz hvi,hV,Sem.run_bind,hr,Result.andThen_ok,Sem.run_pure];have hold:∀b,b≠c->({w with heap:=w.heap.setIfInBounds c (.map es' clock')}:World).heap[b]? =w.heap[b]? :=by
  intro b hbc;show(w.heap.setIfInBounds c _)[b]? =_;rw[Array.getElem?_setIfInBounds,if_neg (fun e=>hbc e.symm)]
 have hnb:({w with heap:=w.heap.setIfInBounds c (.map es' clock')}:World).heap[c]? =some (Obj.map es' clock'):=by
  show(w.heap.setIfInBounds c _)[c]? =_;rw[Array.getElem?_setIfInBounds,if_pos rfl,if_pos hclt]
 have hsize:({w with heap:=w.heap.setIfInBounds c (.map es' clock')}:World).heap.size=w.heap.size:=by simp
 have hos:({w with heap:=w.heap.setIfInBounds c (.map es' clock')}:World).os=w.os/\({w with heap:=w.heap.setIfInBounds c (.map es' clock')}:World).tape=w.tape/\({w with heap:=w.heap.setIfInBounds c (.map es' clock')}:World).output=w.output:=⟨rfl,rfl,rfl⟩
 generalize ({w with heap:=w.heap.setIfInBounds c (.map es' clock')}:World)=w' at*
 have hlk:∀s',s'≠s->[(s,some (⟨1,0,lO (vL ks xs (E y))⟩:Ob))].lookup s'=none:=by intro s' hs';simp[List.lookup,beq_eq_false_iff_ne.2 hs']
 have hup:∀s',s'≠s->cG g [(s,some ⟨1,0,lO (vL ks xs (E y))⟩)] s'=g s':=by intro s' hs';unfold cG;rw[hlk s' hs']
 have hmono:∀b' o' x',aP C0 B w ρ g b' o' x'->aP C0 B w' ρ (cG g [(s,some ⟨1,0,lO (vL ks xs (E y))⟩)]) b' o' x':=by
  intro b' o' x' ⟨e1,e2,e0⟩;have hne:b'≠c:=by
   intro e3;subst e3;unfold World.cell? at e1;simp[hb]at e1
  refine⟨(World.cell?_of_block (hold b' hne)).trans e1,?_,e0⟩;intro s' c' e3;by_cases e:s'=s
  ·subst e;rw[hρ]at e3;cases e3
  ·rw[hup s' e];exact e2 s' c' e3
 refine⟨ρ,fun _ _=>rfl,hmono,?_,by unfold aO;rfl,⟨hos.1,hos.2.1,hos.2.2,by rw[hsize];exact Nat.le_refl _,fun k hk=>hold k (by omega)⟩⟩
 refine hs.stepG (fun _ _ _ _=>rfl) (fun _ _ h=>h) hmono ?_ ?_ ?_
 ·intro s' o' b' c' e1 e2 e3;refine hold b' fun e=> ?_
  obtain⟨_,arr,e4⟩:=hs.at e2 e3;exact yZ hb e4.blk e.symm
 ·intro s' o' c' es2 clock2 e1 e2 e3 e4 e5 e6;refine hold c' fun e=> ?_
  subst e;have:=hs.mpi s' s o' _ c' c' e2 hgs e3 rfl e5 hρ (.inl ⟨e4,rfl,rfl⟩);subst this;simp[List.lookup]at e1
 ·intro s' o' e;have e1:s'=s:=by
   rcases Nat.decEq s' s with h|h
   ·rw[hlk s' h]at e;cases e
   ·exact h
  subst e1;have e2:o'=⟨1,0,lO (vL ks xs (E y))⟩:=by simp[List.lookup]at e;exact e.symm
  subst e2;refine⟨none,c,hρ,.inr (.inl ⟨rfl,rfl,.inr ⟨rfl,hBc,es',clock',hnb,Wh f1 f2 (f3 ρ _ (fun _ _ h=>h) hmono)⟩,?_⟩)⟩
  intro s2 o2 c2 hne e3 e4 e5 hT;rw[hup s2 hne]at e3;exact hne (hs.mpi s' s2 _ o2 c c2 hgs e3 rfl e4 hρ e5 (by
   rcases hT with⟨_,h2,h3⟩|⟨h1,_⟩
   ·exact .inl ⟨rfl,h2,h3⟩
   ·cases h1)).symm
end Go.Proofs.YtdaeofhdgabhjaaGreat
namespace Go.Proofs.YtdaeofhdgabhjaaGreat
open Go.RowKit
def iS:Nat->(Nat->Option Ob)->AV->Option PV
 |_,_,.p x=>some x
 |_,_,.nil=>some (.sl 0 [])
 |_,_,.own .. =>some .junk
 |_,_,.any=>some .junk
 |0,_,.ptr .. =>some .junk
 |d+1,σ,.ptr s off=>(σ s).bind fun ob=>(iC (iS d σ) ob.cells).map fun l=> .pro l off
 |d+1,σ,.agg l=>(iC (iS d σ) l).map .agg
 |d+1,σ,.fn f a b=>(iC (iS d σ) a).bind fun x=>(iC (iS d σ) b).map fun y=> .fn f x y
 |_,_,_=>none
def gR:Nat->(Nat->Option Ob)->AV->List Nat
 |0,_,_=>[]
 |d+1,σ,.ptr s _=>s::(match σ s with|some ob=>bT (gR d σ) ob.cells|none=>[])
 |d+1,σ,.agg l=>bT (gR d σ) l
 |d+1,σ,.fn _ a b=>bT (gR d σ) a++bT (gR d σ) b
 |_,_,_=>[]
theorem Xp{C0:bR}{ρ:Ren}{g σ:Nat->Option Ob}{w:World}{B s0 b0 c0:Nat}{o0:Ob}(hs:StR C0 ρ g w B)(hg0:g s0=some o0)(hρ0:ρ s0=some (some b0,c0)):
  ∀(d:Nat) (x:AV) (y:PV) (v:Value),iS d σ x=some y->(∀s∈gR d σ x,s≠s0/\g s=σ s)->aO ρ (aP C0 B w ρ g) x v->aZ (fun b o u=>w.cell? ⟨b,o,none⟩=some u/\b≠b0) y v:=by
 have hfull:∀b o v,aP C0 B w ρ g b o v->w.cell? ⟨b,o,none⟩=some v/\b≠b0:=fun b o v h=>⟨h.1,fun e=>by subst e;have:=h.2.1 s0 c0 hρ0;rw[hg0]at this;cases this⟩
 intro d;induction d with
 |zero=>
  intro x y v h hr hx;unfold iS at h;split at h<;>first|(cases h;done)|skip
  ·cases h;unfold aO at hx;exact aZ.mono hfull _ v hx
  ·cases h;unfold aO at hx;unfold aZ;exact⟨none,0,hx,Nat.le_refl _,fun _=>⟨rfl,rfl⟩,fun ad e=>by cases e⟩
  ·cases h;unfold aZ;trivial
  ·cases h;unfold aZ;trivial
  ·cases h;unfold aZ;trivial
  all_goals (rename_i e;cases e)
 |succ d ih=>
  have ihL:∀(l:List AV) (m:List PV) (vs:List Value),iC (iS d σ) l=some m->(∀s∈bT (gR d σ) l,s≠s0/\g s=σ s)->aW ρ (aP C0 B w ρ g) l vs->bZ (fun b o u=>w.cell? ⟨b,o,none⟩=some u/\b≠b0) m vs:=by
   intro l m vs h hr hv;obtain⟨h1,h2⟩:=jT h;refine bZ.of _ _ (by rw[<-h1];exact hv.length) fun i y hi=> ?_
   have hlt:i<l.length:=by rw[h1];exact(List.getElem?_eq_some_iff.1 hi).1
   obtain⟨y',h3,h4⟩:=h2 i l[i] (List.getElem?_eq_getElem hlt);rw[hi]at h3;cases h3;obtain⟨v,h5,h6⟩:=hv.get _ _ i l[i] (List.getElem?_eq_getElem hlt);exact⟨v,h5,ih _ _ v h4 (fun s hs'=>hr s (iH (List.getElem_mem hlt) hs')) h6⟩
  intro x y v h hr hx;unfold iS at h;split at h<;>first|(cases h;done)|skip
  ·cases h;unfold aO at hx;exact aZ.mono hfull _ v hx
  ·cases h;unfold aO at hx;unfold aZ;exact⟨none,0,hx,Nat.le_refl _,fun _=>⟨rfl,rfl⟩,fun ad e=>by cases e⟩
  ·cases h;unfold aZ;trivial
  ·cases h;unfold aZ;trivial
  ·rename_i e;cases e
  ·rename_i σ _ _ _ d' s off e;cases e;simp only[Option.bind_eq_some_iff,Option.map_eq_some_iff]at h;obtain⟨ob,h1,l,h2,rfl⟩:=h;obtain⟨hne,hg⟩:=hr s (by simp[gR])
   have hg:g s=some ob:=hg.trans h1;have hr2:∀s'∈bT (gR d σ) ob.cells,s'≠s0/\g s'=σ s':=fun s' hs'=>hr s' (by simp only[gR,h1];exact List.mem_cons_of_mem _ hs')
   unfold aO at hx;unfold aZ;obtain⟨b,c,hq,hv⟩:=hx;refine⟨b,0,by rw[Nat.zero_add];exact hv,?_⟩
   obtain⟨hBb,arr,hO⟩:=hs.at hg hq;obtain⟨g1,g2⟩:=jT h2;refine eJ.of _ _ _ fun i y hi=> ?_
   have hlt:i<ob.cells.length:=by rw[g1];exact(List.getElem?_eq_some_iff.1 hi).1
   obtain⟨y',h5,h6⟩:=g2 i ob.cells[i] (List.getElem?_eq_getElem hlt);rw[hi]at h5;cases h5;obtain⟨v,k1,k2,k3⟩:=hO.cells i ob.cells[i] (List.getElem?_eq_getElem hlt);refine⟨v,⟨by rw[Nat.zero_add,hO.cell];exact k1,fun e=> ?_⟩,k2,ih _ _ v h6 (fun s hs'=>hr2 s (iH (List.getElem_mem hlt) hs')) k3⟩
   subst e;exact hne (hs.inj s s0 _ _ b c c0 hg hg0 hq hρ0)
  ·rename_i d' l e;cases e;simp only[Option.map_eq_some_iff]at h;obtain⟨m,h2,rfl⟩:=h;unfold aO at hx;unfold aZ;obtain⟨vs,h3,h4,h5⟩:=hx;exact⟨vs,h3,ihL l m vs h2 (fun s hs'=>hr s hs') h4,h5⟩
  ·rename_i d' f a b e;cases e;simp only[Option.bind_eq_some_iff,Option.map_eq_some_iff]at h;obtain⟨x1,h1,x2,h2,rfl⟩:=h;unfold aO at hx;unfold aZ;obtain⟨vs1,vs2,h3,h4,h5⟩:=hx;exact⟨vs1,vs2,h3,ihL a x1 vs1 h1 (fun s hs'=>hr s (List.mem_append_left _ hs')) h4,ihL b x2 vs2 h2 (fun s hs'=>hr s (List.mem_append_right _ hs')) h5⟩
theorem Et{C0:bR}{ρ:Ren}{g σ:Nat->Option Ob}{w:World}{B s0 b0 c0 d:Nat}{o0:Ob}(hs:StR C0 ρ g w B)(hg0:g s0=some o0)(hρ0:ρ s0=some (some b0,c0)):
  ∀{l:List AV} {m:List PV} {vs:List Value},iC (iS d σ) l=some m->(∀s∈bT (gR d σ) l,s≠s0/\g s=σ s)->aW ρ (aP C0 B w ρ g) l vs->bZ (fun b o u=>w.cell? ⟨b,o,none⟩=some u/\b≠b0) m vs:=by
 intro l m vs h hr hv;obtain⟨h1,h2⟩:=jT h;refine bZ.of _ _ (by rw[<-h1];exact hv.length) fun i y hi=> ?_
 have hlt:i<l.length:=by rw[h1];exact(List.getElem?_eq_some_iff.1 hi).1
 obtain⟨y',h3,h4⟩:=h2 i l[i] (List.getElem?_eq_getElem hlt);rw[hi]at h3;cases h3;obtain⟨v,h5,h6⟩:=hv.get _ _ i l[i] (List.getElem?_eq_getElem hlt);exact⟨v,h5,Xp hs hg0 hρ0 d _ _ v h4 (fun s hs'=>hr s (iH (List.getElem_mem hlt) hs')) h6⟩
variable {P:Program}
def flat1(x:PV):Bool:=match x with
 | .int .. | .bool _| .str _=>true
 |_=>false
theorem Ab{C C':bR}{x:PV}{v:Value}(hf:flat1 x=true)(h:aZ C x v):aZ C' x v:=by
 cases x<;>first|(cases hf;done)|(unfold aZ at*;exact h)
def aGo(P:Program)(f:FuncId)(n:Nat)(A:List PV)(ty esz:Nat)(cells cells':List PV)(m:Nat):Prop:=rX P f=true/\cells'.length<=cells.length/\m<=n/\cells'.all flat1=true/\
 ∀(C:bR) (w:World) (b c:Nat) (arr:Array Value) (vs:List Value),(∀b' o v,C b' o v->w.cell? ⟨b',o,none⟩=some v/\b'≠b)->Lent C w b c ty esz cells arr->n<=c->bZ C A vs->
  Calls P f (.slice (some ⟨b,0,none⟩) n c::vs).toArray w fun e w'=>∃arr',e= .returned (.slice (some ⟨b,0,none⟩) m c)/\w'.heap[b]? =some (.cells arr' ty (0,0))/\arr'.size=arr.size/\
   (∀(i:Nat) x,cells'[i]? =some x->∃v,arr'[i]? =some v/\v.oneCell'=true/\aZ C x v)/\w.grownBy w' (some b)
variable {o:Oper} {E:Operand->AV} {σ:Nat->Option Ob} {n:Nat}
theorem Jg{c:Call}{f:Operand}{fid:FuncId}{s k m ty esz:Nat}{rest:List AV}{A cells cells':List PV}(ho:o.op= .call c)(hc:c.callee= .value f)(hfv:E f= .p (.fn (.func fid) [] []))
  (hargs:c.args.toList.map E= .own s 0 k::rest) (hob:σ s=some ⟨ty,esz,cells.map .p⟩) (he:esz≠0) (hk:0<k) (hA:iC (iS 3 σ) rest=some A) (hns:s∉bT (gR 3 σ) rest) (hS:aGo P fid k A ty esz cells cells' m):
  bX P o E σ n (.own (sit n 0) 0 m) (s::bT (gR 3 σ) rest) [(s,none),(sit n 0,some ⟨ty,esz,cells'.map .p⟩)] :=by
 have hfm:f∈o.op.operands.toList:=by rw[ho];simp[Op.operands,Call.operands,hc]
 have ham:∀x∈c.args.toList,x∈o.op.operands.toList:=by intro x hx;rw[ho];simp[Op.operands,Call.operands];exact .inr (by simpa using hx)
 obtain⟨hok,hlen,hmk,hfl,hcall⟩:=hS;intro C0 ρ g V w B hs hB hR hn hgn hE;have hn:=hn _ (eA n 0);have hgn:=hgn _ (eA n 0);have hcl:∀s,cls s≠n->s≠sit n 0:=fun s h e=>h (by rw[e];exact eA n 0)
 have hl:∀l:List Operand,(∀x∈l,x∈o.op.operands.toList)->aW ρ (aP C0 B w ρ g) (l.map E) (l.map (bI V)):=by
  intro l;induction l with
  |nil=>intro _;simp only[List.map_nil];unfold aW;rfl
  |cons x l ih=>
   intro hx;simp only[List.map_cons];unfold aW;exact⟨_,_,rfl,hE x (hx x List.mem_cons_self),ih fun y hy=>hx y (List.mem_cons_of_mem _ hy)⟩
 have hall:=hl _ ham;rw[hargs]at hall;unfold aW at hall;obtain⟨v,us,hvs,hv,hus⟩:=hall;have hvf:bI V f= .func (.func fid) #[] #[] :=by
  have:=hE f hfm;rw[hfv]at this;unfold aO aZ at this;obtain⟨v1,v2,h1,h2,h3⟩:=this;unfold bZ at h2 h3;rw[h1,h2,h3]
 have hrun:(execOp (bI V) o).run P w= .ok (.enter fid (v::us).toArray) w:=by
  unfold execOp;rw[ho];have e2: #[] ++Array.map (bI V) c.args++ #[] =(v::us).toArray:=by
   rw[<-hvs];apply Array.toList_inj.1;simp
  simp only[resolve,hc,hvf,Deferred.ofValue,Sem.run_bind,Sem.run_pure,Result.andThen_ok,invoke,eB hok,e2]
 have hgs:g s=some ⟨ty,esz,cells.map .p⟩:=(hR s (by simp)).trans hob
 unfold aO at hv;obtain⟨q,cap,hρ,⟨_,_,hk0,_⟩|⟨b,o',c',rfl,rfl,h5,h6,h7⟩⟩:=hv
 ·omega
 obtain⟨rfl,rfl⟩:=h7 rfl;obtain⟨hBb,arr,hO⟩:=hs.at hgs hρ;have hL:Lent (fun b' o u=>w.cell? ⟨b',o,none⟩=some u/\b'≠b) w b c' ty esz cells arr:=by
  refine⟨hO.blk,fun h=>by simpa using hO.box h,fun h=>by simpa using hO.row h,fun i x hi=> ?_⟩
  obtain⟨u,h1,h2,h3⟩:=hO.cells i (.p x) (by show(cells.map AV.p)[i]? =_;rw[List.getElem?_map,hi];rfl)
  unfold aO at h3;exact⟨u,h1,h2,aZ.mono (fun b' o v h=>⟨h.1,fun e=>by subst e;have:=h.2.1 s c' hρ;rw[hgs]at this;cases this⟩) x u h3⟩
 have hcN:cells.length<=arr.size:=by simpa using(hO.row he).2.1
 unfold cF;rw[hrun];dsimp only;refine(hcall _ w b c' arr us (fun b' o' x hx=>hx) hL h5 (Et hs hgs hρ hA (fun t ht=>⟨fun e=>hns (e▸ht),hR t (List.mem_cons_of_mem _ ht)⟩) hus)).mono ?_
 rintro e w' ⟨arr',rfl,hblk,hsz,hcells,hG⟩;generalize hnS:sit n 0=nS at*;have hsn:s≠nS:=fun e=>by rw[e,hgn]at hgs;cases hgs
 let ρ':Ren:=fun t=>if t=nS then some (some b,c')else ρ t
 have hρn:ρ' nS=some (some b,c'):=if_pos rfl;have hρs:∀t,t≠nS->ρ' t=ρ t:=fun t h=>if_neg h
 have hext:∀t q,ρ t=some q->ρ' t=some q:=fun t q hq=>by rw[hρs t (fun e=>by rw[e,hn]at hq;cases hq)];exact hq
 have hlk:∀t,t≠s->t≠nS->[(s,none),(nS,some (⟨ty,esz,cells'.map .p⟩:Ob))].lookup t=none:=by intro t h1 h2;simp[List.lookup,beq_eq_false_iff_ne.2 h1,beq_eq_false_iff_ne.2 h2]
 have hup:∀t,t≠s->t≠nS->cG g [(s,none),(nS,some ⟨ty,esz,cells'.map .p⟩)] t=g t:=by intro t h1 h2;unfold cG;rw[hlk t h1 h2]
 have hups:cG g [(s,none),(nS,some ⟨ty,esz,cells'.map .p⟩)] s=none:=by unfold cG;simp[List.lookup]
 have hold:∀k,k<w.heap.size->k≠b->w'.heap[k]? =w.heap[k]? :=fun k h1 h2=>hG.block k h1 (fun e=>h2 (by cases e;rfl))
 have hmono:∀b' o' x,aP C0 B w ρ g b' o' x->aP C0 B w' ρ' (cG g [(s,none),(nS,some ⟨ty,esz,cells'.map .p⟩)]) b' o' x:=by
  intro b' o' x ⟨e1,e2,e0⟩;have hne:b'≠b:=fun e=>by rw[e]at e2;rw[e2 s c' hρ]at hgs;cases hgs
  refine⟨(World.cell?_of_block (hold b' (World.block_lt_of_cell? w ⟨b',o',none⟩ e1) hne)).trans e1,?_,e0⟩;intro t c2 e3;by_cases h1:t=nS
  ·subst h1;rw[hρn]at e3;cases e3;exact absurd rfl hne
  ·rw[hρs t h1]at e3;by_cases h2:t=s
   ·subst h2;exact hups
   ·rw[hup t h2 h1];exact e2 t c2 e3
 refine⟨_,rfl,ρ',fun t ht=>hρs t (by rw[<-hnS];exact fun e=>ht (by rw[e];exact eA n 0)),hmono,?_,by unfold aO;exact⟨some b,c',hρn,.inr ⟨b,0,c',rfl,rfl,Nat.le_trans hmk h5,fun _=>rfl,fun _=>⟨rfl,rfl⟩⟩⟩,⟨hG.os,hG.tape,hG.output,hG.size,fun k hk=>hold k (by omega) (by omega)⟩⟩
 refine hs.step (fun t ob _ hg=>hρs t (fun e=>by rw[e,hgn]at hg;cases hg)) hext hmono ?_ ?_ fun k es clock hk=>hold k (kD hk) (yZ hk hO.blk)
 ·intro t ob b' c2 e1 e2 e3;obtain⟨_,arr2,e4⟩:=hs.at e2 e3;refine hold b' e4.lt fun e=> ?_
  subst e;have:=hs.inj t s ob _ b' c2 c' e2 hgs e3 hρ;subst this;simp[List.lookup]at e1
 ·intro t ob e1;have e2:t=nS:=by
   rcases Nat.decEq t nS with h1|h1
   ·rcases Nat.decEq t s with h2|h2
    ·rw[hlk t h2 h1]at e1;cases e1
    ·subst h2;simp[List.lookup]at e1
   ·exact h1
  subst e2;have e3:ob=⟨ty,esz,cells'.map .p⟩:=by
   simp[List.lookup,beq_eq_false_iff_ne.2 (Ne.symm hsn)]at e1;exact e1.symm
  subst e3;obtain⟨r1,r2,r3⟩:=hO.row he;refine⟨some b,c',hρn,.inr ⟨b,arr',rfl,hBb,⟨hblk,fun h=>absurd h he,fun _=>⟨by rw[hsz];exact r1,by rw[hsz];simp;omega,r3⟩,fun i x hi=> ?_⟩,?_⟩⟩
  ·have hi:(cells'.map AV.p)[i]? =some x:=hi;rw[List.getElem?_map]at hi;cases hc2:cells'[i]? with
   |none=>rw[hc2]at hi;cases hi
   |some y=>
    rw[hc2]at hi;simp only[Option.map_some,Option.some.injEq]at hi;subst hi;obtain⟨u,h1,h2,h3⟩:=hcells i y hc2;exact⟨u,h1,h2,by unfold aO;exact Ab (List.all_eq_true.1 hfl y (List.mem_of_getElem? hc2)) h3⟩
  ·intro t' ob' c2 hne hg' hr';rw[hρs t' hne]at hr';by_cases h2:t'=s
   ·subst h2;rw[hups]at hg';cases hg'
   ·rw[hup t' h2 hne]at hg';exact h2 (hs.inj t' s ob' _ b c2 c' hg' hgs hr' hρ)
theorem Je{c:Call}{f:Operand}{fid:FuncId}{s k ty esz:Nat}{rest:List AV}{A cells cells':List PV}(ho:o.op= .call c)(hc:c.callee= .value f)(hfv:E f= .p (.fn (.func fid) [] []))
  (hargs:c.args.toList.map E= .own s 0 k::rest) (hob:σ s=some ⟨ty,esz,cells.map .p⟩) (he:esz≠0) (hk:0<k) (hA:iC (iS 3 σ) rest=some A) (hns:s∉bT (gR 3 σ) rest) (hfl:cells'.all flat1=true) (hS:Br P fid (some k) A ty esz cells cells'):
  bX P o E σ n .undef (s::bT (gR 3 σ) rest) [(s,some ⟨ty,esz,cells'.map .p⟩)] :=by
 have hfm:f∈o.op.operands.toList:=by rw[ho];simp[Op.operands,Call.operands,hc]
 have ham:∀x∈c.args.toList,x∈o.op.operands.toList:=by intro x hx;rw[ho];simp[Op.operands,Call.operands];exact .inr (by simpa using hx)
 obtain⟨hok,hlen,hcall,_⟩:=hS;intro C0 ρ g V w B hs hB hR hn hgn hE;have hl:∀l:List Operand,(∀x∈l,x∈o.op.operands.toList)->aW ρ (aP C0 B w ρ g) (l.map E) (l.map (bI V)):=by
  intro l;induction l with
  |nil=>intro _;simp only[List.map_nil];unfold aW;rfl
  |cons x l ih=>
   intro hx;simp only[List.map_cons];unfold aW;exact⟨_,_,rfl,hE x (hx x List.mem_cons_self),ih fun y hy=>hx y (List.mem_cons_of_mem _ hy)⟩
 have hall:=hl _ ham;rw[hargs]at hall;unfold aW at hall;obtain⟨v,us,hvs,hv,hus⟩:=hall;have hvf:bI V f= .func (.func fid) #[] #[] :=by
  have:=hE f hfm;rw[hfv]at this;unfold aO aZ at this;obtain⟨v1,v2,h1,h2,h3⟩:=this;unfold bZ at h2 h3;rw[h1,h2,h3]
 have hrun:(execOp (bI V) o).run P w= .ok (.enter fid (v::us).toArray) w:=by
  unfold execOp;rw[ho];have e2: #[] ++Array.map (bI V) c.args++ #[] =(v::us).toArray:=by
   rw[<-hvs];apply Array.toList_inj.1;simp
  simp only[resolve,hc,hvf,Deferred.ofValue,Sem.run_bind,Sem.run_pure,Result.andThen_ok,invoke,eB hok,e2]
 have hgs:g s=some ⟨ty,esz,cells.map .p⟩:=(hR s (by simp)).trans hob
 unfold aO at hv;obtain⟨q,cap,hρ,⟨_,_,hk0,_⟩|⟨b,o',c',rfl,rfl,h5,h6,h7⟩⟩:=hv
 ·omega
 obtain⟨rfl,rfl⟩:=h7 rfl;obtain⟨hBb,arr,hO⟩:=hs.at hgs hρ;have hL:Lent (fun b' o u=>w.cell? ⟨b',o,none⟩=some u/\b'≠b) w b c' ty esz cells arr:=by
  refine⟨hO.blk,fun h=>by simpa using hO.box h,fun h=>by simpa using hO.row h,fun i x hi=> ?_⟩
  obtain⟨u,h1,h2,h3⟩:=hO.cells i (.p x) (by show(cells.map AV.p)[i]? =_;rw[List.getElem?_map,hi];rfl)
  unfold aO at h3;exact⟨u,h1,h2,aZ.mono (fun b' o v h=>⟨h.1,fun e=>by subst e;have:=h.2.1 s c' hρ;rw[hgs]at this;cases this⟩) x u h3⟩
 unfold cF;rw[hrun];dsimp only;refine(hcall _ w b c' arr us (fun b' o' x hx=>hx) hL (fun m hm=>by cases hm;exact h5) (Et hs hgs hρ hA (fun t ht=>⟨fun e=>hns (e▸ht),hR t (List.mem_cons_of_mem _ ht)⟩) hus)).mono ?_
 rintro e w' ⟨arr',rfl,hL',hG⟩;have hlk:∀t,t≠s->[(s,some (⟨ty,esz,cells'.map .p⟩:Ob))].lookup t=none:=by intro t h1;simp[List.lookup,beq_eq_false_iff_ne.2 h1]
 have hup:∀t,t≠s->cG g [(s,some ⟨ty,esz,cells'.map .p⟩)] t=g t:=by intro t h1;unfold cG;rw[hlk t h1]
 have hold:∀k,k<w.heap.size->k≠b->w'.heap[k]? =w.heap[k]? :=fun k h1 h2=>hG.block k h1 (fun e=>h2 (by cases e;rfl))
 have hmono:∀b' o' x,aP C0 B w ρ g b' o' x->aP C0 B w' ρ (cG g [(s,some ⟨ty,esz,cells'.map .p⟩)]) b' o' x:=by
  intro b' o' x ⟨e1,e2,e0⟩;have hne:b'≠b:=fun e=>by rw[e]at e2;rw[e2 s c' hρ]at hgs;cases hgs
  refine⟨(World.cell?_of_block (hold b' (World.block_lt_of_cell? w ⟨b',o',none⟩ e1) hne)).trans e1,?_,e0⟩;intro t c2 e3;by_cases h2:t=s
  ·subst h2;rw[e2 _ _ e3]at hgs;cases hgs
  ·rw[hup t h2];exact e2 t c2 e3
 refine⟨_,rfl,ρ,fun _ _=>rfl,hmono,?_,by unfold aO;rfl,⟨hG.os,hG.tape,hG.output,hG.size,fun k hk=>hold k (by omega) (by omega)⟩⟩
 refine hs.step (fun _ _ _ _=>rfl) (fun _ _ h=>h) hmono ?_ ?_ fun k es clock hk=>hold k (kD hk) (yZ hk hO.blk)
 ·intro t ob b' c2 e1 e2 e3;obtain⟨_,arr2,e4⟩:=hs.at e2 e3;refine hold b' e4.lt fun e=> ?_
  subst e;have:=hs.inj t s ob _ b' c2 c' e2 hgs e3 hρ;subst this;simp[List.lookup]at e1
 ·intro t ob e1;have e2:t=s:=by
   rcases Nat.decEq t s with h1|h1
   ·rw[hlk t h1]at e1;cases e1
   ·exact h1
  subst e2;have e3:ob=⟨ty,esz,cells'.map .p⟩:=by
   simp[List.lookup]at e1;exact e1.symm
  subst e3;refine⟨some b,c',hρ,.inr ⟨b,arr',rfl,hBb,⟨hL'.blk,fun h=>absurd h he,fun h=>by simpa using hL'.row h,fun i x hi=> ?_⟩,?_⟩⟩
  ·have hi:(cells'.map AV.p)[i]? =some x:=hi;rw[List.getElem?_map]at hi;cases hc2:cells'[i]? with
   |none=>rw[hc2]at hi;cases hi
   |some y=>
    rw[hc2]at hi;simp only[Option.map_some,Option.some.injEq]at hi;subst hi;obtain⟨u,h1,h2,h3⟩:=hL'.cells i y hc2;exact⟨u,h1,h2,by unfold aO;exact Ab (List.all_eq_true.1 hfl y (List.mem_of_getElem? hc2)) h3⟩
  ·intro t' ob' c2 hne hg' hr';rw[hup t' hne]at hg';exact hne (hs.inj t' t ob' _ b c2 c' hg' hgs hr' hρ)
end Go.Proofs.YtdaeofhdgabhjaaGreat
namespace Go.Proofs.YtdaeofhdgabhjaaGreat
open Go.RowKit
theorem nI{k:IntKind}{a b:Int}(h:a=b):Ending.returned (.int k a)= .returned (.int k b):=by rw[h]
theorem Ys(x:Int)(w:World):Calls Tryz.prog 184 #[.int .i64 x] w fun e w'=>e= .returned (.bool false)/\w=w':=by
 go_enter Tryz.func184,Tryz.ntmps184
 go_wp2
 go_ret
 exact⟨rfl,rfl⟩
def fG(x y:Int):Int:=if x<y then-1 else if y<x then 1 else 0
theorem aDI{x y:Int}(h:x<y):fG x y= -1:=if_pos h
theorem aDJ{x y:Int}(h:y<x):fG x y=1:=by unfold fG;rw[if_neg (by omega),if_pos h]
theorem aDK{x y:Int}(h:x=y):fG x y=0:=by unfold fG;rw[if_neg (by omega),if_neg (by omega)]
theorem Wt(x y:Int)(w:World):Calls Tryz.prog 137 #[.int .i64 x,.int .i64 y] w fun e w'=>e= .returned (.int .i64 (fG x y))/\w=w':=by
 go_enter Tryz.func137,Tryz.ntmps137
 go_wp2_with (go_at_call 184;refine(Ys _ _).mono ?_;rintro e w' ⟨rfl,rfl⟩)
 ·have h:x<y:=by assumption
  go_ret
  exact⟨nI (aDI h).symm,rfl⟩
 ·have h:y<x:=by assumption
  go_ret
  exact⟨nI (aDJ h).symm,rfl⟩
 ·go_ret
  exact⟨nI (aDK (by omega)).symm,rfl⟩
def orI(p q:Int):Int:=if p=0 then q else p
set_option maxHeartbeats 400000 in
theorem aGL(p q:Int)(b:Nat)(w:World)(h0:w.cell? ⟨b,0,none⟩=some (.int .i64 p))(h1:w.cell? ⟨b,1,none⟩=some (.int .i64 q)):
  Calls Tryz.prog 148 #[.slice (some ⟨b,0,none⟩) 2 2] w fun e w'=>e= .returned (.int .i64 (orI p q))/\w=w':=by
 by_cases hp:p=0
 ·subst hp;by_cases hq:q=0
  ·subst hq
   go_enter Tryz.func148,Tryz.ntmps148
   go_wp2
   go_loop [5,8] (fun _ i=>∃k:Nat,k<=2/\i= .int .i64 k) (fun _ i=>2-(intOf i).toNat)
   case atStart=>exact⟨0,by omega,rfl⟩
   case round=>
    obtain⟨k,hk,rfl⟩:=hrel;match k,hk with
    |0,_=>
     go_wp2
     go_round
     case rel=>exact⟨1,by omega,by go_num⟩
     case measure=>simp[intOf]
    |1,_=>
     go_wp2
     go_round
     case rel=>exact⟨2,by omega,by go_num⟩
     case measure=>simp[intOf]
    |2,_=>
     go_wp2
     go_ret
     exact⟨rfl,rfl⟩
  ·have hq1:(q !=0)=true:=by simpa using hq
   go_enter Tryz.func148,Tryz.ntmps148
   go_wp2
   go_loop [5,8] (fun _ i=>∃k:Nat,k<=1/\i= .int .i64 k) (fun _ i=>2-(intOf i).toNat)
   case atStart=>exact⟨0,by omega,rfl⟩
   case round=>
    obtain⟨k,hk,rfl⟩:=hrel;match k,hk with
    |0,_=>
     go_wp2
     go_round
     case rel=>exact⟨1,by omega,by go_num⟩
     case measure=>simp[intOf]
    |1,_=>
     go_wp2
     go_ret
     exact⟨rfl,rfl⟩
 ·have hp1:(p !=0)=true:=by simpa using hp
  go_enter Tryz.func148,Tryz.ntmps148
  go_wp2
  go_loop [5,8] (fun _ i=>i= .int .i64 0) (fun _ i=>2-(intOf i).toNat)
  case atStart=>rfl
  case round=>
   subst hrel
   go_wp2
   go_ret
   exact⟨nI (by unfold orI;rw[if_neg hp]),rfl⟩
def nC(ax ay bx b_y:Int):Int:=orI (fG ay b_y) (fG ax bx)
end Go.Proofs.YtdaeofhdgabhjaaGreat
namespace Go.Proofs.YtdaeofhdgabhjaaGreat
open Go.RowKit
theorem aLa(ax ay bx b_y:Int)(w:World):Sem.run Tryz.prog (binOp .eql 44 (.agg #[.int .i64 ax,.int .i64 ay]) (.agg #[.int .i64 bx,.int .i64 b_y])) w= .ok (.bool (ax==bx&&ay==b_y)) w:=by
 have u3:=Tryz.underlying3;have a3:=Tryz.isAgg3;have z3:=Tryz.sizeOf3;have hS:Tryz.prog.underlying 44=some (.struct (Tryz.prog.fieldsOf 44)):=by kernel_rfl
 have hp:Tryz.prog.stoodInHeld 44=false:=by kernel_rfl
 rw[run_eql_struct,show(10000:Nat)=9999+1 from rfl,run_equalIn_agg w 9999 44 _ _ hS hp]
 simp only[Program.fieldsOf,Tryz.underlying44]
 go_simp
 by_cases h1:ax=bx<;>by_cases h2:ay=b_y<;>simp[h1,h2]
end Go.Proofs.YtdaeofhdgabhjaaGreat
namespace Go.Proofs.YtdaeofhdgabhjaaGreat.Geo
structure V where
 x:Int
 y:Int
deriving DecidableEq,Inhabited
structure S where
 a:V
 b:V
deriving DecidableEq,Inhabited
def sub(p q:V):V:=⟨p.x-q.x,p.y-q.y⟩
def cross(p q:V):Int:=p.x*q.y-p.y*q.x
def sgn(n:Int):Int:=if 0<n then 1 else if n<0 then-1 else 0
def cT(a b c:V):Int:=sgn (cross (sub b a) (sub c a))
def cH(p q:V):Bool:=decide (p.y<q.y)||(p.y==q.y&&decide (p.x<q.x))
def bG(p:V)(m:Int):Bool:=decide (-m<=p.x)&&decide (p.x<=m)&&decide (-m<=p.y)&&decide (p.y<=m)
def bQ(s:S):Bool:=bG s.a 4000&&bG s.b 4000
def iM(s:S)(p:V):Bool:=decide (min s.a.x s.b.x<=p.x)&&decide (p.x<=max s.a.x s.b.x)&&decide (min s.a.y s.b.y<=p.y)&&decide (p.y<=max s.a.y s.b.y)
def onS(s:S)(p:V):Bool:=bQ s&&iM s p&&cT s.a s.b p==0
theorem mL(n:Int):sgn n=0↔n=0:=by unfold sgn;grind
theorem Kq(n:Int):0<sgn n↔0<n:=by unfold sgn;grind
theorem aC4(n:Int):sgn n<0↔n<0:=by unfold sgn;grind
theorem tT(m n:Int):sgn m*sgn n<0↔(0<m/\n<0)\/(m<0/\0<n):=by unfold sgn;grind
def fG(x y:Int):Int:=if x<y then-1 else if y<x then 1 else 0
def dW(p q:V):Int:=if fG p.y q.y=0 then fG p.x q.x else fG p.y q.y
def pV(s t:S)(d:Int):Int:=
 let a0:=cross (sub t.a s.a) (sub t.b t.a)
 let b0:=cross (sub t.a s.a) (sub s.b s.a)
 let a:=if d<0 then-a0 else a0
 let b:=if d<0 then-b0 else b0
 let e:=if d<0 then-d else d
 if a<0\/e<a\/b<0\/e<b then 0 else if a=0\/a=e\/b=0\/b=e then 1 else 2
def loS(s:S):V:=if cH s.b s.a then s.b else s.a
def hiS(s:S):V:=if cH s.b s.a then s.a else s.b
def cS(s t:S):V:=if cH (loS s) (loS t)then loS t else loS s
def cZ(s t:S):V:=if cH (hiS t) (hiS s)then hiS t else hiS s
def dQ(s t:S):Int:=
 if !(bQ s&&bQ t)then 0
 else if cross (sub s.b s.a) (sub t.b t.a)≠0 then pV s t (cross (sub s.b s.a) (sub t.b t.a))
 else if s.a=s.b/\onS t s.a=true then 1
 else if t.a=t.b/\onS s t.a=true then 1
 else if s.a=s.b\/t.a=t.b\/cT s.a s.b t.a≠0 then 0
 else if dW (cS s t) (cZ s t)=0 then 1
 else if dW (cS s t) (cZ s t)= -1 then 3
 else 0
def cJ(s t:S)(p:V):Prop:=onS s p=true/\onS t p=true
structure MeetIs(s t:S)(k:Int):Prop where
 none:(bQ s&&bQ t)=false->k=0
 over:∀p q,p∈[s.a,s.b,t.a,t.b]->q∈[s.a,s.b,t.a,t.b]->p≠q->cJ s t p->cJ s t q->k=3
 touch:(bQ s&&bQ t)=true->(∀p q,p∈[s.a,s.b,t.a,t.b]->q∈[s.a,s.b,t.a,t.b]->cJ s t p->cJ s t q->p=q)->(∃p,p∈[s.a,s.b,t.a,t.b]/\cJ s t p)->k=1
 cross:(bQ s&&bQ t)=true->(∀p,p∈[s.a,s.b,t.a,t.b]->¬cJ s t p)->(cT s.a s.b t.a*cT s.a s.b t.b<0/\cT t.a t.b s.a*cT t.a t.b s.b<0)->k=2
 else_:(bQ s&&bQ t)=true->(∀p,p∈[s.a,s.b,t.a,t.b]->¬cJ s t p)->¬(cT s.a s.b t.a*cT s.a s.b t.b<0/\cT t.a t.b s.a*cT t.a t.b s.b<0)->k=0
theorem Ch(d b v w:Int)(hd:0<d)(h:d*w=b*v)(hv:v≠0):(min 0 v<=w/\w<=max 0 v)↔(0<=b/\b<=d):=by
 rcases Int.lt_or_gt_of_ne hv with hv|hv
 ·have e1:w<=0↔0<=b:=by
   rw[<-Int.mul_le_mul_left hd,Int.mul_zero,h];constructor
   ·intro h1;rcases Int.lt_or_le b 0 with h2|h2
    ·have:=Int.mul_pos_of_neg_of_neg h2 hv;omega
    ·exact h2
   ·intro h1;have:=Int.mul_nonneg h1 (show(0:Int)<= -v by omega);rw[Int.mul_neg]at this;omega
  have e2:v<=w↔b<=d:=by
   rw[<-Int.mul_le_mul_left hd,h];constructor
   ·intro h1;rcases Int.lt_or_le d b with h2|h2
    ·have:=Int.mul_lt_mul_of_neg_right h2 hv;omega
    ·exact h2
   ·intro h1;exact Int.mul_le_mul_of_nonpos_right h1 (by omega)
  omega
 ·have e1:0<=w↔0<=b:=by
   rw[<-Int.mul_le_mul_left hd,Int.mul_zero,h];constructor
   ·intro h1;rcases Int.lt_or_le b 0 with h2|h2
    ·have:=Int.mul_neg_of_neg_of_pos h2 hv;omega
    ·exact h2
   ·intro h1;exact Int.mul_nonneg h1 (by omega)
  have e2:w<=v↔b<=d:=by
   rw[<-Int.mul_le_mul_left hd,h];exact Int.mul_le_mul_right hv
  omega
theorem mD(s:S)(p:V)(d b:Int)(hd:0<d)(hx:d*(p.x-s.a.x)=b*(s.b.x-s.a.x))(hy:d*(p.y-s.a.y)=b*(s.b.y-s.a.y))(hv:s.a≠s.b):
  iM s p=true↔(0<=b/\b<=d):=by
 obtain⟨⟨ax,ay⟩,⟨bx,b_y⟩⟩:=s;obtain⟨px,py⟩:=p;simp only[iM,Bool.and_eq_true,decide_eq_true_eq]at*;simp only[ne_eq,V.mk.injEq,not_and]at hv;by_cases h1:bx-ax=0
 ·have h2:b_y-ay≠0:=by
   intro h2;exact hv (by omega) (by omega)
  rw[h1,Int.mul_zero]at hx;have h3:px-ax=0:=by
   rcases Int.mul_eq_zero.1 hx with h|h
   ·omega
   ·exact h
  have:=Ch d b _ _ hd hy h2;omega
 ·by_cases h2:b_y-ay=0
  ·rw[h2,Int.mul_zero]at hy;have h3:py-ay=0:=by
    rcases Int.mul_eq_zero.1 hy with h|h
    ·omega
    ·exact h
   have:=Ch d b _ _ hd hx h1;omega
  ·have e1:=Ch d b _ _ hd hx h1;have e2:=Ch d b _ _ hd hy h2;omega
theorem fT{s:S}{p:V}(hv:bQ s=true):onS s p=true↔(iM s p=true/\cross (sub s.b s.a) (sub p s.a)=0):=by
 unfold onS cT;rw[hv];simp only[Bool.true_and,Bool.and_eq_true,beq_iff_eq,mL]
theorem kW{s:S}(hv:bQ s=true):onS s s.a=true:=by
 rw[fT hv];refine⟨?_,by simp[cross,sub]⟩
 simp[iM];omega
theorem rN{s:S}(hv:bQ s=true):onS s s.b=true:=by
 rw[fT hv];refine⟨?_,by simp only[cross,sub];grind⟩
 simp[iM];omega
theorem q1{d a b sa sb ta tb:Int}(h:d*(ta-sa)=a*(sb-sa)-b*(tb-ta))(e:a=0):d*(sa-ta)=b*(tb-ta):=by subst e;grind
theorem q2{d a b sa sb ta tb:Int}(h:d*(ta-sa)=a*(sb-sa)-b*(tb-ta))(e:a=d):d*(sb-ta)=b*(tb-ta):=by subst e;grind
theorem q3{d a b sa sb ta tb:Int}(h:d*(ta-sa)=a*(sb-sa)-b*(tb-ta))(e:b=0):d*(ta-sa)=a*(sb-sa):=by subst e;grind
theorem q4{d a b sa sb ta tb:Int}(h:d*(ta-sa)=a*(sb-sa)-b*(tb-ta))(e:b=d):d*(tb-sa)=a*(sb-sa):=by subst e;grind
theorem z13{d a b sa sb ta tb:Int}(h:d*(ta-sa)=a*(sb-sa)-b*(tb-ta))(e:a=0)(f:b=0):d*(ta-sa)=0:=by subst e f;grind
theorem z14{d a b sa sb ta tb:Int}(h:d*(ta-sa)=a*(sb-sa)-b*(tb-ta))(e:a=0)(f:b=d):d*(tb-sa)=0:=by subst e f;grind
theorem z23{d a b sa sb ta tb:Int}(h:d*(ta-sa)=a*(sb-sa)-b*(tb-ta))(e:a=d)(f:b=0):d*(ta-sb)=0:=by subst e f;grind
theorem z24{d a b sa sb ta tb:Int}(h:d*(ta-sa)=a*(sb-sa)-b*(tb-ta))(e:a=d)(f:b=d):d*(tb-sb)=0:=by subst e f;grind
theorem aB0(s t:S)(hs:bQ s=true)(ht:bQ t=true)(hd:cross (sub s.b s.a) (sub t.b t.a)≠0):
  MeetIs s t (pV s t (cross (sub s.b s.a) (sub t.b t.a))):=by
 have hsab:s.a≠s.b:=by intro h;apply hd;rw[h];simp[cross,sub]
 have htab:t.a≠t.b:=by intro h;apply hd;rw[h];simp[cross,sub]
 obtain⟨a0,ha0⟩:∃a,a=cross (sub t.a s.a) (sub t.b t.a):=⟨_,rfl⟩;obtain⟨b0,hb0⟩:∃a,a=cross (sub t.a s.a) (sub s.b s.a):=⟨_,rfl⟩;obtain⟨d0,hd0⟩:∃a,a=cross (sub s.b s.a) (sub t.b t.a):=⟨_,rfl⟩;have f1:cross (sub t.b t.a) (sub s.a t.a)=a0:=by rw[ha0];simp only[cross,sub];grind
 have f2:cross (sub t.b t.a) (sub s.b t.a)=a0-d0:=by rw[ha0,hd0];simp only[cross,sub];grind
 have f3:cross (sub s.b s.a) (sub t.a s.a)= -b0:=by rw[hb0];simp only[cross,sub];grind
 have f4:cross (sub s.b s.a) (sub t.b s.a)=d0-b0:=by rw[hb0,hd0];simp only[cross,sub];grind
 have gx:d0*(t.a.x-s.a.x)=a0*(s.b.x-s.a.x)-b0*(t.b.x-t.a.x):=by rw[ha0,hb0,hd0];simp only[cross,sub];grind
 have gy:d0*(t.a.y-s.a.y)=a0*(s.b.y-s.a.y)-b0*(t.b.y-t.a.y):=by rw[ha0,hb0,hd0];simp only[cross,sub];grind
 rw[<-hd0]at hd;obtain⟨a,b,d,hdp,hx,hy,hab⟩:∃a b d:Int,0<d/\d*(t.a.x-s.a.x)=a*(s.b.x-s.a.x)-b*(t.b.x-t.a.x)/\d*(t.a.y-s.a.y)=a*(s.b.y-s.a.y)-b*(t.b.y-t.a.y)/\((d0<0/\a= -a0/\b= -b0/\d= -d0)\/(¬d0<0/\a=a0/\b=b0/\d=d0)):=by
  by_cases h:d0<0
  ·exact⟨-a0,-b0,-d0,by omega,by simp only[Int.neg_mul];omega,by simp only[Int.neg_mul];omega,.inl ⟨h,rfl,rfl,rfl⟩⟩
  ·exact⟨a0,b0,d0,by omega,gx,gy,.inr ⟨h,rfl,rfl,rfl⟩⟩
 have hK:pV s t d0=if a<0\/d<a\/b<0\/d<b then 0 else if a=0\/a=d\/b=0\/b=d then 1 else 2:=by
  unfold pV;simp only[<-ha0,<-hb0];rcases hab with⟨h,rfl,rfl,rfl⟩|⟨h,rfl,rfl,rfl⟩<;>simp only[h,if_true,if_false]
 have c1:cJ s t s.a↔(a=0/\0<=b/\b<=d):=by
  unfold cJ;rw[fT ht,f1];have e:a0=0↔a=0:=by clear gx gy hx hy;omega
  rw[e];constructor
  ·rintro⟨_,h1,h2⟩;exact⟨h2,(mD t s.a d b hdp (q1 hx h2) (q1 hy h2) htab).1 h1⟩
  ·rintro⟨h2,h3⟩;exact⟨kW hs,(mD t s.a d b hdp (q1 hx h2) (q1 hy h2) htab).2 h3,h2⟩
 have c2:cJ s t s.b↔(a=d/\0<=b/\b<=d):=by
  unfold cJ;rw[fT ht,f2];have e:a0-d0=0↔a=d:=by clear gx gy hx hy;omega
  rw[e];constructor
  ·rintro⟨_,h1,h2⟩;exact⟨h2,(mD t s.b d b hdp (q2 hx h2) (q2 hy h2) htab).1 h1⟩
  ·rintro⟨h2,h3⟩;exact⟨rN hs,(mD t s.b d b hdp (q2 hx h2) (q2 hy h2) htab).2 h3,h2⟩
 have c3:cJ s t t.a↔(b=0/\0<=a/\a<=d):=by
  unfold cJ;rw[fT hs,f3];have e: -b0=0↔b=0:=by clear gx gy hx hy;omega
  rw[e];constructor
  ·rintro⟨⟨h1,h2⟩,_⟩;exact⟨h2,(mD s t.a d a hdp (q3 hx h2) (q3 hy h2) hsab).1 h1⟩
  ·rintro⟨h2,h3⟩;exact⟨⟨(mD s t.a d a hdp (q3 hx h2) (q3 hy h2) hsab).2 h3,h2⟩,kW ht⟩
 have c4:cJ s t t.b↔(b=d/\0<=a/\a<=d):=by
  unfold cJ;rw[fT hs,f4];have e:d0-b0=0↔b=d:=by clear gx gy hx hy;omega
  rw[e];constructor
  ·rintro⟨⟨h1,h2⟩,_⟩;exact⟨h2,(mD s t.b d a hdp (q4 hx h2) (q4 hy h2) hsab).1 h1⟩
  ·rintro⟨h2,h3⟩;exact⟨⟨(mD s t.b d a hdp (q4 hx h2) (q4 hy h2) hsab).2 h3,h2⟩,rN ht⟩
 have hT:(cT s.a s.b t.a*cT s.a s.b t.b<0/\cT t.a t.b s.a*cT t.a t.b s.b<0)↔(0<a/\a<d/\0<b/\b<d):=by
  unfold cT;rw[tT,tT,f1,f2,f3,f4];clear hx hy gx gy c1 c2 c3 c4 f1 f2 f3 f4 hK ha0 hb0 hd0;rcases hab with⟨h,rfl,rfl,rfl⟩|⟨h,rfl,rfl,rfl⟩
  ·constructor
   ·rintro⟨h1|h1,h2|h2⟩<;>omega
   ·rintro⟨h1,h2,h3,h4⟩;exact⟨.inl (by omega),.inr (by omega)⟩
  ·constructor
   ·rintro⟨h1|h1,h2|h2⟩<;>omega
   ·rintro⟨h1,h2,h3,h4⟩;exact⟨.inr (by omega),.inl (by omega)⟩
 rw[<-hd0,hK];clear ha0 hb0 gx gy;clear hK f1 f2 f3 f4;have hone:∀p q,p∈[s.a,s.b,t.a,t.b]->q∈[s.a,s.b,t.a,t.b]->cJ s t p->cJ s t q->p=q:=by
  have zz:∀x:Int,d*x=0->x=0:=fun x h=>by rcases Int.mul_eq_zero.1 h with h|h<;>omega
  have e13:cJ s t s.a->cJ s t t.a->s.a=t.a:=by
   rw[c1,c3];rintro⟨h1,_⟩ ⟨h2,_⟩;have h3:=zz _ (z13 hx h1 h2);have h4:=zz _ (z13 hy h1 h2);cases hsa:s.a;cases hta:t.a;simp only[hsa,hta]at h3 h4;simp;omega
  have e14:cJ s t s.a->cJ s t t.b->s.a=t.b:=by
   rw[c1,c4];rintro⟨h1,_⟩ ⟨h2,_⟩;have h3:=zz _ (z14 hx h1 h2);have h4:=zz _ (z14 hy h1 h2);cases hsa:s.a;cases hta:t.b;simp only[hsa,hta]at h3 h4;simp;omega
  have e23:cJ s t s.b->cJ s t t.a->s.b=t.a:=by
   rw[c2,c3];rintro⟨h1,_⟩ ⟨h2,_⟩;have h3:=zz _ (z23 hx h1 h2);have h4:=zz _ (z23 hy h1 h2);cases hsa:s.b;cases hta:t.a;simp only[hsa,hta]at h3 h4;simp;omega
  have e24:cJ s t s.b->cJ s t t.b->s.b=t.b:=by
   rw[c2,c4];rintro⟨h1,_⟩ ⟨h2,_⟩;have h3:=zz _ (z24 hx h1 h2);have h4:=zz _ (z24 hy h1 h2);cases hsa:s.b;cases hta:t.b;simp only[hsa,hta]at h3 h4;simp;omega
  have e12:cJ s t s.a->cJ s t s.b->False:=by rw[c1,c2];clear hx hy;omega
  have e34:cJ s t t.a->cJ s t t.b->False:=by rw[c3,c4];clear hx hy;omega
  intro p q hp hq h1 h2;simp only[List.mem_cons,List.not_mem_nil,or_false]at hp hq;rcases hp with rfl|rfl|rfl|rfl<;>rcases hq with rfl|rfl|rfl|rfl
  ·rfl
  ·exact(e12 h1 h2).elim
  ·exact e13 h1 h2
  ·exact e14 h1 h2
  ·exact(e12 h2 h1).elim
  ·rfl
  ·exact e23 h1 h2
  ·exact e24 h1 h2
  ·exact(e13 h2 h1).symm
  ·exact(e23 h2 h1).symm
  ·rfl
  ·exact(e34 h1 h2).elim
  ·exact(e14 h2 h1).symm
  ·exact(e24 h2 h1).symm
  ·exact(e34 h2 h1).elim
  ·rfl
 clear hx hy hd0 hab hd;have hno:(∀p,p∈[s.a,s.b,t.a,t.b]->¬cJ s t p)->¬cJ s t s.a/\¬cJ s t s.b/\¬cJ s t t.a/\¬cJ s t t.b:=
  fun h=>⟨h _ (by simp),h _ (by simp),h _ (by simp),h _ (by simp)⟩
 constructor
 ·intro h;rw[hs,ht]at h;cases h
 ·intro p q hp hq hne h1 h2;exact absurd (hone p q hp hq h1 h2) hne
 ·rintro _ _ ⟨p,hp,h⟩;simp only[List.mem_cons,List.not_mem_nil,or_false]at hp;rcases hp with rfl|rfl|rfl|rfl
  ·rw[c1]at h;rw[if_neg (by omega),if_pos (by omega)]
  ·rw[c2]at h;rw[if_neg (by omega),if_pos (by omega)]
  ·rw[c3]at h;rw[if_neg (by omega),if_pos (by omega)]
  ·rw[c4]at h;rw[if_neg (by omega),if_pos (by omega)]
 ·intro _ _ h;rw[hT]at h;rw[if_neg (by omega),if_neg (by omega)]
 ·intro _ h1 h;rw[hT]at h;have h2:=hno h1;rw[c1,c2,c3,c4]at h2;by_cases h3:a<0\/d<a\/b<0\/d<b
  ·rw[if_pos h3]
  ·exfalso;omega
def leV(p q:V):Prop:=p.y<q.y\/(p.y=q.y/\p.x<=q.x)
instance(p q:V):Decidable (leV p q):=by unfold leV;infer_instance
theorem iU(p:V):leV p p:= .inr ⟨rfl,Int.le_refl _⟩
theorem kQ{p q r:V}(h1:leV p q)(h2:leV q r):leV p r:=by unfold leV at*;omega
theorem xZ{p q:V}(h1:leV p q)(h2:leV q p):p=q:=by
 cases p;cases q;unfold leV at*;simp only[V.mk.injEq];simp only at h1 h2;omega
theorem nW(p q:V):leV p q\/leV q p:=by unfold leV;omega
theorem fP(p q:V):cH p q=true↔¬leV q p:=by unfold cH leV;simp;omega
theorem gF(p q:V):cH p q=false↔leV q p:=by
 rw[<-Bool.not_eq_true,fP];exact Decidable.not_not
theorem nZ(p q:V):dW p q=0↔p=q:=by
 cases p;cases q;unfold dW fG;simp only[V.mk.injEq];grind
theorem Pc(p q:V):dW p q= -1↔cH p q=true:=by
 unfold dW fG cH;simp only[Bool.or_eq_true,Bool.and_eq_true,decide_eq_true_eq,beq_iff_eq];grind
theorem xT(p q:V):dW p q<0↔cH p q=true:=by
 unfold dW fG cH;simp only[Bool.or_eq_true,Bool.and_eq_true,decide_eq_true_eq,beq_iff_eq];grind
theorem aM6(s:S):leV (loS s) s.a/\leV (loS s) s.b/\leV s.a (hiS s)/\leV s.b (hiS s):=by
 unfold loS hiS;cases h:cH s.b s.a
 ·have:=(gF _ _).1 h;simp[this,iU]
 ·have h1:=(fP _ _).1 h;have h2:leV s.b s.a:=(nW s.b s.a).elim id (fun h=>absurd h h1)
  simp[h2,iU]
theorem Wj(s:S):(loS s=s.a/\hiS s=s.b)\/(loS s=s.b/\hiS s=s.a):=by
 unfold loS hiS;cases cH s.b s.a<;>simp
theorem Pf(s:S)(p:V)(hne:s.a≠s.b)(hc:cross (sub s.b s.a) (sub p s.a)=0):iM s p=true↔(leV (loS s) p/\leV p (hiS s)):=by
 simp only[cross,sub]at hc;by_cases hy:s.b.y=s.a.y
 ·have hx:s.b.x≠s.a.x:=by
   intro hx;apply hne;cases hsa:s.a;cases hsb:s.b;simp only[hsa,hsb]at hx hy;simp[hx,hy]
  have hpy:p.y=s.a.y:=by
   have h0:s.b.y-s.a.y=0:=by omega
   rw[h0]at hc;have:(s.b.x-s.a.x)*(p.y-s.a.y)=0:=by omega
   rcases Int.mul_eq_zero.1 this with h|h<;>omega
  unfold loS hiS;cases h:cH s.b s.a
  ·have h1:=(gF _ _).1 h;simp only[iM,leV,Bool.and_eq_true,decide_eq_true_eq]at*;simp only[Bool.false_eq_true,if_false];clear hc;omega
  ·have h1:=(fP _ _).1 h;simp only[iM,leV,Bool.and_eq_true,decide_eq_true_eq]at*;simp only[if_true];clear hc;omega
 ·have hxy:p.y=s.a.y->p.x=s.a.x:=by
   intro h;have h0:p.y-s.a.y=0:=by omega
   rw[h0]at hc;have:(s.b.y-s.a.y)*(p.x-s.a.x)=0:=by omega
   rcases Int.mul_eq_zero.1 this with h|h<;>omega
  have hxz:p.y=s.b.y->p.x=s.b.x:=by
   intro h;rw[h]at hc;have:(s.b.y-s.a.y)*(p.x-s.b.x)=0:=by grind
   rcases Int.mul_eq_zero.1 this with h|h<;>omega
  rcases Int.lt_or_gt_of_ne hy with h|h
  ·have hb:=mD s p (s.a.y-s.b.y) (s.a.y-p.y) (by omega) (by grind) (by grind) hne
   rw[hb];have h1:cH s.b s.a=true:=by rw[fP];unfold leV;omega
   unfold loS hiS;rw[h1];simp only[if_true,leV];clear hb hc hne;omega
  ·have hb:=mD s p (s.b.y-s.a.y) (p.y-s.a.y) (by omega) (by grind) (by grind) hne
   rw[hb];have h1:cH s.b s.a=false:=by rw[gF];unfold leV;omega
   unfold loS hiS;rw[h1];simp only[Bool.false_eq_true,if_false,leV];clear hb hc hne;omega
theorem pO{s:S}(h:s.a=s.b){p:V}(hp:iM s p=true):p=s.a:=by
 cases hsa:s.a;cases hsb:s.b;cases p;simp only[iM,hsa,hsb,V.mk.injEq,Bool.and_eq_true,decide_eq_true_eq]at*;omega
theorem Bm(u v w:V)(h1:cross u v=0)(h2:cross v w=0)(hv:v≠⟨0,0⟩):cross u w=0:=by
 simp only[cross]at*;by_cases hx:v.x=0
 ·have hy:v.y≠0:=by intro hy;apply hv;cases v;simp at hx hy;simp[hx,hy]
  have:v.y*(u.x*w.y-u.y*w.x)=0:=by grind
  rcases Int.mul_eq_zero.1 this with h|h
  ·exact absurd h hy
  ·exact h
 ·have:v.x*(u.x*w.y-u.y*w.x)=0:=by grind
  rcases Int.mul_eq_zero.1 this with h|h
  ·exact absurd h hx
  ·exact h
theorem aAT{p q:V}(h:p≠q):sub q p≠⟨0,0⟩:=by
 intro h';apply h;cases p;cases q;simp only[sub,V.mk.injEq]at*;omega
theorem xQ(s t:S):MeetIs s t (dQ s t):=by
 unfold dQ;by_cases hv:(bQ s&&bQ t)=true
 ·have hs:bQ s=true:=by simp at hv;exact hv.1
  have ht:bQ t=true:=by simp at hv;exact hv.2
  rw[if_neg (by rw[hv];simp)]
  by_cases hd:cross (sub s.b s.a) (sub t.b t.a)≠0
  ·rw[if_pos hd];exact aB0 s t hs ht hd
  ·rw[if_neg hd];have hd0:cross (sub s.b s.a) (sub t.b t.a)=0:=by omega
   have hnv:∀k,(bQ s&&bQ t)=false->k=(0:Int):=by intro k h;rw[hv]at h;cases h
   have hside:¬(cT s.a s.b t.a*cT s.a s.b t.b<0/\cT t.a t.b s.a*cT t.a t.b s.b<0):=by
    rintro⟨h,_⟩;unfold cT at h;rw[tT]at h;have e:cross (sub s.b s.a) (sub t.b s.a)=cross (sub s.b s.a) (sub t.a s.a)+cross (sub s.b s.a) (sub t.b t.a):=by simp only[cross,sub];grind
    omega
   have allone:∀z,(∀p,p∈[s.a,s.b,t.a,t.b]->cJ s t p->p=z)->cJ s t z->z∈[s.a,s.b,t.a,t.b]->MeetIs s t 1:=by
    intro z hz hzo hzm;refine⟨hnv 1,fun p q hp hq hne h1 h2=>absurd ((hz p hp h1).trans (hz q hq h2).symm) hne,fun _ _ _=>rfl,fun _ h=>absurd hzo (h z hzm),fun _ h=>absurd hzo (h z hzm)⟩
   have nothing:(∀p,p∈[s.a,s.b,t.a,t.b]->¬cJ s t p)->MeetIs s t 0:=by
    intro h;exact⟨fun _=>rfl,fun p _ hp _ _ h1 _=>absurd h1 (h p hp),fun _ _ ⟨p,hp,h1⟩=>absurd h1 (h p hp),fun _ _ h1=>absurd h1 hside,fun _ _ _=>rfl⟩
   by_cases h1:s.a=s.b/\onS t s.a=true
   ·rw[if_pos h1];exact allone s.a (fun p _ h=>pO h1.1 ((fT hs).1 h.1).1) ⟨kW hs,h1.2⟩ (by simp)
   ·rw[if_neg h1];by_cases h2:t.a=t.b/\onS s t.a=true
    ·rw[if_pos h2];exact allone t.a (fun p _ h=>pO h2.1 ((fT ht).1 h.2).1) ⟨h2.2,kW ht⟩ (by simp)
    ·rw[if_neg h2];by_cases h3:s.a=s.b\/t.a=t.b\/cT s.a s.b t.a≠0
     ·rw[if_pos h3];apply nothing;rintro p hp ⟨hps,hpt⟩;by_cases hsd:s.a=s.b
      ·have:=pO hsd ((fT hs).1 hps).1;rw[this]at hpt;exact h1 ⟨hsd,hpt⟩
      ·by_cases htd:t.a=t.b
       ·have:=pO htd ((fT ht).1 hpt).1;rw[this]at hps;exact h2 ⟨htd,hps⟩
       ·have h4:cT s.a s.b t.a≠0:=by
         rcases h3 with h|h|h
         ·exact absurd h hsd
         ·exact absurd h htd
         ·exact h
        have c1:=((fT hs).1 hps).2;have c2:=((fT ht).1 hpt).2;have hv0:=aAT htd;have c3:=Bm _ _ _ hd0 c2 hv0;apply h4;unfold cT;rw[mL];have e:cross (sub s.b s.a) (sub t.a s.a)=cross (sub s.b s.a) (sub p s.a)-cross (sub s.b s.a) (sub p t.a):=by simp only[cross,sub];grind
        omega
     ·rw[if_neg h3];have hsd:s.a≠s.b:=fun h=>h3 (.inl h)
      have htd:t.a≠t.b:=fun h=>h3 (.inr (.inl h))
      have hta:cross (sub s.b s.a) (sub t.a s.a)=0:=by
       have:cT s.a s.b t.a=0:=Decidable.byContradiction fun h=>h3 (.inr (.inr h))
       unfold cT at this;rwa[mL]at this
      have hl1:∀p,p∈[s.a,s.b,t.a,t.b]->cross (sub s.b s.a) (sub p s.a)=0:=by
       intro p hp;simp only[List.mem_cons,List.not_mem_nil,or_false]at hp;rcases hp with rfl|rfl|rfl|rfl
       ·simp[cross,sub]
       ·simp only[cross];grind
       ·exact hta
       ·have e:cross (sub s.b s.a) (sub t.b s.a)=cross (sub s.b s.a) (sub t.a s.a)+cross (sub s.b s.a) (sub t.b t.a):=by simp only[cross,sub];grind
        omega
      have hl2:∀p,p∈[s.a,s.b,t.a,t.b]->cross (sub t.b t.a) (sub p t.a)=0:=by
       intro p hp;have h5:=hl1 p hp;have e:cross (sub s.b s.a) (sub p t.a)=cross (sub s.b s.a) (sub p s.a)-cross (sub s.b s.a) (sub t.a s.a):=by simp only[cross,sub];grind
       have h6:cross (sub s.b s.a) (sub p t.a)=0:=by omega
       have h7:cross (sub t.b t.a) (sub s.b s.a)=0:=by
        have:cross (sub t.b t.a) (sub s.b s.a)= -cross (sub s.b s.a) (sub t.b t.a):=by simp only[cross,sub];grind
        omega
       exact Bm _ _ _ h7 h6 (aAT hsd)
      have hlo:leV (loS s) (cS s t)/\leV (loS t) (cS s t)/\(cS s t=loS s\/cS s t=loS t):=by
       unfold cS;cases h:cH (loS s) (loS t)
       ·have:=(gF _ _).1 h;simp[this,iU]
       ·have h':=(fP _ _).1 h;have:leV (loS s) (loS t):=(nW _ _).elim id (fun h=>absurd h h')
        simp[this,iU]
      have hhi:leV (cZ s t) (hiS s)/\leV (cZ s t) (hiS t)/\(cZ s t=hiS s\/cZ s t=hiS t):=by
       unfold cZ;cases h:cH (hiS t) (hiS s)
       ·have:=(gF _ _).1 h;simp[this,iU]
       ·have h':=(fP _ _).1 h;have:leV (hiS t) (hiS s):=(nW _ _).elim id (fun h=>absurd h h')
        simp[this,iU]
      have hmem:∀p,(p=loS s\/p=hiS s\/p=loS t\/p=hiS t)->p∈[s.a,s.b,t.a,t.b] :=by
       intro p h;have h5:=Wj s;have h6:=Wj t;simp only[List.mem_cons,List.not_mem_nil,or_false];grind
      have hon:∀p,p∈[s.a,s.b,t.a,t.b]->(cJ s t p↔leV (cS s t) p/\leV p (cZ s t)):=by
       intro p hp;unfold cJ;rw[fT hs,fT ht,Pf s p hsd (hl1 p hp),Pf t p htd (hl2 p hp)];constructor
       ·rintro⟨⟨⟨a1,a2⟩,_⟩,⟨b1,b2⟩,_⟩;refine⟨?_,?_⟩
        ·rcases hlo.2.2 with h|h<;>rw[h] <;>assumption
        ·rcases hhi.2.2 with h|h<;>rw[h] <;>assumption
       ·rintro⟨a1,a2⟩;exact⟨⟨⟨kQ hlo.1 a1,kQ a2 hhi.1⟩,hl1 p hp⟩,⟨kQ hlo.2.1 a1,kQ a2 hhi.2.1⟩,hl2 p hp⟩
      have mlo:cS s t∈[s.a,s.b,t.a,t.b] :=hmem _ (by rcases hlo.2.2 with h|h<;>simp[h])
      have mhi:cZ s t∈[s.a,s.b,t.a,t.b] :=hmem _ (by rcases hhi.2.2 with h|h<;>simp[h])
      by_cases h5:dW (cS s t) (cZ s t)=0
      ·rw[if_pos h5];have e:=(nZ _ _).1 h5;refine allone (cS s t) ?_ ((hon _ mlo).2 ⟨iU _,by rw[e];exact iU _⟩) mlo
       intro p hp h;have h6:=(hon p hp).1 h;rw[<-e]at h6;exact xZ h6.2 h6.1
      ·rw[if_neg h5];by_cases h6:dW (cS s t) (cZ s t)= -1
       ·rw[if_pos h6];have h7:=(fP _ _).1 ((Pc _ _).1 h6);have h8:leV (cS s t) (cZ s t):=(nW _ _).elim id (fun h=>absurd h h7)
        have o1:=(hon _ mlo).2 ⟨iU _,h8⟩;have o2:=(hon _ mhi).2 ⟨h8,iU _⟩;have hne:cS s t≠cZ s t:=fun h=>h5 ((nZ _ _).2 h)
        exact⟨fun h=>absurd h (by rw[hv];simp),fun _ _ _ _ _ _ _=>rfl,fun _ h _=>absurd (h _ _ mlo mhi o1 o2) hne,fun _ h=>absurd o1 (h _ mlo),fun _ h=>absurd o1 (h _ mlo)⟩
       ·rw[if_neg h6];apply nothing;intro p hp h;have h7:=(hon p hp).1 h;have h8:=kQ h7.1 h7.2;have h9:¬cH (cS s t) (cZ s t)=true:=fun h=>h6 ((Pc _ _).2 h)
        rw[fP]at h9;exact h5 ((nZ _ _).2 (xZ h8 (Decidable.not_not.1 h9)))
 ·have hv':(bQ s&&bQ t)=false:=by simpa using hv
  rw[if_pos (by rw[hv'];rfl)]
  have hv3:¬(bQ s&&bQ t)=true:=by rw[hv'];simp
  refine⟨fun _=>rfl,fun p q _ _ _ h1 _=> ?_,fun h=>absurd h hv3,fun h=>absurd h hv3,fun h=>absurd h hv3⟩
  exfalso;apply hv3;obtain⟨h1,h2⟩:=h1;unfold onS at h1 h2;simp only[Bool.and_eq_true]at h1 h2|-;exact⟨h1.1.1,h2.1.1⟩
def sA:List V->V->List V
 |[],p=>[p]
 |q::r,p=>if cH q p then q::sA r p else if q=p then q::r else p::q::r
def jE(l:List V):List V:=l.foldl sA []
theorem Of(l:List V)(p x:V):x∈sA l p↔x=p\/x∈l:=by
 induction l with
 |nil=>simp[sA]
 |cons q r ih=>
  unfold sA;split
  ·simp only[List.mem_cons,ih];grind
  ·split
   ·rename_i h;subst h;simp
   ·simp only[List.mem_cons]
theorem Gj(l acc:List V)(x:V):x∈l.foldl sA acc↔x∈acc\/x∈l:=by
 induction l generalizing acc with
 |nil=>simp
 |cons q r ih=>rw[List.foldl_cons,ih,Of];simp only[List.mem_cons];grind
theorem Py(l:List V)(x:V):x∈jE l↔x∈l:=by unfold jE;rw[Gj];simp
theorem Bf{p q r:V}(h1:cH p q=true)(h2:cH q r=true):cH p r=true:=by
 unfold cH at*;simp only[Bool.or_eq_true,Bool.and_eq_true,decide_eq_true_eq,beq_iff_eq]at*;omega
theorem yN(p:V):cH p p=false:=by unfold cH;simp
theorem Yq{p q:V}(h1:cH p q=false)(h2:p≠q):cH q p=true:=by
 rw[fP];intro h;exact h2 (xZ h ((gF _ _).1 h1))
theorem Qc(l:List V)(p:V)(h:l.Pairwise (fun a b=>cH a b=true)):(sA l p).Pairwise (fun a b=>cH a b=true):=by
 induction l with
 |nil=>simp[sA]
 |cons q r ih=>
  rw[List.pairwise_cons]at h;unfold sA;split
  ·rename_i hq;rw[List.pairwise_cons];refine⟨?_,ih h.2⟩;intro x hx;rcases(Of _ _ _).1 hx with rfl|hx
   ·exact hq
   ·exact h.1 x hx
  ·rename_i hq;split
   ·rw[List.pairwise_cons];exact h
   ·rename_i hne;have hpq:=Yq (by simpa using hq) hne
    rw[List.pairwise_cons,List.pairwise_cons];refine⟨?_,h⟩;intro x hx;rcases List.mem_cons.1 hx with rfl|hx
    ·exact hpq
    ·exact Bf hpq (h.1 x hx)
theorem yT(l acc:List V)(h:acc.Pairwise (fun a b=>cH a b=true)):(l.foldl sA acc).Pairwise (fun a b=>cH a b=true):=by
 induction l generalizing acc with
 |nil=>exact h
 |cons q r ih=>exact ih _ (Qc acc q h)
theorem uG(l:List V):(jE l).Pairwise (fun a b=>cH a b=true):=yT l [] List.Pairwise.nil
def ends(s t:S):List V:=[s.a,s.b,t.a,t.b]
def fK(s t:S):List V:=jE ((ends s t).filter (fun p=>onS s p&&onS t p))
theorem tX(s t:S)(p:V):p∈fK s t↔p∈ends s t/\cJ s t p:=by
 unfold fK cJ;rw[Py,List.mem_filter];simp
def iD(s:S)(p:V):Int:=if !(bQ s)|| !(bG p 4000)then 0 else cT s.a s.b p
def dU(s t:S):Int:=
 if !(bQ s&&bQ t)then 0
 else if 1<(fK s t).length then 3
 else if(fK s t).length=1 then 1
 else if iD s t.a*iD s t.b<0/\iD t s.a*iD t s.b<0 then 2
 else 0
theorem uN(s t:S):dQ s t=dU s t:=by
 have h:=xQ s t;obtain⟨k,hk⟩:∃k,k=dQ s t:=⟨_,rfl⟩;rw[<-hk]at h|-;clear hk;unfold dU;cases hv:(bQ s&&bQ t)with
 |false=>simp[h.none hv]
 |true=>
  have hs:bQ s=true:=by simp at hv;exact hv.1
  have ht:bQ t=true:=by simp at hv;exact hv.2
  have ws:=hs;have wt:=ht;unfold bQ at ws wt;simp only[Bool.and_eq_true]at ws wt;simp only[Bool.not_true,Bool.false_eq_true,if_false,iD,hs,ht,ws,wt,Bool.or_self];have hp:=uG ((ends s t).filter (fun p=>onS s p&&onS t p))
  have hm:=tX s t;rw[show jE ((ends s t).filter (fun p=>onS s p&&onS t p))=fK s t from rfl]at hp
  generalize fK s t=l at hp hm;match l,hp,hm with
  |[],_,hm=>
   have hno:∀p,p∈[s.a,s.b,t.a,t.b]->¬cJ s t p:=fun p hp ho=>by have:=(hm p).2 ⟨hp,ho⟩;cases this
   simp only[List.length_nil];rw[if_neg (by omega),if_neg (by omega)]
   by_cases hc:cT s.a s.b t.a*cT s.a s.b t.b<0/\cT t.a t.b s.a*cT t.a t.b s.b<0
   ·rw[if_pos hc];exact h.cross hv hno hc
   ·rw[if_neg hc];exact h.else_ hv hno hc
  |[z],_,hm=>
   simp only[List.length_singleton];rw[if_neg (by omega),if_pos trivial]
   have hz:=(hm z).1 (by simp)
   refine h.touch hv ?_ ⟨z,hz⟩;intro p q hp hq h1 h2;have e1:=(hm p).2 ⟨hp,h1⟩;have e2:=(hm q).2 ⟨hq,h2⟩;simp at e1 e2;rw[e1,e2]
  |z::y::r,hp,hm=>
   simp only[List.length_cons];rw[if_pos (by omega)]
   have hz:=(hm z).1 (by simp)
   have hy:=(hm y).1 (by simp)
   refine h.over z y hz.1 hy.1 ?_ hz.2 hy.2;intro e;rw[List.pairwise_cons]at hp;have:=hp.1 y (by simp)
   rw[e,yN]at this;cases this
end Go.Proofs.YtdaeofhdgabhjaaGreat.Geo
namespace Go.Proofs.YtdaeofhdgabhjaaGreat.Geo
abbrev aM:=List V
def nth(r:aM)(i:Nat):V:=r.getD i default
def nxt(r:aM)(i:Nat):V:=nth r ((i+1) % r.length)
def prv(r:aM)(i:Nat):V:=nth r ((i+r.length-1) % r.length)
def dL(r:aM)(i:Nat):S:=⟨nth r i,nxt r i⟩
def aD(r:aM):List S:=if r.length<2 then []else(List.range r.length).map (dL r)
def dX(r:aM):Int:=((List.range r.length).map fun i=>cross (nth r i) (nxt r i)).sum
def near(r:aM):Bool:=r.all fun v=>bG v 2000
def cO(r:aM):Bool:=
 decide (3<=r.length)&&decide (r.length<=40)&&near r&&decide (0<dX r)&&
 ((List.range r.length).all fun i=>cT (prv r i) (nth r i) (nxt r i) !=0)&&
 ((List.range r.length).all fun i=>(List.range r.length).all fun k=>decide (k<=i)||k==i+1||(i==0&&k==r.length-1)||dQ (dL r i) (dL r k)==0)
def dK(r:aM):Bool:=
 decide (3<=r.length)&&decide (r.length<=40)&&near r&&
 ((List.range r.length).all fun i=>cT (nth r i) (nth r ((i+1) % r.length)) (nth r ((i+2) % r.length)) !=0)&&
 ((List.range r.length).all fun i=>(List.range r.length).all fun k=>decide (k<=i)||
   (if k=i+1\/(i=0/\k=r.length-1)then dU (dL r i) (dL r k)==1 else dU (dL r i) (dL r k)==0))&&
 decide (0<dX r)
theorem Nb(a b c:V):cT a b c=cT b c a:=by
 unfold cT;congr 1;simp only[cross,sub];grind
theorem Og(s t:S)(hs:bQ s=true)(ht:bQ t=true)(he:s.b=t.a)(hn:cT s.a s.b t.b≠0):dQ s t=1:=by
 have h:=xQ s t;have hb:cJ s t s.b:=⟨rN hs,by rw[he];exact kW ht⟩
 refine h.touch (by rw[hs,ht];rfl) ?_ ⟨s.b,by simp,hb⟩
 have key:∀p,p∈[s.a,s.b,t.a,t.b]->cJ s t p->p=s.b:=by
  intro p hp ho;simp only[List.mem_cons,List.not_mem_nil,or_false]at hp;rcases hp with rfl|rfl|rfl|rfl
  ·exfalso;apply hn;have:=((fT ht).1 ho.2).2;rw[Nb];unfold cT;rw[mL,he];exact this
  ·rfl
  ·exact he.symm
  ·exfalso;apply hn;have:=((fT hs).1 ho.1).2;unfold cT;rw[mL];exact this
 intro p q hp hq h1 h2;rw[key p hp h1,key q hq h2]
theorem qP(s t:S):dQ s t=dQ t s:=by
 have h1:=xQ s t;have h2:=xQ t s;have hmem:∀p,p∈[s.a,s.b,t.a,t.b] ↔p∈[t.a,t.b,s.a,s.b] :=by intro p;simp only[List.mem_cons,List.not_mem_nil,or_false];grind
 have hob:∀p,cJ s t p↔cJ t s p:=fun p=>And.comm
 cases hv:(bQ s&&bQ t)with
 |false=>rw[h1.none hv,h2.none (by rw[Bool.and_comm];exact hv)]
 |true=>
  have hv':(bQ t&&bQ s)=true:=by rw[Bool.and_comm];exact hv
  by_cases hx:∃p,p∈[s.a,s.b,t.a,t.b]/\cJ s t p
  ·by_cases hu:∀p q,p∈[s.a,s.b,t.a,t.b]->q∈[s.a,s.b,t.a,t.b]->cJ s t p->cJ s t q->p=q
   ·rw[h1.touch hv hu hx,h2.touch hv' (fun p q hp hq a b=>hu p q ((hmem p).2 hp) ((hmem q).2 hq) ((hob p).2 a) ((hob q).2 b))]
    obtain⟨p,hp,ho⟩:=hx;exact⟨p,(hmem p).1 hp,(hob p).1 ho⟩
   ·have:∃p q,p∈[s.a,s.b,t.a,t.b]/\q∈[s.a,s.b,t.a,t.b]/\p≠q/\cJ s t p/\cJ s t q:=by
     apply Classical.byContradiction;intro hno;apply hu;intro p q hp hq a b;apply Classical.byContradiction;intro hne;exact hno ⟨p,q,hp,hq,hne,a,b⟩
    obtain⟨p,q,hp,hq,hne,a,b⟩:=this;rw[h1.over p q hp hq hne a b,h2.over p q ((hmem p).1 hp) ((hmem q).1 hq) hne ((hob p).1 a) ((hob q).1 b)]
  ·have hno:∀p,p∈[s.a,s.b,t.a,t.b]->¬cJ s t p:=fun p hp ho=>hx ⟨p,hp,ho⟩
   have hno':∀p,p∈[t.a,t.b,s.a,s.b]->¬cJ t s p:=fun p hp ho=>hno p ((hmem p).2 hp) ((hob p).2 ho)
   by_cases hc:cT s.a s.b t.a*cT s.a s.b t.b<0/\cT t.a t.b s.a*cT t.a t.b s.b<0
   ·rw[h1.cross hv hno hc,h2.cross hv' hno' ⟨hc.2,hc.1⟩]
   ·rw[h1.else_ hv hno hc,h2.else_ hv' hno' (fun h=>hc ⟨h.2,h.1⟩)]
theorem mR{v:V}{m n:Int}(h:bG v m=true)(hmn:m<=n):bG v n=true:=by
 unfold bG at*;simp only[Bool.and_eq_true,decide_eq_true_eq]at*;omega
theorem qJ{r:aM}(h:near r=true)(i:Nat)(hi:i<r.length):bG (nth r i) 2000=true:=by
 unfold near at h;rw[List.all_eq_true]at h;unfold nth;rw[List.getD_eq_getElem?_getD,List.getElem?_eq_getElem hi];exact h _ (List.getElem_mem hi)
theorem fO{r:aM}(h:near r=true)(i:Nat)(hi:i<r.length):bQ (dL r i)=true:=by
 unfold bQ dL nxt;have h2:(i+1) % r.length<r.length:=Nat.mod_lt _ (by omega)
 simp only[Bool.and_eq_true];exact⟨mR (qJ h i hi) (by omega),mR (qJ h _ h2) (by omega)⟩
theorem fE{i n:Nat}(h:i<n):i % n=i:=Nat.mod_eq_of_lt h
theorem oO{i n:Nat}(h1:n<=i)(h2:i<2*n):i % n=i-n:=by
 rw[Nat.mod_eq_sub_mod h1,Nat.mod_eq_of_lt (by omega)]
theorem Hs(r:aM)(hn:3<=r.length):
  ((List.range r.length).all fun i=>cT (prv r i) (nth r i) (nxt r i) !=0)=((List.range r.length).all fun i=>cT (nth r i) (nth r ((i+1) % r.length)) (nth r ((i+2) % r.length)) !=0):=by
 rw[Bool.eq_iff_iff,List.all_eq_true,List.all_eq_true];constructor
 ·intro h i hi;have hi:=List.mem_range.1 hi;have:=h ((i+1) % r.length) (List.mem_range.2 (Nat.mod_lt _ (by omega)))
  unfold prv nxt at this;by_cases h1:i+1<r.length
  ·rw[fE h1]at this|-;have e1:(i+1+r.length-1) % r.length=i:=by rw[show i+1+r.length-1=i+r.length from by omega,oO (by omega) (by omega)];omega
   rw[e1]at this;exact this
  ·have e0:i+1=r.length:=by omega
   rw[e0,Nat.mod_self]at this|-;have e1:(0+r.length-1) % r.length=i:=by rw[fE (by omega)];omega
   have e2:(i+2) % r.length=(0+1) % r.length:=by rw[oO (by omega) (by omega),fE (by omega)];omega
   rw[e1]at this;rw[e2];exact this
 ·intro h i hi;have hi:=List.mem_range.1 hi;have:=h ((i+r.length-1) % r.length) (List.mem_range.2 (Nat.mod_lt _ (by omega)))
  unfold prv nxt;by_cases h1:i=0
  ·subst h1;have e1:(0+r.length-1) % r.length=r.length-1:=by rw[fE (by omega)];omega
   rw[e1]at this|-;have e2:(r.length-1+1) % r.length=0:=by rw[show r.length-1+1=r.length from by omega,Nat.mod_self]
   have e3:(r.length-1+2) % r.length=(0+1) % r.length:=by rw[oO (by omega) (by omega),fE (by omega)];omega
   rw[e2,e3]at this;exact this
  ·have e1:(i+r.length-1) % r.length=i-1:=by rw[oO (by omega) (by omega)];omega
   rw[e1]at this|-;have e2:(i-1+1) % r.length=i:=by rw[show i-1+1=i from by omega];exact fE hi
   have e3:i-1+2=i+1:=by omega
   rw[e2,e3]at this;exact this
theorem qE(r:aM):cO r=dK r:=by
 unfold cO dK;by_cases h3:3<=r.length
 case neg=>simp[h3]
 by_cases hn:near r=true
 case neg=>simp[hn]
 rw[Hs r h3];cases ht:((List.range r.length).all fun i=>cT (nth r i) (nth r ((i+1) % r.length)) (nth r ((i+2) % r.length)) !=0)with
 |false=>simp
 |true=>
  have hpairs:((List.range r.length).all fun i=>(List.range r.length).all fun k=>decide (k<=i)||k==i+1||(i==0&&k==r.length-1)||dQ (dL r i) (dL r k)==0)=
    ((List.range r.length).all fun i=>(List.range r.length).all fun k=>decide (k<=i)||
      (if k=i+1\/(i=0/\k=r.length-1)then dU (dL r i) (dL r k)==1 else dU (dL r i) (dL r k)==0)):=by
   have hturn:∀i,i<r.length->cT (nth r i) (nth r ((i+1) % r.length)) (nth r ((i+2) % r.length))≠0:=by
    intro i hi;rw[List.all_eq_true]at ht;have:=ht i (List.mem_range.2 hi);simpa using this
   have hpt:∀i k,i<r.length->k<r.length->(decide (k<=i)||k==i+1||(i==0&&k==r.length-1)||dQ (dL r i) (dL r k)==0)=(decide (k<=i)||
     (if k=i+1\/(i=0/\k=r.length-1)then dU (dL r i) (dL r k)==1 else dU (dL r i) (dL r k)==0)):=by
    intro i k hi hk;rw[<-uN];by_cases hki:k<=i
    ·simp[hki]
    ·by_cases h1:k=i+1
     ·subst h1;have:=Og (dL r i) (dL r (i+1)) (fO hn i hi) (fO hn _ hk) (by unfold dL nxt;simp[fE hk]) (by
       have:=hturn i hi;unfold dL nxt;exact this)
      simp[this]
     ·by_cases h2:i=0/\k=r.length-1
      ·obtain⟨rfl,rfl⟩:=h2;have e1:(r.length-1+1) % r.length=0:=by rw[show r.length-1+1=r.length from by omega,Nat.mod_self]
       have:=Og (dL r (r.length-1)) (dL r 0) (fO hn _ hk) (fO hn _ hi) (by unfold dL nxt;simp only[e1]) (by
        have:=hturn (r.length-1) hk;have e3:(r.length-1+2) % r.length=(0+1) % r.length:=by rw[oO (by omega) (by omega),fE (by omega)];omega
        rw[e1,e3]at this;unfold dL nxt;simp only[e1];exact this)
       rw[qP]at this;simp[this]
      ·have h3:(i==0&&k==r.length-1)=false:=by
        rw[<-Bool.not_eq_true,Bool.and_eq_true,beq_iff_eq,beq_iff_eq];exact h2
       have h4:(k==i+1)=false:=by rw[beq_eq_false_iff_ne];exact h1
       rw[if_neg (by omega),h3,h4]
       simp
   rw[Bool.eq_iff_iff];simp only[List.all_eq_true,List.mem_range];constructor
   ·intro h i hi k hk;rw[<-hpt i k hi hk];exact h i hi k hk
   ·intro h i hi k hk;rw[hpt i k hi hk];exact h i hi k hk
  rw[hpairs];simp only[Bool.and_true];grind
structure Pt where
 x:Int
 y:Int
 den:Int
deriving DecidableEq,Inhabited
def toV(p:Pt)(v:V):V:=⟨p.x-v.x*p.den,p.y-v.y*p.den⟩
def iK(s:S)(p:Pt):Int:=cross (sub s.b s.a) (toV p s.a)
def onP(s:S)(p:Pt):Bool:=
 iK s p==0&&(decide (min (toV p s.a).x (toV p s.b).x<=0)&&decide (0<=max (toV p s.a).x (toV p s.b).x))&&(decide (min (toV p s.a).y (toV p s.b).y<=0)&&decide (0<=max (toV p s.a).y (toV p s.b).y))
def sC(s:S)(p:Pt):Bool:=
 (decide (0<=(toV p s.a).y) !=decide (0<=(toV p s.b).y))&&(decide (0<=(toV p s.a).y)==decide (0<iK s p))
def onR(s:S)(p:Pt):Bool:=
 (decide (min s.a.x s.b.x*p.den<=p.x)&&decide (p.x<=max s.a.x s.b.x*p.den)&&decide (min s.a.y s.b.y*p.den<=p.y)&&decide (p.y<=max s.a.y s.b.y*p.den))&&sgn (iK s p)==0
def sB(s:S)(p:Pt):Bool:=
 ((decide (s.a.y*p.den<=p.y)&&decide (p.y<s.b.y*p.den))&&decide (0<sgn (iK s p)))||((decide (s.b.y*p.den<=p.y)&&decide (p.y<s.a.y*p.den))&&decide (sgn (iK s p)<0))
theorem Wf(a b d:Int)(h:0<=d):min a b*d=min (a*d) (b*d):=by
 rcases Int.le_total a b with h1|h1
 ·rw[Int.min_eq_left h1,Int.min_eq_left (Int.mul_le_mul_of_nonneg_right h1 h)]
 ·rw[Int.min_eq_right h1,Int.min_eq_right (Int.mul_le_mul_of_nonneg_right h1 h)]
theorem Wg(a b d:Int)(h:0<=d):max a b*d=max (a*d) (b*d):=by
 rcases Int.le_total a b with h1|h1
 ·rw[Int.max_eq_right h1,Int.max_eq_right (Int.mul_le_mul_of_nonneg_right h1 h)]
 ·rw[Int.max_eq_left h1,Int.max_eq_left (Int.mul_le_mul_of_nonneg_right h1 h)]
theorem aKZ(s:S)(p:Pt)(h:0<p.den):onP s p=onR s p:=by
 unfold onP onR toV;rw[Wf _ _ _ (by omega),Wg _ _ _ (by omega),Wf _ _ _ (by omega),Wg _ _ _ (by omega),Bool.eq_iff_iff]
 simp only[Bool.and_eq_true,decide_eq_true_eq,beq_iff_eq,mL];constructor
 ·rintro⟨⟨h1,h2,h3⟩,h4,h5⟩;exact⟨⟨⟨⟨by omega,by omega⟩,by omega⟩,by omega⟩,h1⟩
 ·rintro⟨⟨⟨⟨h1,h2⟩,h3⟩,h4⟩,h5⟩;exact⟨⟨h5,by omega,by omega⟩,by omega,by omega⟩
theorem Sw(s:S)(p:Pt)(h0:iK s p=0)(ha:(toV p s.a).y<0)(hb:0<=(toV p s.b).y)(_hd:0<p.den):onP s p=true:=by
 have e:iK s p*p.den=(toV p s.a).x*(toV p s.b).y-(toV p s.a).y*(toV p s.b).x:=by unfold iK toV cross sub;grind
 rw[h0,Int.zero_mul]at e;unfold onP;rw[h0];generalize (toV p s.a).x=ax at*;generalize (toV p s.a).y=ay at*;generalize (toV p s.b).x=bx at*;generalize (toV p s.b).y=b_y at*;simp only[BEq.rfl,Bool.true_and,Bool.and_eq_true,decide_eq_true_eq];have hx:(min ax bx<=0/\0<=max ax bx):=by
  rcases Int.lt_or_le 0 ax with h1|h1
  ·have h2:bx<=0:=by
    rcases Int.lt_or_le 0 bx with h2|h2
    ·have p1:=Int.mul_neg_of_neg_of_pos ha h2;have p2:=Int.mul_nonneg (show 0<=ax by omega) hb
     omega
    ·exact h2
   omega
  ·rcases Int.lt_or_le ax 0 with h1|h1
   ·have h2:0<=bx:=by
     rcases Int.lt_or_le bx 0 with h2|h2
     ·have p1:=Int.mul_pos_of_neg_of_neg ha h2;have p2:=Int.mul_nonneg (show 0<= -ax by omega) hb
      rw[Int.neg_mul]at p2;omega
     ·exact h2
    omega
   ·omega
 refine⟨hx,by omega,by omega⟩
theorem aGR(s:S)(p:Pt)(h:0<p.den)(ho:onP s p=false):sC s p=sB s p:=by
 have key:(toV p s.a).y<0->0<=(toV p s.b).y->iK s p≠0:=by
  intro h1 h2 h3;rw[Sw s p h3 h1 h2 h]at ho;cases ho
 unfold sC sB;rw[Bool.eq_iff_iff];simp only[Bool.and_eq_true,Bool.or_eq_true,decide_eq_true_eq,bne_iff_ne,ne_eq,beq_iff_eq,Kq,aC4,decide_eq_decide];have ey1:(toV p s.a).y=p.y-s.a.y*p.den:=rfl;have ey2:(toV p s.b).y=p.y-s.b.y*p.den:=rfl;generalize (toV p s.a).y=ay at*;generalize (toV p s.b).y=b_y at*;generalize s.a.y*p.den=u at*;generalize s.b.y*p.den=v at*;generalize iK s p=q at*;by_cases h1:0<=ay
 ·by_cases h2:0<=b_y
  ·simp only[h1,h2];constructor
   ·intro h;exact absurd trivial h.1
   ·rintro(h|h)<;>omega
  ·constructor
   ·rintro⟨_,h3⟩;left;exact⟨⟨by omega,by omega⟩,h3.1 h1⟩
   ·rintro(⟨_,h3⟩|h3)
    ·exact⟨by omega,by omega⟩
    ·omega
 ·by_cases h2:0<=b_y
  ·have:=key (by omega) h2
   constructor
   ·rintro⟨_,h3⟩;right;refine⟨⟨by omega,by omega⟩,by omega⟩
   ·rintro(h3|⟨_,h3⟩)
    ·omega
    ·exact⟨by omega,by omega⟩
  ·simp only[h1,h2];constructor
   ·intro h;exact absurd trivial h.1
   ·rintro(h|h)<;>omega
def dN(p:Pt)(m:Int):Bool:=decide (1<=p.den)&&decide (p.den<=134217728)&&bG ⟨p.x,p.y⟩ (m*p.den)
def dG(p:Pt):Bool:=dN p 4000&&(Nat.gcd (Nat.gcd p.x.natAbs p.y.natAbs) p.den.natAbs==1)
def kK(p:Pt):List S->Bool->Int
 |[],ins=>if ins then 2 else 0
 |s::l,ins=>if onP s p then 1 else kK p l (ins !=sC s p)
def rM(p:Pt):List S->Bool->Int
 |[],ins=>if ins then 2 else 0
 |s::l,ins=>if onR s p then 1 else rM p l (ins !=sB s p)
theorem aC5(p:Pt)(h:0<p.den)(l:List S)(ins:Bool):kK p l ins=rM p l ins:=by
 induction l generalizing ins with
 |nil=>rfl
 |cons s l ih=>
  unfold kK rM;rw[<-aKZ s p h];cases ho:onP s p with
  |true=>rfl
  |false=>rw[ih,aGR s p h ho]
def cI(r:aM)(p:Pt):Int:=if !(cO r)|| !(dG p)then 0 else kK p (aD r) false
def dM(r:aM)(p:Pt):Int:=if !(dK r)|| !(dG p)then 0 else rM p (aD r) false
theorem Di(r:aM)(p:Pt):cI r p=dM r p:=by
 unfold cI dM;rw[qE];cases hp:dG p with
 |false=>simp
 |true=>
  have:0<p.den:=by
   unfold dG dN at hp;simp only[Bool.and_eq_true,decide_eq_true_eq]at hp;omega
  rw[aC5 p this]
def pT(v:V):Pt:=⟨v.x,v.y,1⟩
def dS(r:aM)(v:V):Int:=if !(bG v 4000)then 0 else cI r (pT v)
def hU(r:aM)(v:V):Int:=if !(bG v 8000)then 0 else dM r (pT v)
theorem Lt(v:V):dG (pT v)=bG v 4000:=by
 unfold dG dN pT bG;simp
theorem uT(r:aM)(v:V):dS r v=hU r v:=by
 unfold dS hU;rw[Di];cases h:bG v 4000 with
 |true=>rw[mR h (by omega)]
 |false=>
  unfold dM;rw[Lt,h];simp
end Go.Proofs.YtdaeofhdgabhjaaGreat.Geo
namespace Go.Proofs.YtdaeofhdgabhjaaGreat.Geo
structure Shape where
 outer:aM
 holes:List aM
deriving DecidableEq,Inhabited
def aA(s:Shape):List aM:=s.outer::s.holes
def aC(l:List aM)(i:Nat):aM:=l.getD i []
def eQ(a b:aM):Bool:=(aD a).all fun x=>(aD b).all fun y=>dQ x y==0
def cR(r q:aM)(place:Int):Bool:=r.all fun v=>dS q v==place
def eN(s:Shape):Nat:=((aA s).map List.length).sum
def aR(s:Shape):Bool:=
 decide (s.holes.length<=6)&&(aA s).all cO&&decide (eN s<=80)&&
 ((List.range s.holes.length).all fun i=>cR (aC s.holes i) s.outer 2&&eQ (aC s.holes i) s.outer&&
   ((List.range i).all fun k=>eQ (aC s.holes i) (aC s.holes k)&&cR (aC s.holes i) (aC s.holes k) 0&&cR (aC s.holes k) (aC s.holes i) 0))
def gI(a b:aM):Bool:=(aD a).any fun x=>(aD b).any fun y=>dU x y !=0
def iA(a b:aM):Bool:=a.all fun v=>hU b v==2
def fA(a b:aM):Bool:=a.any fun v=>hU b v==2
def bP(s:Shape):Bool:=
 decide (s.holes.length<=6)&&dK s.outer&&
 ((List.range s.holes.length).all fun i=>dK (aC s.holes i)&& !gI (aC s.holes i) s.outer&&iA (aC s.holes i) s.outer&&
   ((List.range i).all fun k=> !gI (aC s.holes i) (aC s.holes k)&& !fA (aC s.holes i) (aC s.holes k)&& !fA (aC s.holes k) (aC s.holes i)))&&
 decide (eN s<=80)
theorem Qp(a b:aM):eQ a b= !gI a b:=by
 unfold eQ gI;rw[List.not_any_eq_all_not]
 congr 1;funext x
 rw[List.not_any_eq_all_not]
 congr 1;funext y
 rw[uN];cases h:(dU x y==0)<;>simp_all
theorem nM{s t:S}{p:V}(hp:p∈[s.a,s.b,t.a,t.b])(ho:cJ s t p):dQ s t≠0:=by
 have h:=xQ s t;have hv:(bQ s&&bQ t)=true:=by
  obtain⟨h1,h2⟩:=ho;unfold onS at h1 h2;simp only[Bool.and_eq_true]at h1 h2|-;exact⟨h1.1.1,h2.1.1⟩
 by_cases hu:∀p q,p∈[s.a,s.b,t.a,t.b]->q∈[s.a,s.b,t.a,t.b]->cJ s t p->cJ s t q->p=q
 ·rw[h.touch hv hu ⟨p,hp,ho⟩];decide
 ·have:∃p q,p∈[s.a,s.b,t.a,t.b]/\q∈[s.a,s.b,t.a,t.b]/\p≠q/\cJ s t p/\cJ s t q:=by
   apply Classical.byContradiction;intro hno;apply hu;intro p q hp hq a b;apply Classical.byContradiction;intro hne;exact hno ⟨p,q,hp,hq,hne,a,b⟩
  obtain⟨p,q,hp,hq,hne,a,b⟩:=this;rw[h.over p q hp hq hne a b];decide
theorem qO{r:aM}{s:S}:s∈aD r↔2<=r.length/\∃i,i<r.length/\s=dL r i:=by
 unfold aD;split
 ·simp;omega
 ·simp only[List.mem_map,List.mem_range];constructor
  ·rintro⟨i,hi,rfl⟩;exact⟨by omega,i,hi,rfl⟩
  ·rintro⟨_,i,hi,rfl⟩;exact⟨i,hi,rfl⟩
theorem fJ{r:aM}{v:V}:v∈r↔∃i,i<r.length/\v=nth r i:=by
 unfold nth;constructor
 ·intro h;obtain⟨i,hi,e⟩:=List.getElem_of_mem h;exact⟨i,hi,by rw[List.getD_eq_getElem?_getD,List.getElem?_eq_getElem hi];exact e.symm⟩
 ·rintro⟨i,hi,rfl⟩;rw[List.getD_eq_getElem?_getD,List.getElem?_eq_getElem hi];exact List.getElem_mem hi
structure VR(r:aM):Prop where
 three:3<=r.length
 most:r.length<=40
 near:near r=true
 dX:0<dX r
 cT:∀i,i<r.length->cT (prv r i) (nth r i) (nxt r i)≠0
 turn':∀i,i<r.length->Geo.cT (nth r i) (nth r ((i+1) % r.length)) (nth r ((i+2) % r.length))≠0
 apart:∀i k,i<k->k<r.length->k≠i+1->¬(i=0/\k=r.length-1)->dQ (dL r i) (dL r k)=0
theorem eZ(r:aM):cO r=true↔VR r:=by
 constructor
 ·intro h;unfold cO at h;simp only[Bool.and_eq_true,decide_eq_true_eq,List.all_eq_true,List.mem_range]at h;obtain⟨⟨⟨⟨⟨h1,h2⟩,h3⟩,h4⟩,h5⟩,h6⟩:=h;refine⟨h1,h2,h3,h4,fun i hi=>by simpa using h5 i hi,fun i hi=> ?_,fun i k hik hk h7 h8=> ?_⟩
  ·have:=Hs r h1;have e:((List.range r.length).all fun i=>Geo.cT (prv r i) (nth r i) (nxt r i) !=0)=true:=by
    rw[List.all_eq_true];intro i hi;exact h5 i (List.mem_range.1 hi)
   rw[this,List.all_eq_true]at e;simpa using e i (List.mem_range.2 hi)
  ·have:=h6 i (by omega) k hk
   simp only[Bool.or_eq_true,decide_eq_true_eq,beq_iff_eq,Bool.and_eq_true]at this;omega
 ·rintro⟨h1,h2,h3,h4,h5,_,h6⟩;unfold cO;simp only[Bool.and_eq_true,decide_eq_true_eq,List.all_eq_true,List.mem_range];refine⟨⟨⟨⟨⟨h1,h2⟩,h3⟩,h4⟩,fun i hi=>by simpa using h5 i hi⟩,fun i _ k hk=> ?_⟩
  simp only[Bool.or_eq_true,decide_eq_true_eq,beq_iff_eq,Bool.and_eq_true];by_cases c1:k<=i
  ·exact .inl (.inl (.inl c1))
  ·by_cases c2:k=i+1
   ·exact .inl (.inl (.inr c2))
   ·by_cases c3:i=0/\k=r.length-1
    ·exact .inl (.inr c3)
    ·exact .inr (h6 i k (by omega) hk c2 c3)
theorem aBE{p:Pt}{l:List S}{ins:Bool}(h:kK p l ins=1):∃s∈l,onP s p=true:=by
 induction l generalizing ins with
 |nil=>unfold kK at h;split at h<;>omega
 |cons s l ih=>
  unfold kK at h;cases ho:onP s p with
  |true=>exact⟨s,by simp,ho⟩
  |false=>
   rw[ho]at h;obtain⟨x,hx,h2⟩:=ih h;exact⟨x,List.mem_cons_of_mem _ hx,h2⟩
theorem Sl(p:Pt)(l:List S)(ins:Bool):kK p l ins=0\/kK p l ins=1\/kK p l ins=2:=by
 induction l generalizing ins with
 |nil=>unfold kK;split<;>simp
 |cons s l ih=>unfold kK;split;simp;exact ih _
theorem Gu(r:aM)(v:V):dS r v=0\/dS r v=1\/dS r v=2:=by
 unfold dS cI;split
 ·simp
 ·split
  ·simp
  ·exact Sl _ _ _
theorem aBS(s:S)(v:V):onP s (pT v)=true↔(iM s v=true/\cross (sub s.b s.a) (sub v s.a)=0):=by
 unfold onP iK toV pT iM;simp only[Int.mul_one,Bool.and_eq_true,beq_iff_eq,decide_eq_true_eq];rw[show(⟨v.x-s.a.x,v.y-s.a.y⟩:V)=sub v s.a from rfl]
 constructor
 ·rintro⟨⟨h1,h2,h3⟩,h4,h5⟩;exact⟨⟨⟨⟨by omega,by omega⟩,by omega⟩,by omega⟩,h1⟩
 ·rintro⟨⟨⟨⟨h1,h2⟩,h3⟩,h4⟩,h5⟩;exact⟨⟨h5,by omega,by omega⟩,by omega,by omega⟩
theorem Pi{r:aM}{v:V}(h:dS r v=1):∃s∈aD r,onS s v=true:=by
 unfold dS cI at h;split at h
 ·omega
 ·split at h
  ·omega
  ·rename_i h2;obtain⟨s,hs,ho⟩:=aBE h;refine⟨s,hs,?_⟩;have hv:VR r:=by rw[<-eZ];simp at h2;exact h2.1
   obtain⟨_,i,hi,rfl⟩:=qO.1 hs;rw[fT (fO hv.near i hi)];exact(aBS _ _).1 ho
theorem lN{a b:aM}(ha:VR a)(h:eQ a b=true){v:V}(hv:v∈a){s:S}(hs:s∈aD b)(ho:onS s v=true):False:=by
 obtain⟨i,hi,rfl⟩:=fJ.1 hv;have hm:dL a i∈aD a:=qO.2 ⟨by have:=ha.three;omega,i,hi,rfl⟩
 unfold eQ at h;rw[List.all_eq_true]at h;have h1:=h _ hm;rw[List.all_eq_true]at h1;have h2:=h1 _ hs;refine nM (s:=dL a i) (t:=s) (p:=nth a i) (by simp[dL]) ⟨?_,ho⟩ (by simpa using h2)
 exact kW (s:=dL a i) (fO ha.near i hi)
theorem mX(a b:aM):eQ a b=eQ b a:=by
 unfold eQ;rw[Bool.eq_iff_iff];simp only[List.all_eq_true,beq_iff_eq];constructor
 ·intro h y hy x hx;rw[qP];exact h x hx y hy
 ·intro h x hx y hy;rw[qP];exact h y hy x hx
theorem lJ{a b:aM}(ha:VR a)(h:eQ a b=true):cR a b 0= !fA a b:=by
 unfold cR fA;rw[List.not_any_eq_all_not,Bool.eq_iff_iff];simp only[List.all_eq_true];constructor
 ·intro h1 v hv;have:=h1 v hv;rw[<-uT];simp only[beq_iff_eq]at this;rw[this];rfl
 ·intro h1 v hv;have:=h1 v hv;rw[<-uT]at this;rcases Gu b v with e|e|e
  ·rw[e];rfl
  ·exfalso;obtain⟨s,hs,ho⟩:=Pi e;exact lN ha h hv hs ho
  ·rw[e]at this;cases this
theorem eM{l:List aM}{i:Nat}(h:i<l.length):aC l i∈l:=by
 unfold aC;rw[List.getD_eq_getElem?_getD,List.getElem?_eq_getElem h];exact List.getElem_mem h
theorem tI{l:List aM}{r:aM}(h:r∈l):∃i,i<l.length/\r=aC l i:=by
 obtain⟨i,hi,e⟩:=List.getElem_of_mem h;exact⟨i,hi,by unfold aC;rw[List.getD_eq_getElem?_getD,List.getElem?_eq_getElem hi];exact e.symm⟩
structure VS(s:Shape):Prop where
 few:s.holes.length<=6
 outer:VR s.outer
 hole:∀i,i<s.holes.length->VR (aC s.holes i)
 corners:eN s<=80
 ins:∀i,i<s.holes.length->cR (aC s.holes i) s.outer 2=true
 apo:∀i,i<s.holes.length->eQ (aC s.holes i) s.outer=true
 aph:∀i k,k<i->i<s.holes.length->eQ (aC s.holes i) (aC s.holes k)=true
 out1:∀i k,k<i->i<s.holes.length->cR (aC s.holes i) (aC s.holes k) 0=true
 out2:∀i k,k<i->i<s.holes.length->cR (aC s.holes k) (aC s.holes i) 0=true
theorem iZ(s:Shape):aR s=true↔VS s:=by
 unfold aR;simp only[Bool.and_eq_true,decide_eq_true_eq,List.all_eq_true,List.mem_range];constructor
 ·rintro⟨⟨⟨h1,h2⟩,h3⟩,h4⟩;exact⟨h1,(eZ _).1 (h2 _ (by simp[aA])),fun i hi=>(eZ _).1 (h2 _ (by simp[aA];exact .inr (eM hi))),h3,fun i hi=>(h4 i hi).1.1,fun i hi=>(h4 i hi).1.2,fun i k hk hi=>((h4 i hi).2 k hk).1.1,fun i k hk hi=>((h4 i hi).2 k hk).1.2,fun i k hk hi=>((h4 i hi).2 k hk).2⟩
 ·rintro⟨h1,h2,h3,h4,h5,h6,h7,h8,h9⟩;refine⟨⟨⟨h1,?_⟩,h4⟩,fun i hi=>⟨⟨h5 i hi,h6 i hi⟩,fun k hk=>⟨⟨h7 i k hk hi,h8 i k hk hi⟩,h9 i k hk hi⟩⟩⟩
  intro r hr;unfold aA at hr;rcases List.mem_cons.1 hr with rfl|hr
  ·exact(eZ _).2 h2
  ·obtain⟨i,hi,rfl⟩:=tI hr;exact(eZ _).2 (h3 i hi)
theorem iG(s:Shape):aR s=bP s:=by
 rw[Bool.eq_iff_iff,iZ];unfold bP;simp only[Bool.and_eq_true,decide_eq_true_eq,List.all_eq_true,List.mem_range,<-Qp];constructor
 ·rintro⟨h1,h2,h3,h4,h5,h6,h7,h8,h9⟩;refine⟨⟨⟨h1,by rw[<-qE];exact(eZ _).2 h2⟩,fun i hi=>⟨⟨⟨by rw[<-qE];exact(eZ _).2 (h3 i hi),h6 i hi⟩,?_⟩,fun k hk=>⟨⟨h7 i k hk hi,?_⟩,?_⟩⟩⟩,h4⟩
  ·have:=h5 i hi;unfold cR at this;unfold iA;rw[List.all_eq_true]at this|-;intro v hv;rw[<-uT];exact this v hv
  ·rw[<-lJ (h3 i hi) (h7 i k hk hi)];exact h8 i k hk hi
  ·rw[<-lJ (h3 k (by omega)) (by rw[mX];exact h7 i k hk hi)];exact h9 i k hk hi
 ·rintro⟨⟨⟨h1,h2⟩,h3⟩,h4⟩;have hr:∀i,i<s.holes.length->VR (aC s.holes i):=fun i hi=>by have:=(h3 i hi).1.1.1;rw[<-qE]at this;exact(eZ _).1 this
  refine⟨h1,by rw[<-qE]at h2;exact(eZ _).1 h2,hr,h4,fun i hi=> ?_,fun i hi=>(h3 i hi).1.1.2,fun i k hk hi=>((h3 i hi).2 k hk).1.1,fun i k hk hi=> ?_,fun i k hk hi=> ?_⟩
  ·have:=(h3 i hi).1.2;unfold iA at this;unfold cR;rw[List.all_eq_true]at this|-;intro v hv;rw[uT];exact this v hv
  ·rw[lJ (hr i hi) ((h3 i hi).2 k hk).1.1];exact((h3 i hi).2 k hk).1.2
  ·rw[lJ (hr k (by omega)) (by rw[mX];exact((h3 i hi).2 k hk).1.1)];exact((h3 i hi).2 k hk).2
end Go.Proofs.YtdaeofhdgabhjaaGreat.Geo
namespace Go.Proofs.YtdaeofhdgabhjaaGreat.Geo
def bV(r:aM):Nat->Nat
 |0=>0
 |n+1=>if cH (nth r n) (nth r (bV r n))then n else bV r n
def cE(r:aM):Nat:=bV r r.length
def dH(r:aM):aM:=r.drop (cE r)++r.take (cE r)
theorem wR(r:aM)(n:Nat)(h:0<n):bV r n<n:=by
 induction n with
 |zero=>omega
 |succ n ih=>
  unfold bV;split
  ·omega
  ·rcases Nat.eq_zero_or_pos n with rfl|h0
   ·simp[bV]
   ·have:=ih h0;omega
theorem rG(r:aM)(n i:Nat)(hi:i<n):leV (nth r (bV r n)) (nth r i):=by
 induction n with
 |zero=>omega
 |succ n ih=>
  unfold bV;split
  ·rename_i h;have h:=(fP _ _).1 h;have h':leV (nth r n) (nth r (bV r n)):=(nW _ _).elim id (fun x=>absurd x h)
   by_cases e:i=n
   ·subst e;exact iU _
   ·exact kQ h' (ih (by omega))
  ·rename_i h;have h:=(gF _ _).1 (by simpa using h)
   by_cases e:i=n
   ·subst e;exact h
   ·exact ih (by omega)
theorem wB(r:aM)(n i:Nat)(hi:i<bV r n):cH (nth r (bV r n)) (nth r i)=true:=by
 induction n with
 |zero=>simp[bV]at hi
 |succ n ih=>
  unfold bV at hi|-;split
  ·rename_i h;rw[if_pos h]at hi;rw[fP];have h1:=(fP _ _).1 h;intro h2;exact h1 (kQ (rG r n i hi) h2)
  ·rename_i h;rw[if_neg h]at hi;exact ih hi
theorem wT{r:aM}(h:0<r.length):cE r<r.length:=wR r _ h
theorem xC(r:aM):(dH r).Perm r:=by
 unfold dH;refine List.perm_append_comm.trans ?_;rw[List.take_append_drop]
theorem fM(r:aM):(dH r).length=r.length:=(xC r).length_eq
theorem VR.touch{r:aM}(h:VR r){i k:Nat}(hi:i<r.length)(hk:k<r.length)(ho:onS (dL r k) (nth r i)=true):i=k\/i=(k+1) % r.length:=by
 have h3:=h.three;have hb:onS (dL r i) (nth r i)=true:=kW (s:=dL r i) (fO h.near i hi);have hj:(i+r.length-1) % r.length<r.length:=Nat.mod_lt _ (by omega)
 have hje:((i+r.length-1) % r.length+1) % r.length=i:=by
  rw[Nat.mod_add_mod,show i+r.length-1+1=i+r.length from by omega,Nat.add_mod_right,fE hi]
 have hb2:onS (dL r ((i+r.length-1) % r.length)) (nth r i)=true:=by
  have:=rN (s:=dL r ((i+r.length-1) % r.length)) (fO h.near _ hj);unfold dL nxt at this;simp only[hje]at this;unfold dL nxt;rw[hje];exact this
 have meetsE:∀j,j<r.length->onS (dL r j) (nth r i)=true->(nth r i=nth r j\/nth r i=nxt r j)->j=k\/(j+1) % r.length=k\/(k+1) % r.length=j:=by
  intro j hj hoj hend;rcases Nat.lt_trichotomy j k with hlt|he|hgt
  ·by_cases h1:k=j+1
   ·right;left;rw[fE (by omega)];exact h1.symm
   ·by_cases h2:j=0/\k=r.length-1
    ·right;right;rw[h2.2,h2.1,show r.length-1+1=r.length from by omega,Nat.mod_self]
    ·exfalso;have:=h.apart j k hlt hk h1 h2;exact nM (s:=dL r j) (t:=dL r k) (p:=nth r i) (by rcases hend with e|e<;>simp[dL,e]) ⟨hoj,ho⟩ this
  ·exact .inl he
  ·by_cases h1:j=k+1
   ·right;right;rw[fE (by omega)];exact h1.symm
   ·by_cases h2:k=0/\j=r.length-1
    ·right;left;rw[h2.2,h2.1,show r.length-1+1=r.length from by omega,Nat.mod_self]
    ·exfalso;have:=h.apart k j hgt hj h1 h2;exact nM (s:=dL r k) (t:=dL r j) (p:=nth r i) (by rcases hend with e|e<;>simp[dL,e]) ⟨ho,hoj⟩ this
 have c1:=meetsE i hi hb (.inl rfl);rcases c1 with e|e|e
 ·exact .inl e
 ·
  have c2:=meetsE _ hj hb2 (.inr (by unfold nxt;rw[hje]))
  rcases c2 with e2|e2|e2
  ·right;rw[<-e2,hje]
  ·left;rw[hje]at e2;exact e2
  ·
   exfalso;have hk1:(k+1) % r.length=(i+2) % r.length:=by rw[<-e,Nat.mod_add_mod]
   have hn3:r.length=3:=by
    rw[hk1]at e2;by_cases hz:i=0
    ·subst hz;rw[fE (show 0+r.length-1<r.length by omega),fE (show 0+2<r.length by omega)]at e2
     omega
    ·rw[oO (show r.length<=i+r.length-1 by omega) (by omega)]at e2
     by_cases hz2:i+2<r.length
     ·rw[fE hz2]at e2;omega
     ·rw[oO (by omega) (by omega)]at e2;omega
   apply h.turn' i hi;have:=((fT (fO h.near k hk)).1 ho).2;rw[Nb];unfold Geo.cT;rw[mL];unfold dL nxt at this;simp only at this;rw[e,<-hk1];exact this
 ·exact .inr e.symm
theorem VR.inj{r:aM}(h:VR r){i k:Nat}(hi:i<r.length)(hk:k<r.length)(he:nth r i=nth r k):i=k:=by
 have h3:=h.three;have ho:onS (dL r k) (nth r i)=true:=by rw[he];exact kW (s:=dL r k) (fO h.near k hk)
 rcases h.touch hi hk ho with e|e
 ·exact e
 ·
  exfalso;have ho2:onS (dL r i) (nth r k)=true:=by rw[<-he];exact kW (s:=dL r i) (fO h.near i hi)
  have ht:=h.turn' k hk;apply ht;rw[<-e,he];unfold Geo.cT;rw[mL];simp[cross,sub]
theorem VR.nodup{r:aM}(h:VR r):r.Nodup:=by
 rw[List.nodup_iff_pairwise_ne,List.pairwise_iff_getElem];intro i j hi hj hij e;have:=h.inj hi hj (by unfold nth;rw[List.getD_eq_getElem?_getD,List.getD_eq_getElem?_getD,List.getElem?_eq_getElem hi,List.getElem?_eq_getElem hj];simpa using e)
 omega
theorem VR.Xj{r:aM}(h:VR r){v:V}(hv:v∈r){s:S}(hs:s∈aD r)(ho:onS s v=true):v=s.a\/v=s.b:=by
 obtain⟨i,hi,rfl⟩:=fJ.1 hv;obtain⟨_,k,hk,rfl⟩:=qO.1 hs;rcases h.touch hi hk ho with e|e
 ·left;rw[e];rfl
 ·right;rw[e];rfl
def eP(s:Shape):List V:=(aA s).flatten
def aY(s:Shape):List S:=(aA s).flatMap aD
theorem VS.ring{s:Shape}(h:VS s){r:aM}(hr:r∈aA s):VR r:=by
 unfold aA at hr;rcases List.mem_cons.1 hr with rfl|hr
 ·exact h.outer
 ·obtain⟨i,hi,rfl⟩:=tI hr;exact h.hole i hi
theorem VS.pair{s:Shape}(h:VS s):(aA s).Pairwise (fun a b=>eQ a b=true):=by
 unfold aA;rw[List.pairwise_cons];refine⟨fun r hr=> ?_,?_⟩
 ·obtain⟨i,hi,rfl⟩:=tI hr;rw[mX];exact h.apo i hi
 ·rw[List.pairwise_iff_getElem];intro i k hi hk hik;have:=h.aph k i hik hk;unfold aC at this;rw[List.getD_eq_getElem?_getD,List.getD_eq_getElem?_getD,List.getElem?_eq_getElem hi,List.getElem?_eq_getElem hk]at this;rw[mX];exact this
theorem Fa:∀(l:List aM),(∀r∈l,VR r)->l.Pairwise (fun a b=>eQ a b=true)->∀v∈l.flatten,∀e∈l.flatMap aD,onS e v=true->v=e.a\/v=e.b
 |[],_,_,v,hv,_,_,_=>by simp at hv
 |r::l,hr,hp,v,hv,e,he,ho=>by
  rw[List.pairwise_cons]at hp;rw[List.flatten_cons,List.mem_append]at hv;rw[List.flatMap_cons,List.mem_append]at he;rcases hv with hv|hv<;>rcases he with he|he
  ·exact(hr r (by simp)).Xj hv he ho
  ·rw[List.mem_flatMap]at he;obtain⟨q,hq,he⟩:=he;exact(lN (hr r (by simp)) (hp.1 q hq) hv he ho).elim
  ·rw[List.mem_flatten]at hv;obtain⟨q,hq,hv⟩:=hv;exact(lN (hr q (by simp[hq])) (by rw[mX];exact hp.1 q hq) hv he ho).elim
  ·exact Fa l (fun x hx=>hr x (by simp[hx])) hp.2 v hv e he ho
theorem Fb:∀(l:List aM),(∀r∈l,VR r)->l.Pairwise (fun a b=>eQ a b=true)->l.flatten.Nodup
 |[],_,_=>by simp
 |r::l,hr,hp=>by
  rw[List.pairwise_cons]at hp;rw[List.flatten_cons,List.nodup_append];refine⟨(hr r (by simp)).nodup,Fb l (fun x hx=>hr x (by simp[hx])) hp.2,?_⟩
  rintro a ha b hb rfl;rw[List.mem_flatten]at hb;obtain⟨q,hq,hb⟩:=hb;have hvq:=hr q (by simp[hq])
  obtain⟨i,hi,rfl⟩:=fJ.1 hb;exact lN (hr r (by simp)) (hp.1 q hq) ha (qO.2 ⟨by have:=hvq.three;omega,i,hi,rfl⟩) (kW (s:=dL q i) (fO hvq.near i hi))
theorem VS.touch{s:Shape}(h:VS s){v:V}(hv:v∈eP s){e:S}(he:e∈aY s)(ho:onS e v=true):v=e.a\/v=e.b:=
 Fa _ (fun _ hr=>h.ring hr) h.pair v hv e he ho
theorem VS.nodup{s:Shape}(h:VS s):(eP s).Nodup:=Fb _ (fun _ hr=>h.ring hr) h.pair
end Go.Proofs.YtdaeofhdgabhjaaGreat.Geo
namespace Go.Proofs.YtdaeofhdgabhjaaGreat.Geo
def xD:List aM->aM->List aM
 |[],h=>[h]
 |q::l,h=>if cH (nth q 0) (nth h 0)then q::xD l h else h::q::l
def xG(l:List aM):List aM:=l.foldl xD []
def cY(s:Shape):Shape:=⟨dH s.outer,xG (s.holes.map dH)⟩
theorem Ir(l:List aM)(h:aM):(xD l h).Perm (h::l):=by
 induction l with
 |nil=>exact List.Perm.refl _
 |cons q l ih=>
  unfold xD;split
  ·exact(List.Perm.cons q ih).trans (List.Perm.swap h q l)
  ·exact List.Perm.refl _
theorem Bw(l acc:List aM):(l.foldl xD acc).Perm (acc++l):=by
 induction l generalizing acc with
 |nil=>simp
 |cons q l ih=>
  rw[List.foldl_cons];refine(ih _).trans ?_;refine((Ir acc q).append_right l).trans ?_;rw[List.cons_append];exact List.perm_middle.symm
theorem kF(l:List aM):(xG l).Perm l:=by
 unfold xG;have:=Bw l [];rwa[List.nil_append]at this
def leH(a b:aM):Prop:=leV (nth a 0) (nth b 0)
theorem Qe(l:List aM)(h:aM)(hl:l.Pairwise leH):(xD l h).Pairwise leH:=by
 induction l with
 |nil=>simp[xD]
 |cons q l ih=>
  rw[List.pairwise_cons]at hl;unfold xD;split
  ·rename_i hq;rw[List.pairwise_cons];refine⟨fun x hx=> ?_,ih hl.2⟩
   have hx:=(Ir l h).subset hx;rcases List.mem_cons.1 hx with rfl|hx
   ·exact(nW _ _).elim id (fun e=>absurd e ((fP _ _).1 hq))
   ·exact hl.1 x hx
  ·rename_i hq;have hq:=(gF _ _).1 (by simpa using hq)
   rw[List.pairwise_cons,List.pairwise_cons];refine⟨fun x hx=> ?_,hl⟩
   rcases List.mem_cons.1 hx with rfl|hx
   ·exact hq
   ·exact kQ hq (hl.1 x hx)
theorem yV(l acc:List aM)(h:acc.Pairwise leH):(l.foldl xD acc).Pairwise leH:=by
 induction l generalizing acc with
 |nil=>exact h
 |cons q l ih=>exact ih _ (Qe acc q h)
theorem Lx(l:List aM):(xG l).Pairwise leH:=yV l [] List.Pairwise.nil
theorem uJ:∀(l:List aM),l.flatten.Nodup->∀a∈l,∀b∈l,∀x,x∈a->x∈b->a=b
 |[],_,a,ha,_,_,_,_,_=>by cases ha
 |r::l,h,a,ha,b,hb,x,hxa,hxb=>by
  rw[List.flatten_cons,List.nodup_append]at h;obtain⟨h1,h2,h3⟩:=h;rcases List.mem_cons.1 ha with ea|ha'<;>rcases List.mem_cons.1 hb with eb|hb'
  ·rw[ea,eb]
  ·rw[ea]at hxa;exact(h3 x hxa x (List.mem_flatten.2 ⟨_,hb',hxb⟩) rfl).elim
  ·rw[eb]at hxb;exact(h3 x hxb x (List.mem_flatten.2 ⟨_,ha',hxa⟩) rfl).elim
  ·exact uJ l h2 a ha' b hb' x hxa hxb
theorem pP(l:List aM):((l.map dH).flatten).Perm l.flatten:=by
 induction l with
 |nil=>exact List.Perm.refl _
 |cons r l ih=>
  rw[List.map_cons,List.flatten_cons,List.flatten_cons];exact(xC r).append ih
theorem kT(s:Shape):(eP (cY s)).Perm (eP s):=by
 unfold eP aA cY;simp only[List.flatten_cons];refine(xC _).append ?_;exact((kF _).flatten).trans (pP _)
def lD(p:Pt):List aM->Int->Int
 |[],w=>w
 |h::l,w=>if cI h p=2 then 0 else if cI h p=1 then 1 else lD p l w
def dZ(s:Shape)(p:Pt):Int:=
 if !(aR s)then 0 else if cI s.outer p≠2 then cI s.outer p else lD p s.holes 2
def lT(p:Pt):List aM->Int->Int
 |[],w=>w
 |h::l,w=>if dM h p=2 then 0 else if dM h p=1 then 1 else lT p l w
def fH(s:Shape)(p:Pt):Int:=if !(bP s)then 0 else lT p s.holes (dM s.outer p)
theorem aB8(p:Pt)(l:List aM)(w:Int):lD p l w=lT p l w:=by
 induction l with
 |nil=>rfl
 |cons h l ih=>unfold lD lT;rw[Di,ih]
theorem Th(p:Pt)(l:List aM)(w:Int):lT p l w=2->w=2:=by
 induction l with
 |nil=>exact id
 |cons h l ih=>unfold lT;split;omega;split;omega;exact ih
theorem El(s:Shape)(p:Pt):(dZ s p==2)=(fH s p==2):=by
 unfold dZ fH;rw[iG,Di];cases bP s with
 |false=>rfl
 |true=>
  simp only[Bool.not_true,Bool.false_eq_true,if_false];by_cases h:dM s.outer p=2
  ·rw[if_neg (by omega),h,aB8]
  ·rw[if_pos h,Bool.eq_iff_iff,beq_iff_eq,beq_iff_eq];exact⟨fun e=>absurd e h,fun e=>absurd (Th _ _ _ e) h⟩
def fB(c:S):Pt:=
 if(c.a.x+c.b.x).tmod 2=0/\(c.a.y+c.b.y).tmod 2=0 then⟨(c.a.x+c.b.x).tdiv 2,(c.a.y+c.b.y).tdiv 2,1⟩else⟨c.a.x+c.b.x,c.a.y+c.b.y,2⟩
def iQ(l:List V):Int:=(l.map V.x).sum
def iP(l:List V):Int:=(l.map V.y).sum
def jG(l:List V):Pt:=
 let g:Int:=Nat.gcd (Nat.gcd (iQ l).natAbs (iP l).natAbs) l.length
 ⟨(iQ l).tdiv g,(iP l).tdiv g,(l.length:Int).tdiv g⟩
theorem mK(x:Int)(k:Nat):x.tmod k=0↔k∣x.natAbs:=by
 rw[<-Int.dvd_iff_tmod_eq_zero,Int.ofNat_dvd_left]
theorem Sz(a b:V):jG [a,b] =fB ⟨a,b⟩:=by
 unfold jG fB iQ iP;simp only[List.map_cons,List.map_nil,List.sum_cons,List.sum_nil,Int.add_zero,List.length_cons,List.length_nil];generalize a.x+b.x=x;generalize a.y+b.y=y;have hd:Nat.gcd (Nat.gcd x.natAbs y.natAbs) 2∣2:=Nat.gcd_dvd_right _ _;have hle:=Nat.le_of_dvd (by omega) hd
 have hpos:0<Nat.gcd (Nat.gcd x.natAbs y.natAbs) 2:=Nat.gcd_pos_of_pos_right _ (by omega)
 by_cases h:x.tmod 2=0/\y.tmod 2=0
 ·have e:Nat.gcd (Nat.gcd x.natAbs y.natAbs) 2=2:=Nat.gcd_eq_right (Nat.dvd_gcd ((mK x 2).1 h.1) ((mK y 2).1 h.2));rw[if_pos h,show(0+1+1:Nat)=2 from rfl,e]
  rfl
 ·have e:Nat.gcd (Nat.gcd x.natAbs y.natAbs) 2=1:=by
   rcases Nat.lt_or_ge (Nat.gcd (Nat.gcd x.natAbs y.natAbs) 2) 2 with h1|h1
   ·omega
   ·exfalso;have e2:Nat.gcd (Nat.gcd x.natAbs y.natAbs) 2=2:=by omega
    have d1:2∣Nat.gcd x.natAbs y.natAbs:=by
     have:=Nat.gcd_dvd_left (Nat.gcd x.natAbs y.natAbs) 2;rwa[e2]at this
    exact h ⟨(mK x 2).2 (Nat.dvd_trans d1 (Nat.gcd_dvd_left _ _)),(mK y 2).2 (Nat.dvd_trans d1 (Nat.gcd_dvd_right _ _))⟩
  rw[if_neg h,show(0+1+1:Nat)=2 from rfl,e]
  simp
def mC(a b c:V):Pt:=
 if(a.x+b.x+c.x).tmod 3=0/\(a.y+b.y+c.y).tmod 3=0 then⟨(a.x+b.x+c.x).tdiv 3,(a.y+b.y+c.y).tdiv 3,1⟩else⟨a.x+b.x+c.x,a.y+b.y+c.y,3⟩
theorem Sy(a b c:V):jG [a,b,c] =mC a b c:=by
 unfold jG mC iQ iP;simp only[List.map_cons,List.map_nil,List.sum_cons,List.sum_nil,Int.add_zero,List.length_cons,List.length_nil];rw[<-Int.add_assoc,<-Int.add_assoc];generalize a.x+b.x+c.x=x;generalize a.y+b.y+c.y=y;have hd:Nat.gcd (Nat.gcd x.natAbs y.natAbs) 3∣3:=Nat.gcd_dvd_right _ _;have hle:=Nat.le_of_dvd (by omega) hd
 have hpos:0<Nat.gcd (Nat.gcd x.natAbs y.natAbs) 3:=Nat.gcd_pos_of_pos_right _ (by omega)
 have h13:Nat.gcd (Nat.gcd x.natAbs y.natAbs) 3=1\/Nat.gcd (Nat.gcd x.natAbs y.natAbs) 3=3:=by
  generalize Nat.gcd (Nat.gcd x.natAbs y.natAbs) 3=g at*;obtain⟨q,hq⟩:=hd;match g,hle,hpos with
  |1,_,_=>exact .inl rfl
  |2,_,_=>omega
  |3,_,_=>exact .inr rfl
 by_cases h:x.tmod 3=0/\y.tmod 3=0
 ·have e:Nat.gcd (Nat.gcd x.natAbs y.natAbs) 3=3:=Nat.gcd_eq_right (Nat.dvd_gcd ((mK x 3).1 h.1) ((mK y 3).1 h.2));rw[if_pos h,show(0+1+1+1:Nat)=3 from rfl,e]
  rfl
 ·have e:Nat.gcd (Nat.gcd x.natAbs y.natAbs) 3=1:=by
   rcases h13 with h1|e2
   ·exact h1
   ·exfalso;have d1:3∣Nat.gcd x.natAbs y.natAbs:=by
     have:=Nat.gcd_dvd_left (Nat.gcd x.natAbs y.natAbs) 3;rwa[e2]at this
    exact h ⟨(mK x 3).2 (Nat.dvd_trans d1 (Nat.gcd_dvd_left _ _)),(mK y 3).2 (Nat.dvd_trans d1 (Nat.gcd_dvd_right _ _))⟩
  rw[if_neg h,show(0+1+1+1:Nat)=3 from rfl,e]
  simp
end Go.Proofs.YtdaeofhdgabhjaaGreat.Geo
namespace Go.Proofs.YtdaeofhdgabhjaaGreat.Geo
def Cy(s t:S):Bool:=s.a==t.a||s.a==t.b||s.b==t.a||s.b==t.b
def cM(s t:S):Bool:=dQ s t==0||(dQ s t==1&&Cy s t)
def oK(s:Shape)(c:S):Bool:=(aY s).all (fun e=>cM e c)&&dZ s (fB c)==2
def Ke(d e:S):Bool:=
 if dU d e=2\/dU d e=3 then false
 else if dU d e=1 then(nth (fK d e) 0==d.a||nth (fK d e) 0==d.b)else true
def Rw(s:Shape)(c:S):Bool:=(aY s).all (fun e=>Ke c e)&&(c.a !=c.b&&fH s (jG [c.a,c.b])==2)
theorem Bb(s t:S):dQ s t=0\/dQ s t=1\/dQ s t=2\/dQ s t=3:=by
 unfold dQ pV;simp only
 repeat' split
 all_goals simp
theorem zE{s t:S}(h:dQ s t=1):(bQ s=true/\bQ t=true)/\∃z,z∈ends s t/\cJ s t z/\(∀p,p∈ends s t->cJ s t p->p=z)/\fK s t=[z] :=by
 rw[uN]at h;have hm:=tX s t;unfold dU at h;split at h
 ·omega
 ·rename_i hv;split at h
  ·omega
  ·split at h
   ·rename_i h1;refine⟨by simp at hv;exact hv,?_⟩
    match hc:fK s t,h1 with
    |[z],_=>
     rw[hc]at hm;have hz:=(hm z).1 (by simp)
     exact⟨z,hz.1,hz.2,fun p hp ho=>by have:=(hm p).2 ⟨hp,ho⟩;simpa using this,rfl⟩
   ·split at h<;>omega
theorem aBP{s t:S}(h:dQ s t=3):∃p q,p≠q/\p∈ends s t/\q∈ends s t/\cJ s t p/\cJ s t q:=by
 rw[uN]at h;have hm:=tX s t;have hs:=uG ((ends s t).filter (fun p=>onS s p&&onS t p))
 rw[show jE ((ends s t).filter (fun p=>onS s p&&onS t p))=fK s t from rfl]at hs
 unfold dU at h;split at h
 ·omega
 ·split at h
  ·rename_i h1;match hc:fK s t,h1 with
   |z::y::r,_=>
    rw[hc]at hm hs;have hz:=(hm z).1 (by simp)
    have hy:=(hm y).1 (by simp)
    refine⟨z,y,?_,hz.1,hy.1,hz.2,hy.2⟩;rintro rfl;rw[List.pairwise_cons]at hs;have:=hs.1 z (by simp)
    rw[yN]at this;cases this
  ·split at h
   ·omega
   ·split at h<;>omega
theorem jV(s t:S)(p:V):p∈ends s t↔p=s.a\/p=s.b\/p=t.a\/p=t.b:=by unfold ends;simp
theorem wO(s t:S):Cy s t=true↔(s.a=t.a\/s.a=t.b\/s.b=t.a\/s.b=t.b):=by unfold Cy;simp[or_assoc]
theorem Jb{s:Shape}(h:VS s){c e:S}(ha:c.a∈eP s)(hb:c.b∈eP s)(he:e∈aY s):cM e c=Ke c e:=by
 unfold cM Ke;rw[qP e c,<-uN];rcases Bb c e with hk|hk|hk|hk
 ·rw[hk];simp
 ·rw[if_neg (by omega),if_pos hk,hk]
  obtain⟨⟨vc,ve⟩,z,hz,ho,hu,hcom⟩:=zE hk;rw[hcom];rw[show nth [z] 0=z from rfl]
  rw[Bool.eq_iff_iff];simp only[Bool.or_eq_true,beq_iff_eq,Bool.and_eq_true,wO];constructor
  ·rintro(h1|⟨_,h1⟩)
   ·omega
   ·rcases h1 with h1|h1|h1|h1
    ·left;exact(hu c.a (by rw[jV];simp) ⟨kW vc,by rw[<-h1];exact kW ve⟩).symm
    ·right;exact(hu c.b (by rw[jV];simp) ⟨rN vc,by rw[<-h1];exact kW ve⟩).symm
    ·left;exact(hu c.a (by rw[jV];simp) ⟨kW vc,by rw[<-h1];exact rN ve⟩).symm
    ·right;exact(hu c.b (by rw[jV];simp) ⟨rN vc,by rw[<-h1];exact rN ve⟩).symm
  ·rintro(h1|h1)
   ·right;refine⟨trivial,?_⟩;have:=h.touch ha he (by rw[<-h1];exact ho.2)
    rcases this with e1|e1
    ·exact .inl e1.symm
    ·exact .inr (.inr (.inl e1.symm))
   ·right;refine⟨trivial,?_⟩;have:=h.touch hb he (by rw[<-h1];exact ho.2)
    rcases this with e1|e1
    ·exact .inr (.inl e1.symm)
    ·exact .inr (.inr (.inr e1.symm))
 ·rw[hk];simp
 ·rw[hk];simp
theorem aCs{s:Shape}(h:VS s){c:S}(ha:c.a∈eP s)(hb:c.b∈eP s)(hne:c.a≠c.b):oK s c=Rw s c:=by
 unfold oK Rw;rw[Sz,El];have e1:((aY s).all fun e=>cM e c)=((aY s).all fun e=>Ke c e):=by
  rw[Bool.eq_iff_iff,List.all_eq_true,List.all_eq_true];constructor
  ·intro h1 e he;rw[<-Jb h ha hb he];exact h1 e he
  ·intro h1 e he;rw[Jb h ha hb he];exact h1 e he
 rw[e1];have e2:(c.a !=c.b)=true:=by simpa using hne
 rw[e2,Bool.true_and]
theorem Bn{s:Shape}(h:VS s){c:S}(hc:oK s c=true){p:V}(hp:p∈eP s)(ho:onS c p=true):p=c.a\/p=c.b:=by
 unfold eP at hp;rw[List.mem_flatten]at hp;obtain⟨r,hr,hpr⟩:=hp;have hvr:=h.ring hr;obtain⟨i,hi,rfl⟩:=fJ.1 hpr;have he:dL r i∈aY s:=List.mem_flatMap.2 ⟨r,hr,qO.2 ⟨by have:=hvr.three;omega,i,hi,rfl⟩⟩
 have ve:=fO hvr.near i hi;unfold oK at hc;rw[Bool.and_eq_true,List.all_eq_true]at hc;have ht:=hc.1 _ he;have hob:cJ (dL r i) c (nth r i):=⟨kW (s:=dL r i) ve,ho⟩;have hnz:=nM (s:=dL r i) (t:=c) (p:=nth r i) (by simp[dL]) hob
 unfold cM at ht;simp only[Bool.or_eq_true,beq_iff_eq,Bool.and_eq_true,wO]at ht;rcases ht with ht|⟨ht,hsh⟩
 ·exact absurd ht hnz
 ·obtain⟨⟨_,vc⟩,z,_,_,hu,_⟩:=zE ht;have e1:=hu (nth r i) (by rw[jV];simp[dL]) hob
  rw[e1];rcases hsh with h1|h1|h1|h1
  ·left;exact(hu c.a (by rw[jV];simp) ⟨by rw[<-h1];exact kW ve,kW vc⟩).symm
  ·right;exact(hu c.b (by rw[jV];simp) ⟨by rw[<-h1];exact kW ve,rN vc⟩).symm
  ·left;exact(hu c.a (by rw[jV];simp) ⟨by rw[<-h1];exact rN ve,kW vc⟩).symm
  ·right;exact(hu c.b (by rw[jV];simp) ⟨by rw[<-h1];exact rN ve,rN vc⟩).symm
theorem Qm{s:Shape}(h:VS s){c d:S}(hc:oK s c=true)(hd:oK s d=true)(c1:c.a∈eP s)(c2:c.b∈eP s)(d1:d.a∈eP s)(d2:d.b∈eP s)
  (hne:¬((c.a=d.a/\c.b=d.b)\/(c.a=d.b/\c.b=d.a))):cM c d=(dU d c !=2):=by
 rw[<-uN,qP d c];unfold cM;have hends:∀p,p∈ends c d->cJ c d p->(p=c.a\/p=c.b)/\(p=d.a\/p=d.b):=by
  intro p hp ho;have hpv:p∈eP s:=by rcases(jV _ _ _).1 hp with rfl|rfl|rfl|rfl<;>assumption
  exact⟨Bn h hc hpv ho.1,Bn h hd hpv ho.2⟩
 rcases Bb c d with hk|hk|hk|hk
 ·rw[hk];rfl
 ·rw[hk];have:Cy c d=true:=by
   obtain⟨_,z,hz,ho,_,_⟩:=zE hk;obtain⟨h1,h2⟩:=hends z hz ho;rw[wO];grind
  rw[this];rfl
 ·rw[hk];rfl
 ·exfalso;obtain⟨p,q,hpq,hp,hq,op,oq⟩:=aBP hk;have h1:=hends p hp op;have h2:=hends q hq oq;grind
end Go.Proofs.YtdaeofhdgabhjaaGreat.Geo
namespace Go.Proofs.YtdaeofhdgabhjaaGreat.Geo
def eY(v:List V)(p:Nat×Nat):S:=⟨nth v p.1,nth v p.2⟩
def Cp(s:Shape)(v:List V)(acc:List (Nat×Nat))(i k:Nat):List (Nat×Nat):=
 if !(acc.any fun d=> !(cM ⟨nth v i,nth v k⟩ (eY v d)))&&oK s ⟨nth v i,nth v k⟩then acc++[(i,k)]else acc
def rowP(s:Shape)(v:List V)(acc:List (Nat×Nat))(i:Nat):Nat->List (Nat×Nat)
 |0=>acc
 |m+1=>Cp s v (rowP s v acc i m) i (i+1+m)
def cU(s:Shape)(v:List V):Nat->List (Nat×Nat)
 |0=>[]
 |i+1=>rowP s v (cU s v i) i (v.length-(i+1))
def dI(s:Shape)(v:List V):List (Nat×Nat):=cU s v v.length
def aAk(s:Shape)(v:List V)(acc:List S)(i k:Nat):List S:=
 if Rw s ⟨nth v i,nth v k⟩&&(acc.all fun d=>dU d ⟨nth v i,nth v k⟩ !=2)then acc++[⟨nth v i,nth v k⟩]else acc
def aCF(s:Shape)(v:List V)(acc:List S)(i:Nat):Nat->List S
 |0=>acc
 |m+1=>aAk s v (aCF s v acc i m) i (i+1+m)
def Kf(s:Shape)(v:List V):Nat->List S
 |0=>[]
 |i+1=>aCF s v (Kf s v i) i (v.length-(i+1))
def aAG(s:Shape)(v:List V):List S:=Kf s v v.length
theorem dV{v:List V}{i:Nat}(h:i<v.length):nth v i∈v:=fJ.2 ⟨i,h,rfl⟩
theorem xP{v:List V}(hn:v.Nodup){i k:Nat}(hi:i<v.length)(hk:k<v.length)(e:nth v i=nth v k):i=k:=by
 unfold nth at e;rw[List.getD_eq_getElem?_getD,List.getD_eq_getElem?_getD,List.getElem?_eq_getElem hi,List.getElem?_eq_getElem hk]at e;simp only[Option.getD_some]at e;rw[List.nodup_iff_pairwise_ne,List.pairwise_iff_getElem]at hn;rcases Nat.lt_trichotomy i k with h|h|h
 ·exact absurd e (hn i k hi hk h)
 ·exact h
 ·exact absurd e.symm (hn k i hk hi h)
structure Found(s:Shape)(v:List V)(acc:List (Nat×Nat))(i k:Nat):Prop where
 lt:∀p∈acc,p.1<p.2/\p.2<v.length
 ahead:∀p∈acc,p.1<i\/(p.1=i/\p.2<k)
 chord:∀p∈acc,oK s (eY v p)=true
 apart:acc.Pairwise fun p q=>dU (eY v p) (eY v q)≠2
theorem Tz{s:Shape}(h:VS s){v:List V}(hv:∀x∈v,x∈eP s)(hn:v.Nodup){acc:List (Nat×Nat)}{i k:Nat}(hF:Found s v acc i k)(hik:i<k)(hk:k<v.length)(hc:oK s ⟨nth v i,nth v k⟩=true):
  (!(acc.any fun d=> !(cM ⟨nth v i,nth v k⟩ (eY v d))))=((acc.map (eY v)).all fun d=>dU d ⟨nth v i,nth v k⟩ !=2):=by
 rw[List.any_eq_not_all_not,Bool.not_not,List.all_map,Bool.eq_iff_iff,List.all_eq_true,List.all_eq_true];have key:∀d∈acc,cM ⟨nth v i,nth v k⟩ (eY v d)=(dU (eY v d) ⟨nth v i,nth v k⟩ !=2):=by
  intro d hd;obtain⟨h1,h2⟩:=hF.lt d hd;refine Qm h hc (hF.chord d hd) (hv _ (dV (by omega))) (hv _ (dV hk)) (hv _ (dV (by omega))) (hv _ (dV (by omega))) ?_
  rintro(⟨e1,e2⟩|⟨e1,e2⟩)
  ·have a1:=xP hn (by omega) (by omega) e1
   have a2:=xP hn (by omega) (by omega) e2
   rcases hF.ahead d hd with h3|h3<;>omega
  ·have a1:=xP hn (by omega) (by omega) e1
   have a2:=xP hn (by omega) (by omega) e2
   omega
 constructor
 ·intro hh d hd;have:=hh d hd;rw[Bool.not_not,key d hd]at this;exact this
 ·intro hh d hd;rw[Bool.not_not,key d hd];exact hh d hd
theorem aCY{s:Shape}(h:VS s){v:List V}(hv:∀x∈v,x∈eP s)(hn:v.Nodup){acc:List (Nat×Nat)}{i k:Nat}(hF:Found s v acc i k)(hik:i<k)(hk:k<v.length):
  (Cp s v acc i k).map (eY v)=aAk s v (acc.map (eY v)) i k/\Found s v (Cp s v acc i k) i (k+1):=by
 have hne:nth v i≠nth v k:=fun e=>by have:=xP hn (by omega) hk e;omega
 have hce:=aCs h (c:=⟨nth v i,nth v k⟩) (hv _ (dV (by omega))) (hv _ (dV hk)) hne
 unfold Cp aAk;cases hc:oK s ⟨nth v i,nth v k⟩with
 |false=>
  rw[hc]at hce;rw[<-hce];simp only[Bool.and_false,Bool.false_and,Bool.false_eq_true,if_false];exact⟨by trivial,hF.lt,fun p hp=>by have:=hF.ahead p hp;omega,hF.chord,hF.apart⟩
 |true=>
  rw[hc]at hce;rw[<-hce,Tz h hv hn hF hik hk hc,Bool.and_true,Bool.true_and];by_cases hx:((acc.map (eY v)).all fun d=>dU d ⟨nth v i,nth v k⟩ !=2)=true
  ·rw[if_pos hx,if_pos hx];refine⟨by rw[List.map_append];rfl,?_,?_,?_,?_⟩
   ·intro p hp;rcases List.mem_append.1 hp with hp|hp
    ·exact hF.lt p hp
    ·obtain rfl:=List.mem_singleton.1 hp;exact⟨hik,hk⟩
   ·intro p hp;rcases List.mem_append.1 hp with hp|hp
    ·have:=hF.ahead p hp;omega
    ·obtain rfl:=List.mem_singleton.1 hp;right;exact⟨rfl,by simp⟩
   ·intro p hp;rcases List.mem_append.1 hp with hp|hp
    ·exact hF.chord p hp
    ·obtain rfl:=List.mem_singleton.1 hp;exact hc
   ·rw[List.pairwise_append];refine⟨hF.apart,List.pairwise_singleton _ _,?_⟩;intro p hp q hq;obtain rfl:=List.mem_singleton.1 hq;rw[List.all_map,List.all_eq_true]at hx;have:=hx p hp;simp only[Function.comp,bne_iff_ne]at this;exact this
  ·rw[if_neg hx,if_neg hx];exact⟨rfl,hF.lt,fun p hp=>by have:=hF.ahead p hp;omega,hF.chord,hF.apart⟩
theorem aGF{s:Shape}(h:VS s){v:List V}(hv:∀x∈v,x∈eP s)(hn:v.Nodup){acc:List (Nat×Nat)}{i:Nat}(hF:Found s v acc i (i+1))(m:Nat)(hm:i+1+m<=v.length):
  (rowP s v acc i m).map (eY v)=aCF s v (acc.map (eY v)) i m/\Found s v (rowP s v acc i m) i (i+1+m):=by
 induction m with
 |zero=>exact⟨rfl,hF⟩
 |succ m ih=>
  obtain⟨h1,h2⟩:=ih (by omega)
  unfold rowP aCF;rw[<-h1];exact aCY h hv hn h2 (by omega) (by omega)
theorem aKQ{s:Shape}(h:VS s){v:List V}(hv:∀x∈v,x∈eP s)(hn:v.Nodup)(i:Nat)(hi:i<=v.length):
  (cU s v i).map (eY v)=Kf s v i/\Found s v (cU s v i) i (i+1):=by
 induction i with
 |zero=>exact⟨rfl,⟨by simp[cU],by simp[cU],by simp[cU],by simp[cU]⟩⟩
 |succ i ih=>
  obtain⟨h1,h2⟩:=ih (by omega)
  unfold cU Kf;rw[<-h1];obtain⟨h3,h4⟩:=aGF h hv hn h2 (v.length-(i+1)) (by omega)
  exact⟨h3,h4.lt,fun p hp=>by have:=h4.ahead p hp;omega,h4.chord,h4.apart⟩
theorem Wp{s:Shape}(h:VS s){v:List V}(hv:∀x∈v,x∈eP s)(hn:v.Nodup):(dI s v).map (eY v)=aAG s v/\Found s v (dI s v) v.length (v.length+1):=
 aKQ h hv hn _ (Nat.le_refl _)
end Go.Proofs.YtdaeofhdgabhjaaGreat.Geo
namespace Go.Proofs.YtdaeofhdgabhjaaGreat.Geo
abbrev Tab:=Nat->Nat->Bool
end Go.Proofs.YtdaeofhdgabhjaaGreat.Geo
namespace Go.Proofs.YtdaeofhdgabhjaaGreat.Geo
def cD:aM->aM->Int
 |[],[] =>0
 |[],_::_=> -1
 |_::_,[] =>1
 |a::l,b::m=>if dW a b≠0 then dW a b else cD l m
theorem Jc(x y:Int):fG x y= -fG y x:=by unfold fG;grind
theorem Zj(p q:V):dW p q= -dW q p:=by
 unfold dW;rw[Jc p.y,Jc p.x];grind
theorem gH:∀(l m:aM),cD l m= -cD m l
 |[],[] =>rfl
 |[],_::_=>rfl
 |_::_,[] =>rfl
 |a::l,b::m=>by
  unfold cD;have:=Zj a b;by_cases h:dW a b=0
  ·rw[if_neg (by omega),if_neg (by omega)];exact gH l m
  ·rw[if_pos h,if_pos (by omega)];exact this
theorem nP:∀(l m:aM),cD l m=0->l=m
 |[],[],_=>rfl
 |[],_::_,h=>by unfold cD at h;omega
 |_::_,[],h=>by unfold cD at h;omega
 |a::l,b::m,h=>by
  unfold cD at h;by_cases h0:dW a b=0
  ·rw[if_neg (by omega)]at h
   rw[(nZ a b).1 h0,nP l m h]
  ·rw[if_pos h0]at h;exact absurd h h0
theorem Mf(l:aM):cD l l=0:=by have:=gH l l;omega
theorem Ua{p q r:V}(h1:dW p q<0)(h2:dW q r<0):dW p r<0:=by
 rw[xT]at*;exact Bf h1 h2
theorem pY:∀(l m n:aM),cD l m<0->cD m n<0->cD l n<0
 |[],[],_,h,_=>by unfold cD at h;omega
 |[],_::_,[],_,h=>by unfold cD at h;omega
 |[],_::_,_::_,_,_=>by unfold cD;omega
 |_::_,[],_,h,_=>by unfold cD at h;omega
 |_::_,_::_,[],_,h=>by unfold cD at h;omega
 |a::l,b::m,c::n,h1,h2=>by
  unfold cD at*;by_cases e1:dW a b=0
  ·rw[if_neg (by omega)]at h1
   have:=(nZ a b).1 e1;subst this;by_cases e2:dW a c=0
   ·rw[if_neg (by omega)]at h2|-;exact pY l m n h1 h2
   ·rw[if_pos e2]at h2|-;exact h2
  ·rw[if_pos e1]at h1;by_cases e2:dW b c=0
   ·have:=(nZ b c).1 e2;subst this;rw[if_pos (by omega)];exact h1
   ·rw[if_pos e2]at h2;have:=Ua h1 h2;rw[if_pos (by omega)];exact this
def iJ(a b:aM):Prop:=cD a b<=0
theorem Qa{a b:aM}(h1:iJ a b)(h2:iJ b a):a=b:=by
 unfold iJ at*;apply nP;have:=gH a b;omega
theorem yO{a b c:aM}(h1:iJ a b)(h2:iJ b c):iJ a c:=by
 unfold iJ at*;by_cases e1:cD a b=0
 ·rw[nP _ _ e1];exact h2
 ·by_cases e2:cD b c=0
  ·rw[<-nP _ _ e2];exact h1
  ·have:=pY a b c (by omega) (by omega);omega
def Jn:List aM->aM->List aM
 |[],r=>[r]
 |q::l,r=>if cD q r<0 then q::Jn l r else r::q::l
theorem Iq(l:List aM)(r:aM):(Jn l r).Perm (r::l):=by
 induction l with
 |nil=>exact List.Perm.refl _
 |cons q l ih=>
  unfold Jn;split
  ·exact(List.Perm.cons q ih).trans (List.Perm.swap r q l)
  ·exact List.Perm.refl _
theorem Qd(l:List aM)(r:aM)(hl:l.Pairwise iJ):(Jn l r).Pairwise iJ:=by
 induction l with
 |nil=>simp[Jn]
 |cons q l ih=>
  rw[List.pairwise_cons]at hl;unfold Jn;split
  ·rename_i hq;rw[List.pairwise_cons];refine⟨fun x hx=> ?_,ih hl.2⟩
   have hx:=(Iq l r).subset hx;rcases List.mem_cons.1 hx with rfl|hx
   ·unfold iJ;omega
   ·exact hl.1 x hx
  ·rename_i hq;have hq':iJ r q:=by unfold iJ;have:=gH r q;omega
   rw[List.pairwise_cons,List.pairwise_cons];refine⟨fun x hx=> ?_,hl⟩
   rcases List.mem_cons.1 hx with rfl|hx
   ·exact hq'
   ·exact yO hq' (hl.1 x hx)
theorem Bv(l acc:List aM):(l.foldl Jn acc).Perm (acc++l):=by
 induction l generalizing acc with
 |nil=>simp
 |cons q l ih=>
  rw[List.foldl_cons];refine(ih _).trans ?_;refine((Iq acc q).append_right l).trans ?_;rw[List.cons_append];exact List.perm_middle.symm
theorem yU(l acc:List aM)(h:acc.Pairwise iJ):(l.foldl Jn acc).Pairwise iJ:=by
 induction l generalizing acc with
 |nil=>exact h
 |cons q l ih=>exact ih _ (Qd acc q h)
def Cq(l:List aM):List aM:=l.foldl Jn []
theorem wN(l:List aM):(Cq l).Perm l:=by
 unfold Cq;have:=Bv l [];rwa[List.nil_append]at this
theorem Lv{l m:List aM}(hp:m.Perm l)(hs:m.Pairwise iJ):m=Cq l:=
 List.Perm.eq_of_pairwise (fun _ _ _ _ h1 h2=>Qa h1 h2) hs (yU l [] List.Pairwise.nil) (hp.trans (wN l).symm)
def dJ(r:aM):aM:=if cO r then dH r else []
end Go.Proofs.YtdaeofhdgabhjaaGreat.Geo
namespace Go.Proofs.YtdaeofhdgabhjaaGreat
open Go.RowKit
def mG(r:List Geo.V):List PV:=r.flatMap fun v=>[.int .i64 v.x,.int .i64 v.y]
def aCS(l:List Geo.S):List PV:=l.flatMap fun s=>[.int .i64 s.a.x,.int .i64 s.a.y,.int .i64 s.b.x,.int .i64 s.b.y]
def iE(r:List Geo.V):PV:= .sl r.length (mG r)
def aAu(l:List Geo.S):PV:= .sl l.length (aCS l)
def lC(l:List Geo.aM):PV:= .sl l.length (l.map iE)
def kC(s:Geo.Shape):PV:= .agg [iE s.outer,lC s.holes]
def sH{α:Type}(m:Nat)(enc:List α->List PV)(e:α->List PV):Prop:=∀l,enc l=l.flatMap e/\∀x,(e x).length=m
section
variable {α:Type} {m:Nat} {enc:List α->List PV} {e:α->List PV}
theorem sH.length(h:sH m enc e)(l:List α):(enc l).length=l.length*m:=by
 rw[(h l).1];induction l with
 |nil=>simp
 |cons x l ih=>simp only[List.flatMap_cons,List.length_append,ih,(h []).2 x,List.length_cons,Nat.add_mul];omega
theorem sH.append(h:sH m enc e)(l k:List α):enc (l++k)=enc l++enc k:=by rw[(h _).1,(h l).1,(h k).1,List.flatMap_append]
theorem sH.at(h:sH m enc e)(l:List α)(i:Nat)(hi:i<l.length):((enc l).drop (i*m)).take m=e l[i] :=by
 have h1:l=l.take i++l[i] ::l.drop (i+1):=by rw[List.getElem_cons_drop];simp
 have h2:enc l=enc (l.take i)++(e l[i] ++enc (l.drop (i+1))):=by
  conv=>lhs;rw[h1]
  rw[h.append,(h (l[i] ::_)).1,List.flatMap_cons,<-(h _).1]
 have h3:=h.length (l.take i);rw[List.length_take,Nat.min_eq_left (by omega)]at h3
 rw[h2,<-h3,List.drop_left,<-(h []).2 l[i],List.take_left]
theorem sH.take(h:sH m enc e)(l:List α)(k:Nat):(enc l).take (k*m)=enc (l.take k):=by
 by_cases hk:k<=l.length
 ·have h3:=h.length (l.take k);rw[List.length_take,Nat.min_eq_left hk]at h3
  conv=>lhs;rw[<-List.take_append_drop k l,h.append,<-h3,List.take_left]
 ·rw[List.take_of_length_le (by rw[h.length];exact Nat.mul_le_mul_right _ (by omega)),List.take_of_length_le (by omega)]
theorem sH.drop(h:sH m enc e)(l:List α)(k:Nat):(enc l).drop (k*m)=enc (l.drop k):=by
 by_cases hk:k<=l.length
 ·have h3:=h.length (l.take k);rw[List.length_take,Nat.min_eq_left hk]at h3
  conv=>lhs;rw[<-List.take_append_drop k l,h.append,<-h3,List.drop_left]
 ·have e1:l.drop k=[] :=List.drop_eq_nil_of_le (by omega)
  rw[e1,List.drop_eq_nil_of_le (by rw[h.length];exact Nat.mul_le_mul_right _ (by omega)),(h []).1];rfl
end
theorem Hf:sH 2 mG fun v=>[.int .i64 v.x,.int .i64 v.y] :=fun _=>⟨rfl,fun _=>rfl⟩
theorem aKP:sH 4 aCS fun s=>[.int .i64 s.a.x,.int .i64 s.a.y,.int .i64 s.b.x,.int .i64 s.b.y] :=fun _=>⟨rfl,fun _=>rfl⟩
theorem nth_eq{v:List Geo.V}{i:Nat}(h:i<v.length):Geo.nth v i=v[i] :=by
 unfold Geo.nth;rw[List.getD_eq_getElem?_getD,List.getElem?_eq_getElem h];rfl
theorem aDF{v:List Geo.V}{i:Nat}(h:i<v.length):((mG v).drop (i*2)).take 2=[.int .i64 (Geo.nth v i).x,.int .i64 (Geo.nth v i).y] :=by
 rw[nth_eq h];exact Hf.at v i h
theorem aCk:Dh Tryz.prog 44 2:=by
 intro xs ys x y w hx hy;match xs,ys,hx,hy with
 |[a,b],[c,d],_,_=>
  have h1:=aLa a b c d w;refine⟨?_,?_⟩
  ·simp only[List.map_cons,List.map_nil];simp[eqGuard,h1]
  ·simp only[List.map_cons,List.map_nil];simp[eqGuard];rw[run_neq_struct];rw[run_eql_struct]at h1;revert h1;generalize Sem.run Tryz.prog (Op.equalIn 10000 44 (Value.agg #[Value.int IntKind.i64 a,Value.int IntKind.i64 b]) (Value.agg #[Value.int IntKind.i64 c,Value.int IntKind.i64 d])) w=R;intro h1;cases R with
   |ok q w'=>
    simp[Result.andThen]at h1;obtain⟨rfl,rfl⟩:=h1;simp[Result.andThen];cases h2:(a==c)<;>cases h3:(b==d)<;>simp_all
   |_=>simp[Result.andThen]at h1
def bB(l:List Geo.S)(i:Nat):Geo.S:=l.getD i default
def bF(l:List (Nat×Nat))(i:Nat):Nat×Nat:=l.getD i default
def iI(l:List Int)(i:Nat):Int:=l.getD i 0
def aLF(l:List Bool)(i:Nat):Bool:=l.getD i false
theorem pD{α:Type}{l:List α}{i:Nat}{d:α}(h:i<l.length):l.getD i d=l[i] :=by rw[List.getD_eq_getElem?_getD,List.getElem?_eq_getElem h];rfl
theorem gP{l:List Geo.S}{i:Nat}(h:i<l.length):bB l i=l[i] :=pD h
theorem gQ{l:List Geo.aM}{i:Nat}(h:i<l.length):Geo.aC l i=l[i] :=pD h
theorem uM{l:List (Nat×Nat)}{i:Nat}(h:i<l.length):bF l i=l[i] :=pD h
theorem Ny{l:List Geo.S}{i:Nat}(h:i<l.length):bB l i∈l:=by rw[gP h];exact List.getElem_mem h
section
variable {α:Type} {m:Nat} {enc:List α->List PV} {e:α->List PV}
theorem sH.sub(h:sH m enc e)(l:List α){k:Nat}(hk:k<l.length)(j n:Nat)(hj:j+n<=m):((enc l).drop (k*m+j)).take n=((e l[k]).drop j).take n:=by
 have h1:=h.at l k hk;have h2:(((enc l).drop (k*m)).drop j).take n=((((enc l).drop (k*m)).take m).drop j).take n:=by
  rw[List.drop_take,List.take_take]
  congr 1;omega
 rw[List.drop_drop]at h2;rw[h2,h1]
theorem sH.get(h:sH m enc e)(l:List α){k:Nat}(hk:k<l.length)(j:Nat)(hj:j<m):(enc l)[k*m+j]? =(e l[k])[j]? :=by
 have h1:=h.at l k hk;rw[<-h1,List.getElem?_take,if_pos hj,List.getElem?_drop]
end
section
variable {α:Type} {m:Nat} {enc:List α->List PV} {e:α->List PV}
end
theorem BI:(∀a b:Bool,((a&&b)=true)=(a=true/\b=true))/\(∀a b:Bool,((a||b)=true)=(a=true\/b=true))/\(∀a b:Bool,((a&&b)=false)=(a=false\/b=false))/\(∀a b:Bool,((a||b)=false)=(a=false/\b=false))/\(∀b:Bool,((!b)=true)=(b=false))/\(∀b:Bool,((!b)=false)=(b=true))/\(∀(p:Prop) [Decidable p],(decide p=true)=p)/\(∀(p:Prop) [Decidable p],(decide p=false)=¬p)/\(∀{α:Type} [BEq α] [LawfulBEq α] (a b:α),((a==b)=true)=(a=b))/\(∀{α:Type} [BEq α] [LawfulBEq α] (a b:α),((a==b)=false)=(a≠b))/\(∀{α:Type} [BEq α] [LawfulBEq α] (a b:α),((a !=b)=true)=(a≠b))/\(∀{α:Type} [BEq α] [LawfulBEq α] (a b:α),((a !=b)=false)=(a=b)):=
 ⟨by simp,by simp,by simp,by simp,by simp,by simp,fun p _=>by simp,fun p _=>by simp,fun a b=>by simp,fun a b=>by simp,fun a b=>by simp,fun a b=>by simp⟩
end Go.Proofs.YtdaeofhdgabhjaaGreat
namespace Go.Proofs.YtdaeofhdgabhjaaGreat
open Go.RowKit
noncomputable section
inductive Fm:Type 1
 |tt
 |stuck (n:Nat)
 |need (p:Prop) (f:Fm)
 |imp (p:Prop) (f:Fm)
 |both (f g:Fm)
 |all (X:Type) (f:X->Fm)
 |ex (X:Type) (f:X->Fm)
def Fm.isTT:Fm->Bool
 | .tt=>true
 |_=>false
def Fm.holds:Fm->Prop
 | .tt=>True
 | .stuck _=>False
 | .need p f=>(match f.isTT with|true=>p|false=>p/\f.holds)
 | .imp p f=>p->f.holds
 | .both f g=>(match f.isTT,g.isTT with|true,_=>g.holds|false,true=>f.holds|false,false=>f.holds/\g.holds)
 | .all X f=>∀x:X,(f x).holds
 | .ex X f=>∃x:X,(f x).holds
theorem Fm.aAf{f:Fm}(h:f.isTT=true):f.holds:=by cases f<;>first|trivial|cases h
theorem Fm.Sx{p:Prop}{f:Fm}(h:(Fm.need p f).holds):p/\f.holds:=by
 unfold Fm.holds at h;split at h
 ·rename_i e;exact⟨h,Fm.aAf e⟩
 ·exact h
theorem Fm.mB{f g:Fm}(h:(Fm.both f g).holds):f.holds/\g.holds:=by
 unfold Fm.holds at h;split at h
 ·rename_i e;exact⟨Fm.aAf e,h⟩
 ·rename_i e;exact⟨h,Fm.aAf e⟩
 ·exact h
def Al:List Prop->Fm->Fm
 |[],f=>f
 |p::l,f=> .need p (Al l f)
theorem jA:∀{l:List Prop} {f:Fm},(Al l f).holds->(∀p∈l,p)/\f.holds
 |[],f,h=>⟨fun p hp=>(by cases hp),h⟩
 |q::l,f,h=>by
  obtain⟨h1,h2⟩:=Fm.Sx h;obtain⟨h3,h4⟩:=jA h2;exact⟨fun p hp=>by rcases List.mem_cons.1 hp with rfl|hp;exact h1;exact h3 p hp,h4⟩
def Jp:List Prop->Prop
 |[] =>True
 |[p] =>p
 |p::l=>p/\Jp l
theorem gE:∀{l:List Prop},Jp l↔∀p∈l,p
 |[] =>⟨fun _ p hp=>(by cases hp),fun _=>trivial⟩
 |[p] =>⟨fun h q hq=>(by rw[List.mem_singleton.1 hq];exact h),fun h=>h p List.mem_cons_self⟩
 |p::q::l=>by
  show p/\Jp (q::l)↔_;rw[gE];exact⟨fun h r hr=>by rcases List.mem_cons.1 hr with rfl|hr;exact h.1;exact h.2 r hr,fun h=>⟨h p List.mem_cons_self,fun r hr=>h r (List.mem_cons_of_mem _ hr)⟩⟩
def aF8(l:List Prop)(f:Fm):Fm:=match l with
 |[] =>f
 |p::l=> .imp (Jp (p::l)) f
theorem Fo{l:List Prop}{f:Fm}(h:(aF8 l f).holds)(hl:∀p∈l,p):f.holds:=by
 cases l with
 |nil=>exact h
 |cons p l=>exact(h:Jp (p::l)->_) (gE.2 hl)
inductive LT where
 |V|S|R|I|B|P|Q
deriving DecidableEq
@[reducible] def LT.ty : LT → Type
  | .V => Geo.V
  | .S => Geo.S
  | .R => Geo.aM
  | .I => Int
  | .B => Bool
  | .P => Nat × Nat
  | .Q => List Int
def LT.w:LT->Nat
 | .V=>2
 | .S=>4
 | .R=>1
 | .I=>1
 | .B=>1
 | .P=>2
 | .Q=>1
def aCT(l:List Int):List PV:=l.flatMap fun n=>[.int .i64 n]
def dC(l:List (List Int))(i:Nat):List Int:=l.getD i []
def LT.rowP:(t:LT)->t.ty->List PV
 | .V=>fun v=>[.int .i64 v.x,.int .i64 v.y]
 | .S=>fun s=>[.int .i64 s.a.x,.int .i64 s.a.y,.int .i64 s.b.x,.int .i64 s.b.y]
 | .R=>fun r=>[.sl r.length (mG r)]
 | .I=>fun n=>[.int .i64 n]
 | .B=>fun b=>[.bool b]
 | .P=>fun p=>[.int .i64 p.1,.int .i64 p.2]
 | .Q=>fun r=>[.sl r.length (aCT r)]
def LT.enc(t:LT)(l:List t.ty):List PV:=l.flatMap t.rowP
theorem LT.wide(t:LT):sH t.w t.enc t.rowP:=fun _=>⟨rfl,fun x=>by cases t<;>rfl⟩
theorem LT.oC(t:LT):0<t.w:=by cases t<;>decide
def LT.nth:(t:LT)->List t.ty->Nat->t.ty
 | .V=>Geo.nth
 | .S=>bB
 | .R=>Geo.aC
 | .I=>iI
 | .B=>aLF
 | .P=>bF
 | .Q=>dC
theorem LT.nth_eq(t:LT)(l:List t.ty){i:Nat}(h:i<l.length):t.nth l i=l[i] :=by
 cases t
 ·exact Go.Proofs.YtdaeofhdgabhjaaGreat.nth_eq h
 ·exact gP h
 ·exact gQ h
 ·exact pD h
 ·exact pD h
 ·exact uM h
 ·exact pD h
inductive SV where
 |any|undef|nil
 |int (k:IntKind) (n:Int)
 |bool (b:Bool)
 |lit (b:Bool)
 |prop (p:Prop) (d:Decidable p)
 |str (s:ByteArray)
 |agg (l:List SV)
 |tup (l:List SV)
 |lst (t:LT) (l:List t.ty)
 |sl (n:Nat) (cells:List SV)
 |pe (t:LT) (l:List t.ty) (i off:Nat)
 |pro (cells:List SV) (off:Nat)
 |fn (f:Nat) (first caps:List SV)
 |fnp (f:Nat) (first caps:List SV)
 |clo1 (pv:PV) (t:LT) (q:t.ty->Bool) (dom:t.ty->Prop)
 |clo2 (pv:PV) (t:LT) (q:t.ty->t.ty->Int) (dom:t.ty->t.ty->Prop)
 |ptr (s off:Nat)
 |pte (s:Nat) (t:LT) (i off:Nat)
 |own (s:Nat) (t:LT) (n:Nat)
 |owns (s:Nat) (t:LT) (o n:Nat)
 |ownx (s n:Nat)
 |ptb (F:Nat->Bool) (n off:Nat)
 |ownf (x:Nat) (t:LT) (a n:Nat)
 |ptef (x:Nat) (t:LT) (a i off:Nat)
 |ptf (x a:Nat)
 |owF (x n:Nat)
 |junk
 |mp (s:Nat)
def NM:Nat:=1000000
def ncl(x:Nat):Nat:=x % NM
def idx(s:Nat):Nat:=(s/2^cls s-1)/2
theorem Lb(n i:Nat):idx (sit n i)=i:=by
 unfold idx;rw[eA];unfold sit;rw[Nat.mul_div_cancel_left _ (Nat.two_pow_pos n)];omega
theorem Vk(n i:Nat):0<sit n i:=Nat.mul_pos (Nat.two_pow_pos n) (by omega)
structure Sites where
 inn:Nat->Nat->Nat
 nm:Nat->Nat
 sub:Nat->Nat
 h1:∀x a,nm (inn x a)=x
 h2:∀x a,sub (inn x a)=a
 h3:∀x a,cls (inn x a)=ncl x
 h4:∀x,x<NM->inn x 0=sit x 0
theorem Sk:Nonempty Sites:=⟨⟨fun x a=>sit (x % NM) (sit (x/NM) a-1),fun s=>cls (idx s+1)*NM+cls s,fun s=>idx (idx s+1),
 fun x a=>by
  rw[Lb,eA,Nat.sub_add_cancel (Vk _ _),eA];exact Nat.div_add_mod' x NM,
 fun x a=>by
  rw[Lb,Nat.sub_add_cancel (Vk _ _),Lb],
 fun x a=>eA _ _,
 fun x h=>by
  rw[Nat.mod_eq_of_lt h,Nat.div_eq_of_lt h];rfl⟩⟩
def sites:Sites:=Classical.choice Sk
def inn(x a:Nat):Nat:=sites.inn x a
def bD(x:Nat):Nat:=inn x 0
def nm(s:Nat):Nat:=sites.nm s
def sub(s:Nat):Nat:=sites.sub s
theorem wH(x a:Nat):nm (inn x a)=x:=sites.h1 x a
theorem qY(x a:Nat):sub (inn x a)=a:=sites.h2 x a
theorem dT(x a:Nat):cls (inn x a)=ncl x:=sites.h3 x a
theorem dO{x y a b:Nat}(h:inn x a=inn y b):x=y/\a=b:=⟨by rw[<-wH x a,h,wH],by rw[<-qY x a,h,qY]⟩
theorem gW{x y:Nat}(h:bD x=bD y):x=y:=(dO h).1
theorem rE{x:Nat}(h:x<NM):bD x=sit x 0:=sites.h4 x h
def aCC(n:Nat)(F:Nat->Bool):List PV:=(List.range n).map fun k=> .bool (F k)
theorem aBo(F:Nat->Bool){n k:Nat}(h:k<n):(aCC n F)[k]? =some (.bool (F k)):=by
 unfold aCC;rw[List.getElem?_map,List.getElem?_range h];rfl
def nB(l:List AV):AV:=match cR l with|some q=> .p (.tup q)|none=> .tup l
mutual
def SV.av:SV->AV
 | .any=> .any
 | .undef=> .undef
 | .nil=> .nil
 | .int k n=> .p (.int k n)
 | .bool b=> .p (.bool b)
 | .lit b=> .p (.bool b)
 | .prop p d=> .p (.bool (@decide p d))
 | .str s=> .p (.str s)
 | .agg l=>fD (avs l)
 | .tup l=>nB (avs l)
 | .lst t l=> .p (.sl l.length (t.enc l))
 | .sl n cs=>(match cR (avs cs)with|some q=> .p (.sl n q)|none=> .any)
 | .pe t l i off=> .p (.pro (t.enc l) (i*t.w+off))
 | .pro cs off=>(match cR (avs cs)with|some q=> .p (.pro q off)|none=> .any)
 | .fn f a b=> .fn (.func f) (avs a) (avs b)
 | .fnp f a b=>(match cR (avs a),cR (avs b)with|some x,some y=> .p (.fn (.func f) x y)|_,_=> .any)
 | .clo1 pv _ _ _=> .p pv
 | .clo2 pv _ _ _=> .p pv
 | .ptr s off=> .ptr (bD s) off
 | .pte s t i off=> .ptr (bD s) (i*t.w+off)
 | .own s _ n=> .own (bD s) 0 n
 | .owns s t o n=> .own (bD s) (o*t.w) n
 | .ownx s n=> .own (bD s) 0 n
 | .ptb F n off=> .p (.pro (aCC n F) off)
 | .ownf x _ a n=> .own (inn x (a+1)) 0 n
 | .ptef x t a i off=> .ptr (inn x (a+1)) (i*t.w+off)
 | .ptf x a=> .ptr (bD x) a
 | .owF x n=> .own (bD x) 0 n
 | .junk=> .p .junk
 | .mp s=> .mp (bD s)
def avs:List SV->List AV
 |[] =>[]
 |x::l=>x.av::avs l
end
theorem fL:∀l:List SV,avs l=l.map SV.av
 |[] =>rfl
 |x::l=>by rw[avs,fL l];rfl
theorem dR(l:List SV):(avs l).length=l.length:=by rw[fL,List.length_map]
theorem kJ(l m:List SV):avs (l++m)=avs l++avs m:=by rw[fL,fL,fL,List.map_append]
theorem Ei(l:List SV)(k:Nat):avs (l.drop k)=(avs l).drop k:=by rw[fL,fL,List.map_drop]
theorem Eh(l:List SV)(k:Nat):avs (l.take k)=(avs l).take k:=by rw[fL,fL,List.map_take]
theorem xU(l:List SV)(k:Nat):(avs l)[k]? =(l[k]?).map SV.av:=by rw[fL,List.getElem?_map]
theorem Ww(l:List SV)(k:Nat)(x:SV):avs (l.set k x)=(avs l).set k x.av:=by rw[fL,fL,List.map_set]
def LT.row:(t:LT)->t.ty->List SV
 | .V=>fun v=>[.int .i64 v.x,.int .i64 v.y]
 | .S=>fun s=>[.int .i64 s.a.x,.int .i64 s.a.y,.int .i64 s.b.x,.int .i64 s.b.y]
 | .R=>fun r=>[.lst .V r]
 | .I=>fun n=>[.int .i64 n]
 | .B=>fun b=>[.bool b]
 | .P=>fun p=>[.int .i64 p.1,.int .i64 p.2]
 | .Q=>fun r=>[.lst .I r]
theorem LT.Ju(t:LT)(x:t.ty):avs (t.row x)=(t.rowP x).map .p:=by
 cases t<;>rfl
def LT.dec:(t:LT)->List SV->Option t.ty
 | .V,[.int .i64 x,.int .i64 y] =>some ⟨x,y⟩
 | .S,[.int .i64 a,.int .i64 b,.int .i64 c,.int .i64 d] =>some ⟨⟨a,b⟩,⟨c,d⟩⟩
 | .R,[.lst .V r] =>some r
 | .R,[.nil] =>none
 | .I,[.int .i64 n] =>some n
 | .Q,[.lst .I r] =>some r
 | .B,[.bool b] =>some b
 | .B,[.lit b] =>some b
 | .B,[.prop p d] =>some (@decide p d)
 | .P,[.int .i64 (.ofNat a),.int .i64 (.ofNat b)] =>some (a,b)
 |_,_=>none
theorem LT.Df{t:LT}{cs:List SV}{x:t.ty}(h:t.dec cs=some x):avs cs=(t.rowP x).map .p:=by
 unfold LT.dec at h;split at h<;>first|(cases h;done)|(cases h;rfl)
def LT.decs(t:LT):Nat->List SV->Option (List t.ty)
 |0,[] =>some []
 |0,_=>none
 |n+1,cs=>match t.dec (cs.take t.w),t.decs n (cs.drop t.w)with
  |some x,some l=>some (x::l)
  |_,_=>none
theorem LT.uR{t:LT}:∀{n:Nat} {cs:List SV} {l:List t.ty},t.decs n cs=some l->l.length=n/\avs cs=(t.enc l).map .p
 |0,[],l,h=>by simp only[LT.decs,Option.some.injEq]at h;subst h;exact⟨rfl,rfl⟩
 |0,_::_,l,h=>by simp[LT.decs]at h
 |n+1,cs,l,h=>by
  unfold LT.decs at h;split at h
  ·rename_i x l' h1 h2;cases h;obtain⟨h3,h4⟩:=LT.uR h2;have h5:=LT.Df h1;refine⟨by simp[h3],?_⟩
   have h6:avs cs=avs (cs.take t.w)++avs (cs.drop t.w):=by rw[<-kJ,List.take_append_drop]
   rw[h6,h5,h4];simp only[LT.enc,List.flatMap_cons,List.map_append]
  ·cases h
theorem cB:∀l:List PV,cR (l.map .p)=some l
 |[] =>rfl
 |x::l=>by simp only[List.map_cons,cR,cB l,Option.map_some]
theorem kH(l:List PV):fD (l.map .p)= .p (.agg l):=by unfold fD;rw[cB]
theorem LT.sub(t:LT)(l:List t.ty){i:Nat}(h:i<l.length)(off m:Nat)(hm:off+m<=t.w):
  ((t.enc l).drop (i*t.w+off)).take m=((t.rowP (t.nth l i)).drop off).take m:=by
 rw[LT.nth_eq t l h];exact t.wide.sub l h off m hm
theorem LT.get(t:LT)(l:List t.ty){i:Nat}(h:i<l.length)(off:Nat)(hm:off<t.w):
  (t.enc l)[i*t.w+off]? =(t.rowP (t.nth l i))[off]? :=by
 have h1:=congrArg (fun l=>l[0]?) (LT.sub t l h off 1 (by omega))
 simpa[List.getElem?_take,List.getElem?_drop]using h1
def svK:Value->SV
 | .int k n=> .int k n
 | .bool b=> .lit b
 | .string s=> .str s
 | .slice none 0 0=> .nil
 |_=> .any
theorem aAS(v:Value):(svK v).av=kE v:=by
 unfold svK;split<;>simp only[SV.av,kE]
theorem Kn:∀vs:List Value,avs (vs.map svK)=vs.map kE
 |[] =>rfl
 |v::vs=>by simp only[List.map_cons,avs,aAS,Kn vs]
def svC:Value->SV
 | .agg cs=>if cs.toList.all (·.oneCell')=true then .agg (cs.toList.map svK)else .any
 | .tuple vs=>if vs.toList=[]then .undef else .any
 |v=>svK v
theorem aGt(v:Value):(svC v).av=qZ v:=by
 unfold svC;split
 ·split<;>rename_i h<;>simp only[qZ,SV.av,Kn,h] <;>rfl
 ·split<;>rename_i h<;>simp only[qZ,SV.av,h,if_true,if_false]
 ·rename_i h1 h2;rw[aAS];unfold qZ;split<;>simp_all
abbrev Frm:=List (Nat×SV)
def Frm.at:Frm->Nat->SV
 |[],_=> .undef
 |(d,v)::F,t=>match Nat.beq t d with|true=>v|false=>Frm.at F t
theorem Frm.jH(d:Nat)(v:SV)(F:Frm)(t:Nat):Frm.at ((d,v)::F) t=if t=d then v else Frm.at F t:=by
 conv=>lhs;unfold Frm.at
 split
 ·rename_i h;rw[if_pos (Nat.eq_of_beq_eq_true h)]
 ·rename_i h;rw[if_neg (Nat.ne_of_beq_eq_false h)]
def Frm.av(n:Nat)(F:Frm):List AV:=(List.range n).map fun t=>(F.at t).av
theorem Frm.eH(n:Nat)(F:Frm):(F.av n).length=n:=by simp[Frm.av]
theorem Frm.jZ{n:Nat}{F:Frm}{t:Nat}(h:t<n):(F.av n).getD t .any=(F.at t).av:=by
 unfold Frm.av;rw[List.getD_eq_getElem?_getD,List.getElem?_map,List.getElem?_range h];rfl
theorem Frm.aG2{n:Nat}{F:Frm}{d:Nat}{v:SV}(h:d<n):jC (F.av n) (some d) v.av=Frm.av n ((d,v)::F):=by
 unfold jC;apply List.ext_getElem?;intro i;rw[List.getElem?_set];by_cases hi:i<n
 ·by_cases e:d=i
  ·subst e;rw[if_pos rfl,if_pos (by rw[Frm.eH];exact h)]
   unfold Frm.av;rw[List.getElem?_map,List.getElem?_range h,Option.map_some,Frm.jH,if_pos rfl]
  ·rw[if_neg e];unfold Frm.av;rw[List.getElem?_map,List.getElem?_map,List.getElem?_range hi,Option.map_some,Option.map_some,Frm.jH,if_neg (fun h=>e h.symm)]
 ·have h1:(Frm.av n ((d,v)::F))[i]? =none:=List.getElem?_eq_none (by rw[Frm.eH];omega)
  have h2:(F.av n)[i]? =none:=List.getElem?_eq_none (by rw[Frm.eH];omega)
  rw[h1];by_cases e:d=i
  ·omega
  ·rw[if_neg e,h2]
def Cu(n:Nat)(F:Frm):Operand->SV
 | .tmp t=>(match Nat.blt t n with|true=>F.at t|false=> .any)
 | .const v=>svC v
 | .func f=> .fnp f [] []
 | .global _=> .any
theorem Ee{n:Nat}{F:Frm}(x:Operand):(Cu n F x).av=lQ (F.av n) x:=by
 cases x with
 |tmp t=>
  show(match Nat.blt t n with|true=>F.at t|false=>SV.any).av=(F.av n).getD t .any
  cases h:Nat.blt t n with
  |true=>rw[Frm.jZ (by simp[Nat.blt]at h;omega)]
  |false=>
   have h2:¬(t+1<=n):=fun hh=>by
    have:=Nat.ble_eq_true_of_le hh;rw[show Nat.blt t n=Nat.ble (t+1) n from rfl]at h
    rw[h]at this;cases this
   rw[List.getD_eq_getElem?_getD,List.getElem?_eq_none (by rw[Frm.eH];exact Nat.le_of_not_lt h2)];rfl
 |const v=>exact aGt v
 |func f=>rfl
 |global g=>rfl
inductive SOb where
 |box (ty:TypeId) (cells:List SV)
 |row (ty:TypeId) (t:LT) (l:List t.ty)
 |arr (ty esz:Nat) (cells:List SV)
 |fam (ty ity:TypeId) (t:LT) (L:List (List t.ty)) (ov:List (Nat×SV))
 |mp (ks:List (Nat×Nat))
def qB(x:Nat){α:Type}(L:List (List α))(ov:List (Nat×SV))(i:Nat):AV:=match ov.lookup i with
 |some v=>v.av
 |none=> .own (inn x (i+1)) 0 (L.getD i []).length
def nD(ks:List (Nat×Nat)):List (List Int×AV):=ks.map fun k=>([(k.1:Int),(k.2:Int)],.p (.bool true))
theorem lZ:∀ks:List (Nat×Nat),lO (nD ks)=(ks.flatMap fun k=>[PV.agg (rZ [(k.1:Int),(k.2:Int)]),.bool true]).map .p
 |[] =>rfl
 |k::ks=>by
  have:=lZ ks;unfold lO nD at*;simp only[List.map_cons,List.flatMap_cons,List.map_append,this];rfl
def SOb.ob(x:Nat):SOb->Ob
 | .box ty cs=>⟨ty,0,avs cs⟩
 | .row ty t l=>⟨ty,t.w,(t.enc l).map .p⟩
 | .arr ty esz cs=>⟨ty,esz,avs cs⟩
 | .fam ty _ _ L ov=>⟨ty,1,(List.range L.length).map (qB x L ov)⟩
 | .mp ks=>⟨1,0,lO (nD ks)⟩
def SOb.inner(a:Nat):SOb->Option Ob
 | .fam _ ity t L ov=>(match ov.lookup a with|some _=>none|none=>(L[a]?).map fun l=>⟨ity,t.w,(t.enc l).map .p⟩)
 |_=>none
def SOb.flat:SOb->Bool
 | .fam .. =>false
 |_=>true
theorem SOb.rH{ob:SOb}(h:ob.flat=true)(a:Nat):ob.inner a=none:=by cases ob<;>first|rfl|cases h
abbrev bM:=List (Nat×Option SOb)
def bM.at:bM->Nat->Option SOb
 |[],_=>none
 |(k,x)::L,s=>match Nat.beq s k with|true=>x|false=>bM.at L s
abbrev Sg:=Nat->Option SOb
open Classical in
def Sg.a(σ:Sg):Sto:=fun s=>if inn (nm s) (sub s)=s then(match sub s with
 |0=>(σ (nm s)).map (SOb.ob (nm s))
 |a+1=>(σ (nm s)).bind (SOb.inner a))else none
theorem Sg.cL(σ:Sg)(x:Nat):σ.a (bD x)=(σ x).map (SOb.ob x):=by
 unfold Sg.a bD;rw[qY,wH,if_pos rfl]
theorem Sg.gK(σ:Sg)(x a:Nat):σ.a (inn x (a+1))=(σ x).bind (SOb.inner a):=by
 unfold Sg.a;rw[qY,wH,if_pos rfl]
theorem Sg.sF(σ:Sg){s:Nat}(h:∀x a,s≠inn x a):σ.a s=none:=by
 unfold Sg.a;exact if_neg fun e=>h _ _ e.symm
theorem eL(s:Nat):(∃x,s=bD x)\/(∃x a,s=inn x (a+1))\/∀x a,s≠inn x a:=by
 by_cases h:∃x a,s=inn x a
 ·obtain⟨x,a,rfl⟩:=h;cases a with
  |zero=>exact .inl ⟨x,rfl⟩
  |succ a=>exact .inr (.inl ⟨x,a,rfl⟩)
 ·exact .inr (.inr fun x a e=>h ⟨x,a,e⟩)
def bM.up(W:bM)(σ:Sg):Sg:=fun s=>match W.lookup s with|some x=>x|none=>σ s
theorem bM.Ui(W L:bM):W.up L.at=(W++L).at:=by
 funext s
 unfold bM.up;induction W with
 |nil=>rfl
 |cons q W ih=>
  obtain⟨k,x⟩:=q;rw[List.cons_append];show _=(match Nat.beq s k with|true=>x|false=>bM.at (W++L) s)
  rw[List.lookup_cons];cases h:Nat.beq s k with
  |true=>rw[beq_iff_eq.2 (Nat.eq_of_beq_eq_true h)]
  |false=>rw[beq_eq_false_iff_ne.2 (Nat.ne_of_beq_eq_false h)];exact ih
def cW(σ:Sg)(rd:List Nat)(W:bM)(R':List Nat)(W':List (Nat×Option Ob)):Prop:=
 inC R' (rd.map ncl)/\inC (W'.map (·.1)) (W.map fun q=>ncl q.1)/\cG σ.a W'=(W.up σ).a
theorem cW.read(σ:Sg)(rd:List Nat):cW σ rd [] (rd.map bD) [] :=by
 refine⟨fun s hs=> ?_,fun s hs=>(List.not_mem_nil hs).elim,rfl⟩
 obtain⟨x,hx,rfl⟩:=List.mem_map.1 hs;rw[show cls (bD x)=ncl x from dT x 0]
 exact List.mem_map_of_mem hx
def frs(σ:Sg)(n:Nat):Bool:=match Nat.blt n NM,σ n with
 |true,none=>true
 |_,_=>false
theorem jY{σ:Sg}{n:Nat}(h:frs σ n=true):bD n=sit n 0/\σ n=none:=by
 unfold frs at h;split at h
 ·rename_i h1 h2;exact⟨rE (by unfold Nat.blt at h1;exact Nat.le_of_ble_eq_true h1),h2⟩
 ·cases h
def xI:Option SOb->Bool
 |some ob=>ob.flat
 |none=>true
def bM.sto(W:bM):List (Nat×Option Ob):=W.map fun q=>(bD q.1,q.2.map (SOb.ob q.1))
theorem Ta(W:bM)(x:Nat):W.sto.lookup (bD x)=(W.lookup x).map fun o=>o.map (SOb.ob x):=by
 induction W with
 |nil=>rfl
 |cons q W ih=>
  obtain⟨k,o⟩:=q;show((bD k,o.map (SOb.ob k))::bM.sto W).lookup (bD x)=_;rw[List.lookup_cons,List.lookup_cons];by_cases h:x=k
  ·subst h;simp
  ·rw[beq_eq_false_iff_ne.2 h,beq_eq_false_iff_ne.2 fun e=>h (gW e)];exact ih
theorem En{W:bM}{s:Nat}(h:∀x,s≠bD x):W.sto.lookup s=none:=by
 induction W with
 |nil=>rfl
 |cons q W ih=>
  show((bD q.1,q.2.map (SOb.ob q.1))::bM.sto W).lookup s=_;rw[List.lookup_cons,beq_eq_false_iff_ne.2 (h q.1)];exact ih
theorem cW.flat{σ:Sg}{rd:List Nat}{W:bM}(h:∀q∈W,xI (σ q.1)=true/\xI q.2=true):cW σ rd W (rd.map bD) W.sto:=by
 refine⟨(cW.read σ rd).1,fun s hs=> ?_,?_⟩
 ·unfold bM.sto at hs;rw[List.map_map]at hs;obtain⟨q,hq,rfl⟩:=List.mem_map.1 hs;show cls (bD q.1)∈_;rw[show cls (bD q.1)=ncl q.1 from dT q.1 0]
  exact List.mem_map_of_mem (f:=fun q:Nat×Option SOb=>ncl q.1) hq
 ·funext s
  unfold cG;rcases eL s with⟨x,rfl⟩|⟨x,a,rfl⟩|hno
  ·rw[Ta,Sg.cL,Sg.cL];unfold bM.up;cases W.lookup x<;>rfl
  ·rw[En fun y e=>by have:=(dO e).2;omega,Sg.gK,Sg.gK]
   unfold bM.up;cases hl:W.lookup x with
   |none=>rfl
   |some o=>
    have hm:(x,o)∈W:=by
     clear h;induction W with
     |nil=>cases hl
     |cons q W ih=>
      obtain⟨k,p⟩:=q;rw[List.lookup_cons]at hl;by_cases e:x=k
      ·subst e;simp at hl;subst hl;exact List.mem_cons_self
      ·rw[beq_eq_false_iff_ne.2 e]at hl;exact List.mem_cons_of_mem _ (ih hl)
    obtain⟨h1,h2⟩:=h _ hm;dsimp only at h1 h2|-;have nofam:∀p:Option SOb,xI p=true->p.bind (SOb.inner a)=none:=fun p hp=>by
     cases p with
     |none=>rfl
     |some ob=>exact SOb.rH hp a
    rw[nofam _ h1,nofam _ h2]
  ·rw[En fun y e=>hno y 0 e,Sg.sF σ hno,Sg.sF _ hno]
end
end Go.Proofs.YtdaeofhdgabhjaaGreat
namespace Go.Proofs.YtdaeofhdgabhjaaGreat
open Go.RowKit
noncomputable section
def aJ(x:Int):Prop:= -9223372036854775808<=x/\x<=9223372036854775807
theorem nR{x:Int}(h:aJ x):IntKind.i64.wrap x=x:=by
 unfold aJ at h;exact IntWalk.i64_in _ (by omega)
def ix(a:Int)(n:Nat):Prop:=0<=a/\a<(n:Int)
theorem eE{k n:Nat}(h:k<n):ix k n:=⟨by omega,by omega⟩
theorem cQ{k n:Nat}(h:0<n):ix (((k % n:Nat):Int)) n:=eE (Nat.mod_lt _ h)
abbrev SR:=Option (List Prop×SV×List Nat×bM)
abbrev SE:=Operand->SV
def SE.a(E:SE):Operand->AV:=fun x=>(E x).av
def Aq(P:Program)(n:Nat)(o:Oper)(E:SE)(σ:Sg)(R:SR):Prop:=
 ∀ps r rd W,R=some (ps,r,rd,W)->(∀p∈ps,p)->AOp P n o E.a σ.a fun r' R' W'=>r'=r.av/\cW σ rd W R' W'
def SV.ok:SV->Prop
 | .pe _ l i _=>i<l.length
 |_=>True
def SV.ape:SV->Bool
 | .pe .. =>true
 |_=>false
theorem SV.sP{v:SV}(h:v.ape=false):v.ok:=by cases v<;>first|trivial|cases h
def Dg(x:SV):Option (List SV):=match x with
 | .agg l=>some l
 | .tup _=>none
 | .any=>none
 | .undef=>none
 | .sl n cs=>(match cR (avs cs)with|some _=>some [.sl n cs] |none=>none)
 | .pro cs o=>(match cR (avs cs)with|some _=>some [.pro cs o] |none=>none)
 | .fnp f a b=>(match cR (avs a),cR (avs b)with|some _,some _=>some [.fnp f a b] |_,_=>none)
 | .clo1 .. =>none
 | .clo2 .. =>none
 | .junk=>none
 |x=>some [x]
theorem Mg(l:List AV):lV (fD l)=some l:=by
 unfold fD;cases h:cR l with
 |some q=>rw[show lV (.p (.agg q))=some (q.map .p)from rfl,<-eW h]
 |none=>rfl
theorem Ah{x:SV}{l:List SV}(h:Dg x=some l):lV x.av=some (avs l):=by
 cases x<;>simp only[Dg,reduceCtorEq,Option.some.injEq]at h<;>first|(subst h;rfl)|skip
 ·subst h;exact Mg _
 ·rename_i n cs;cases hq:cR (avs cs)with
  |none=>rw[hq]at h;cases h
  |some q=>rw[hq]at h;cases h;simp only[avs,SV.av,hq,lV]
 ·rename_i cs o;cases hq:cR (avs cs)with
  |none=>rw[hq]at h;cases h
  |some q=>rw[hq]at h;cases h;simp only[avs,SV.av,hq,lV]
 ·rename_i f a b;cases ha:cR (avs a)<;>cases hb:cR (avs b)<;>rw[ha,hb]at h<;>simp only[reduceCtorEq,Option.some.injEq]at h;subst h;simp only[avs,SV.av,ha,hb,lV]
def Jl(cs:List SV)(off:Nat):List SV->List SV
 |[] =>cs
 |x::l=>Jl (cs.set off x) (off+1) l
theorem xO:∀(l cs:List SV) (off:Nat),avs (Jl cs off l)=lS (avs cs) off (avs l)
 |[],cs,off=>rfl
 |x::l,cs,off=>by rw[Jl,xO l,Ww];rfl
def Hm(place:Nat->Option (Nat×Nat))(cells:List SV):List (Nat×SV)->Option (List SV)
 |[] =>some cells
 |(i,v)::rest=>match place i,Dg v with
  |some (off,size),some l=>(match Nat.beq l.length size,Nat.ble (off+size) cells.length with
   |true,true=>Hm place (Jl cells off l) rest
   |_,_=>none)
  |_,_=>none
theorem Ed{place:Nat->Option (Nat×Nat)}:∀(parts:List (Nat×SV)) {cells l:List SV},Hm place cells parts=some l->sU place (avs cells) (parts.map fun q=>(q.1,q.2.av))=some (avs l)
 |[],cells,l,h=>by simp only[Hm,Option.some.injEq]at h;subst h;rfl
 |(i,v)::rest,cells,l,h=>by
  unfold Hm at h;split at h
  ·rename_i off size m h1 h2;split at h
   ·rename_i h3 h4;have:=Ed rest h;show(match place i,lV v.av with|some (off,size),some l=>if l.length=size/\off+size<=(avs cells).length then sU place (lS (avs cells) off l) (rest.map fun(q:Nat×SV)=>(q.1,q.2.av))else none|_,_=>none)=_
    rw[h1,Ah h2];dsimp only;rw[if_pos ⟨by rw[dR];exact Nat.eq_of_beq_eq_true h3,by rw[dR];exact Nat.le_of_ble_eq_true h4⟩,<-xO]
    exact this
   ·cases h
  ·cases h
def vR(P:Program)(t:TypeId)(cs:List SV)(off:Nat):Option SV:=match tok P t,pQ P t with
 |true,true=>(match Nat.beq ((cs.drop off).take (bH P t)).length (bH P t)with|true=>some (.agg ((cs.drop off).take (bH P t)))|false=>none)
 |true,false=>cs[off]?
 |false,_=>none
theorem mM{P:Program}{t:TypeId}{cs:List SV}{off:Nat}{r:SV}(h:vR P t cs off=some r){K:AV->Prop}(hK:K r.av):Am P t (avs cs) off K:=by
 unfold vR at h;split at h
 ·rename_i h1 h2;split at h
  ·rename_i h3;cases h;refine⟨h1,?_⟩;rw[if_pos h2];refine⟨_,rfl,?_,?_⟩
   ·rw[<-Ei,<-Eh,dR];exact Nat.eq_of_beq_eq_true h3
   ·rw[<-Ei,<-Eh];exact hK
  ·cases h
 ·rename_i h1 h2;refine⟨h1,?_⟩;rw[if_neg (by rw[h2];simp)]
  exact⟨r.av,by rw[xU,h];rfl,hK⟩
 ·cases h
theorem Dz{P:Program}{t:TypeId}{cs:List PV}{off:Nat}{K:AV->Prop}(h:Am P t (cs.map .p) off K):aAB P t cs off fun r=>K (.p r):=by
 obtain⟨h1,h2⟩:=h;refine⟨h1,?_⟩;split at h2
 ·rename_i hg;rw[if_pos hg];obtain⟨l,h3,h4,h5⟩:=h2;refine⟨(cs.drop off).take (bH P t),rfl,?_,?_⟩
  ·rw[<-h3]at h4;simpa using h4
  ·rw[<-h3,<-List.map_drop,<-List.map_take,kH]at h5;exact h5
 ·rename_i hg;rw[if_neg hg];obtain⟨x,h3,h4⟩:=h2;rw[List.getElem?_map]at h3;cases hc:cs[off]? with
  |none=>rw[hc]at h3;cases h3
  |some y=>rw[hc]at h3;cases h3;exact⟨y,rfl,h4⟩
theorem zP{P:Program}{t:TypeId}{lt:LT}{l:List lt.ty}{i off:Nat}(hi:i<l.length)(hoff:off+(match pQ P t with|true=>bH P t|false=>1)<=lt.w){f:List PV->List AV}(hf:f=List.map .p){K:AV->Prop}
  (h:Am P t (f (lt.rowP (lt.nth l i))) off K):Am P t (f (lt.enc l)) (i*lt.w+off) K:=by
 subst hf;obtain⟨h1,h2⟩:=h;refine⟨h1,?_⟩;split at h2
 ·rename_i hg;rw[hg]at hoff;rw[if_pos hg];obtain⟨m,h3,h4,h5⟩:=h2;refine⟨m,?_,h4,h5⟩;rw[<-List.map_drop,<-List.map_take,LT.sub lt l hi off _ hoff,<-h3,List.map_take,List.map_drop]
 ·rename_i hg;have hg':pQ P t=false:=by simpa using hg
  rw[hg']at hoff;rw[if_neg hg];obtain⟨x,h3,h4⟩:=h2;refine⟨x,?_,h4⟩;rw[List.getElem?_map]at h3|-;rw[LT.get lt l hi off (by dsimp only at hoff;omega)];exact h3
def Bo:List (Nat×SV)->Nat->List Prop
 |[],_=>[]
 |q::l,a=>(a≠q.1)::Bo l a
theorem lW:∀{ov:List (Nat×SV)} {a:Nat},(∀p∈Bo ov a,p)->ov.lookup a=none
 |[],_,_=>rfl
 |q::l,a,h=>by
  rw[List.lookup_cons,beq_eq_false_iff_ne.2 (h _ List.mem_cons_self)];exact lW fun p hp=>h p (List.mem_cons_of_mem _ hp)
theorem cW.readI(σ:Sg)(x a:Nat):cW σ [x] [] [inn x (a+1)] [] :=by
 refine⟨fun s hs=> ?_,fun s hs=>(List.not_mem_nil hs).elim,rfl⟩
 rw[List.mem_singleton.1 hs,dT];exact List.mem_singleton.2 rfl
theorem aCg(x:Nat){α:Type}(L:List (List α))(ov:List (Nat×SV)){a:Nat}(h:a<L.length):((List.range L.length).map (qB x L ov))[a]? =some (qB x L ov a):=by
 rw[List.getElem?_map,List.getElem?_range h];rfl
theorem zT{σ:Sg}{x a:Nat}{ty ity:TypeId}{lt:LT}{L:List (List lt.ty)}{ov:List (Nat×SV)}(hs:σ x=some (.fam ty ity lt L ov))(ha:a<L.length)(ho:ov.lookup a=none):σ.a (inn x (a+1))=some ⟨ity,lt.w,(lt.enc (L.getD a [])).map .p⟩:=by
 rw[Sg.gK,hs];show(match ov.lookup a with|some _=>none|none=>(L[a]?).map fun l=>(⟨ity,lt.w,(lt.enc l).map .p⟩:Ob))=_
 rw[ho,List.getD_eq_getElem?_getD,List.getElem?_eq_getElem ha];rfl
theorem cW.cell{σ:Sg}{x:Nat}{ty ity:TypeId}{lt:LT}{L:List (List lt.ty)}{q:Nat×SV}{ov:List (Nat×SV)}{v:SV}(hs:σ x=some (.fam ty ity lt L (q::ov))):
  cW σ [x] [(x,some (.fam ty ity lt L ((q.1,v)::ov)))] [bD x] [(bD x,some ⟨ty,1,((List.range L.length).map (qB x L (q::ov))).set q.1 v.av⟩)] :=by
 refine⟨(cW.read σ [x]).1,fun s hs=> ?_,?_⟩
 ·rw[List.mem_singleton.1 hs];show cls (bD x)∈_;rw[show cls (bD x)=ncl x from dT x 0]
  exact List.mem_singleton.2 rfl
 ·funext s
  unfold cG;rcases eL s with⟨y,rfl⟩|⟨y,b,rfl⟩|hno
  ·rw[Sg.cL,Sg.cL,List.lookup_cons];unfold bM.up;rw[List.lookup_cons];by_cases e:y=x
   ·subst e;rw[beq_iff_eq.2 rfl,beq_iff_eq.2 rfl];dsimp only[Option.map_some]
    congr 1
    show(⟨ty,1,_⟩:Ob)=⟨ty,1,_⟩
    congr 1
    refine List.ext_getElem (by simp) fun i h1 h2=> ?_
    rw[List.getElem_set];rw[List.getElem_map,List.getElem_map,List.getElem_range];unfold qB;rw[List.lookup_cons,List.lookup_cons];by_cases hi:q.1=i
    ·subst hi;rw[if_pos rfl,beq_iff_eq.2 rfl]
    ·rw[if_neg hi,beq_eq_false_iff_ne.2 fun e=>hi e.symm]
   ·rw[beq_eq_false_iff_ne.2 e,beq_eq_false_iff_ne.2 fun h=>e (gW h)];rfl
  ·rw[Sg.gK,Sg.gK,List.lookup_cons,beq_eq_false_iff_ne.2 fun h=>by have:=(dO h).2;omega]
   unfold bM.up;rw[List.lookup_cons];by_cases e:y=x
   ·subst e;rw[beq_iff_eq.2 rfl,hs];show SOb.inner b (.fam ty ity lt L (q::ov))=SOb.inner b (.fam ty ity lt L ((q.1,v)::ov));unfold SOb.inner;dsimp only;rw[List.lookup_cons,List.lookup_cons];by_cases hi:b=q.1
    ·subst hi;rw[beq_iff_eq.2 rfl]
    ·rw[beq_eq_false_iff_ne.2 hi]
   ·rw[beq_eq_false_iff_ne.2 e];rfl
  ·rw[Sg.sF _ hno,Sg.sF _ hno,List.lookup_cons,beq_eq_false_iff_ne.2 (show s≠bD x from fun h=>hno x 0 h)];rfl
def aAs(P:Program)(t:TypeId)(x:SV)(σ:Sg):SR:=match x with
 | .pe lt l i off=>(match Nat.ble (off+(match pQ P t with|true=>bH P t|false=>1)) lt.w,vR P t (lt.row (lt.nth l i)) off with
   |true,some r=>some ([],r,[],[])
   |_,_=>none)
 | .pro cs off=>(match cR (avs cs),vR P t cs off with
   |some _,some r=>some ([],r,[],[])
   |_,_=>none)
 | .ptb F n off=>(match tok P t,pQ P t with
   |true,false=>some ([off<n],.bool (F off),[],[])
   |_,_=>none)
 | .ptr s off=>(match σ s with
   |some (.box _ cs)=>(match vR P t cs off with|some r=>some ([],r,[s],[])|none=>none)
   |some (.arr _ _ cs)=>(match vR P t cs off with|some r=>some ([],r,[s],[])|none=>none)
   |_=>none)
 | .pte s lt i off=>(match σ s with
   |some (.row _ lt' l)=>(match decEq lt' lt,Nat.ble (off+(match pQ P t with|true=>bH P t|false=>1)) lt'.w,vR P t (lt'.row (lt'.nth l i)) off with
    | .isTrue _,true,some r=>some ([i<l.length],r,[s],[])
    |_,_,_=>none)
   |_=>none)
 | .ptf x a=>(match σ x with
   |some (.fam _ _ lt L ov)=>(match tok P t,pQ P t with
    |true,false=>some ((a<L.length)::Bo ov a,.ownf x lt a (L.getD a []).length,[x],[])
    |_,_=>none)
   |_=>none)
 | .ptef x lt a i off=>(match σ x with
   |some (.fam _ _ lt' L ov)=>(match decEq lt' lt,Nat.ble (off+(match pQ P t with|true=>bH P t|false=>1)) lt'.w,vR P t (lt'.row (lt'.nth (L.getD a []) i)) off with
    | .isTrue _,true,some r=>some ((a<L.length)::(i<(L.getD a []).length)::Bo ov a,r,[x],[])
    |_,_,_=>none)
   |_=>none)
 |_=>none
theorem aBA{P:Program}{n:Nat}{o:Oper}{E:SE}{σ:Sg}{t:TypeId}{x:Operand}(ho:o.op= .load t x)(hx:(E x).ok):Aq P n o E σ (aAs P t (E x) σ):=by
 intro ps r rd W h hp;unfold AOp;rw[ho];dsimp only;unfold aAs at h;split at h
 ·rename_i lt l i off e;split at h<;>cases h;rename_i h1 h2;rw[e]at hx;rw[show E.a x= .p (.pro (lt.enc l) (i*lt.w+off)) by unfold SE.a;rw[e];rfl]
  dsimp only;refine Dz (K:=fun r'=>r'=r.av/\_) ?_
  refine zP hx (Nat.le_of_ble_eq_true h1) rfl ?_;rw[<-LT.Ju];exact mM h2 ⟨rfl,cW.read σ []⟩
 ·rename_i cs off e;split at h<;>cases h;rename_i q h1 h2;rw[show E.a x= .p (.pro q off) by unfold SE.a;rw[e];simp only[SV.av,h1]]
  dsimp only;refine Dz (K:=fun r'=>r'=r.av/\_) ?_
  rw[<-eW h1];exact mM h2 ⟨rfl,cW.read σ []⟩
 ·rename_i F m off e;split at h<;>cases h;rename_i h1 h2;have hlt:off<m:=hp _ (List.mem_singleton.2 rfl);rw[show E.a x= .p (.pro (aCC m F) off) by unfold SE.a;rw[e];rfl]
  dsimp only;refine Dz (K:=fun r'=>r'=(SV.bool (F off)).av/\_) ?_
  exact⟨h1,by rw[if_neg (by rw[h2];simp)];exact⟨.p (.bool (F off)),by rw[List.getElem?_map,aBo F hlt];rfl,rfl,cW.read σ []⟩⟩
 ·rename_i s off e;rw[show E.a x= .ptr (bD s) off by unfold SE.a;rw[e];rfl]
  dsimp only;split at h
  ·rename_i ty cs hs;split at h<;>cases h;rename_i h2;refine⟨_,by rw[Sg.cL,hs];rfl,?_⟩
   exact mM h2 ⟨rfl,cW.read σ [s]⟩
  ·rename_i ty ez cs hs;split at h<;>cases h;rename_i h2;refine⟨_,by rw[Sg.cL,hs];rfl,?_⟩
   exact mM h2 ⟨rfl,cW.read σ [s]⟩
  ·cases h
 ·rename_i s lt i off e;rw[show E.a x= .ptr (bD s) (i*lt.w+off) by unfold SE.a;rw[e];rfl]
  dsimp only;split at h
  ·rename_i ty lt' l hs;split at h<;>cases h;rename_i he h1 h2 h3;subst he;refine⟨_,by rw[Sg.cL,hs];rfl,?_⟩
   refine zP (hp _ (by simp)) (Nat.le_of_ble_eq_true h2) rfl ?_
   rw[<-LT.Ju];exact mM h3 ⟨rfl,cW.read σ [s]⟩
  ·cases h
 ·rename_i y a e;rw[show E.a x= .ptr (bD y) a by unfold SE.a;rw[e];rfl]
  dsimp only;split at h
  ·rename_i ty ity lt L ov hs;split at h<;>cases h;rename_i h1 h2;have ha:a<L.length:=hp _ List.mem_cons_self;have ho:ov.lookup a=none:=lW fun p hq=>hp p (List.mem_cons_of_mem _ hq)
   refine⟨_,by rw[Sg.cL,hs];rfl,h1,?_⟩
   rw[if_neg (by rw[h2];simp)]
   refine⟨_,aCg y L ov ha,?_,cW.read σ [y]⟩;unfold qB;rw[ho];rfl
  ·cases h
 ·rename_i y lt a i off e;rw[show E.a x= .ptr (inn y (a+1)) (i*lt.w+off) by unfold SE.a;rw[e];rfl]
  dsimp only;split at h
  ·rename_i ty ity lt' L ov hs;split at h<;>cases h;rename_i he h1 h2 h3;subst he;have ha:a<L.length:=hp _ List.mem_cons_self;have hi:i<(L.getD a []).length:=hp _ (List.mem_cons_of_mem _ List.mem_cons_self);have ho:ov.lookup a=none:=lW fun p hq=>hp p (List.mem_cons_of_mem _ (List.mem_cons_of_mem _ hq))
   refine⟨_,zT hs ha ho,?_⟩;refine zP hi (Nat.le_of_ble_eq_true h2) rfl ?_;rw[<-LT.Ju];exact mM h3 ⟨rfl,cW.readI σ y a⟩
  ·cases h
 ·cases h
def Jr(P:Program)(t:TypeId)(a v:SV)(σ:Sg):SR:=match Dg v,(P.info? t).isSome with
 |some l,true=>(match Nat.beq l.length (bH P t)with
  |true=>(match a with
   | .ptr s off=>(match σ s with
     |some (.box ty cs)=>(match Nat.ble (off+l.length) cs.length with|true=>some ([],.undef,[s],[(s,some (.box ty (Jl cs off l)))])|false=>none)
     |some (.arr ty ez cs)=>(match Nat.ble (off+l.length) cs.length with|true=>some ([],.undef,[s],[(s,some (.arr ty ez (Jl cs off l)))])|false=>none)
     |_=>none)
   | .pte s lt i off=>(match σ s with
     |some (.row ty lt' m)=>(match decEq lt' lt,Nat.ble (off+l.length) lt'.w,lt'.dec (Jl (lt'.row (lt'.nth m i)) off l)with
      | .isTrue _,true,some e=>some ([i<m.length],.undef,[s],[(s,some (.row ty lt' (m.set i e)))])
      |_,_,_=>none)
     |_=>none)
   | .ptf x a=>(match l,σ x with
     |[v],some (.fam ty ity lt L (q::ov))=>some ([a=q.1,a<L.length],.undef,[x],[(x,some (.fam ty ity lt L ((q.1,v)::ov)))])
     |_,_=>none)
   |_=>none)
  |false=>none)
 |_,_=>none
theorem Pq{a b c l:List AV}{k off:Nat}(hk:k=a.length)(hoff:off+l.length<=b.length):lS (a++b++c) (k+off) l=a++lS b off l++c:=by
 induction l generalizing b off with
 |nil=>rfl
 |cons x l ih=>
  simp only[List.length_cons]at hoff;rw[lS,lS,List.append_assoc,List.set_append_right _ _ (by omega),show k+off-a.length=off by omega,List.set_append_left _ _ (by omega),<-List.append_assoc,show k+off+1=k+(off+1) by omega,ih (by simp;omega)]
theorem aDE(t:LT)(l:List t.ty){i:Nat}(h:i<l.length)(e:t.ty):t.enc l=t.enc (l.take i)++t.rowP l[i] ++t.enc (l.drop (i+1))/\t.enc (l.set i e)=t.enc (l.take i)++t.rowP e++t.enc (l.drop (i+1)):=by
 constructor
 ·conv=>lhs;rw[<-List.take_append_drop i l,<-List.getElem_cons_drop h]
  unfold LT.enc;rw[List.flatMap_append,List.flatMap_cons,List.append_assoc]
 ·rw[List.set_eq_take_append_cons_drop,if_pos h];unfold LT.enc;rw[List.flatMap_append,List.flatMap_cons,List.append_assoc]
theorem Xm{P:Program}{n:Nat}{o:Oper}{E:SE}{σ:Sg}{t:TypeId}{a x:Operand}(ho:o.op= .store t a x):Aq P n o E σ (Jr P t (E a) (E x) σ):=by
 intro ps r rd W h hp;unfold AOp;rw[ho];dsimp only;unfold Jr at h;split at h
 case h_2=>cases h
 rename_i l hl ht;split at h
 case h_2=>cases h
 rename_i hsz;have hl':lV (E.a x)=some (avs l):=Ah hl;have hsz':(avs l).length=bH P t:=by rw[dR];exact Nat.eq_of_beq_eq_true hsz
 split at h
 ·rename_i s off e;rw[show E.a a= .ptr (bD s) off by unfold SE.a;rw[e];rfl]
  unfold yX;dsimp only;split at h
  ·rename_i ty cs hs;split at h<;>cases h;rename_i h2;refine⟨_,_,by rw[Sg.cL,hs];rfl,hl',hsz',ht,?_,rfl,?_⟩
   ·show off+(avs l).length<=(avs cs).length;rw[dR,dR];exact Nat.le_of_ble_eq_true h2
   ·show cW _ _ _ _ [(bD s,some (⟨ty,0,lS (avs cs) off (avs l)⟩:Ob))];rw[<-xO];exact cW.flat (W:=[(s,some (.box ty (Jl cs off l)))]) fun q hq=>by rw[List.mem_singleton.1 hq,hs];exact⟨rfl,rfl⟩
  ·rename_i ty ez cs hs;split at h<;>cases h;rename_i h2;refine⟨_,_,by rw[Sg.cL,hs];rfl,hl',hsz',ht,?_,rfl,?_⟩
   ·show off+(avs l).length<=(avs cs).length;rw[dR,dR];exact Nat.le_of_ble_eq_true h2
   ·show cW _ _ _ _ [(bD s,some (⟨ty,ez,lS (avs cs) off (avs l)⟩:Ob))];rw[<-xO];exact cW.flat (W:=[(s,some (.arr ty ez (Jl cs off l)))]) fun q hq=>by rw[List.mem_singleton.1 hq,hs];exact⟨rfl,rfl⟩
  ·cases h
 ·rename_i s lt i off e;rw[show E.a a= .ptr (bD s) (i*lt.w+off) by unfold SE.a;rw[e];rfl]
  unfold yX;dsimp only;split at h
  ·rename_i ty lt' m hs;split at h<;>cases h;rename_i he h1 _ h2 h3;subst he;have hi:i<m.length:=hp _ (by simp)
   obtain⟨e1,e2⟩:=aDE lt' m hi h1;have h2':=Nat.le_of_ble_eq_true h2;have hlen:(lt'.enc (m.take i)).length=i*lt'.w:=by rw[lt'.wide.length,List.length_take,Nat.min_eq_left (by omega)]
   refine⟨_,_,by rw[Sg.cL,hs];rfl,hl',hsz',ht,?_,rfl,?_⟩
   ·show i*lt'.w+off+(avs l).length<=((lt'.enc m).map AV.p).length;rw[dR,List.length_map,lt'.wide.length];have:(i+1)*lt'.w<=m.length*lt'.w:=Nat.mul_le_mul_right _ (by omega)
    rw[Nat.add_mul]at this;omega
   ·have e3:lS ((lt'.enc m).map AV.p) (i*lt'.w+off) (avs l)=(lt'.enc (m.set i h1)).map AV.p:=by
     rw[e2,List.map_append,List.map_append,<-LT.Df h3,xO,LT.Ju,LT.nth_eq lt' m hi]
     conv=>lhs;rw[e1,List.map_append,List.map_append]
     rw[Pq (by rw[List.length_map,hlen]) (by rw[dR,List.length_map,(lt'.wide []).2];exact h2')]
    show cW _ _ _ _ [(bD s,some (⟨ty,lt'.w,lS ((lt'.enc m).map AV.p) (i*lt'.w+off) (avs l)⟩:Ob))];rw[e3];exact cW.flat (W:=[(s,some (.row ty lt' (m.set i h1)))]) fun q hq=>by rw[List.mem_singleton.1 hq,hs];exact⟨rfl,rfl⟩
  ·cases h
 ·rename_i y b e;rw[show E.a a= .ptr (bD y) b by unfold SE.a;rw[e];rfl]
  unfold yX;dsimp only;split at h<;>cases h;rename_i v ty ity lt L q ov hs;have hb:b=q.1:=hp _ List.mem_cons_self;have hL:b<L.length:=hp _ (List.mem_cons_of_mem _ (List.mem_singleton.2 rfl));refine⟨_,_,by rw[Sg.cL,hs];rfl,hl',hsz',ht,?_,rfl,?_⟩
  ·show b+1<=((List.range L.length).map (qB y L (q::ov))).length;rw[List.length_map,List.length_range];omega
  ·subst hb;exact cW.cell hs
 ·cases h
def Hg(P:Program)(t:TypeId):Option (List SV):=match xE P t with
 |true=>(match P.info? t with
  |some i=>(match i.zero with|some z=>some (z.cells.toList.map svK)|none=>none)
  |none=>none)
 |false=>none
theorem qF{P:Program}{t:TypeId}{z:List SV}(h:Hg P t=some z):xF P t=some (avs z)/\xE P t=true:=by
 unfold Hg at h;split at h
 ·rename_i hz;split at h
  ·rename_i i hi;split at h<;>cases h;rename_i zv hzv;refine⟨?_,hz⟩;unfold xF;rw[hi,Option.bind_some,hzv,Option.map_some,Kn]
  ·cases h
 ·cases h
theorem cW.new{σ:Sg}{n:Nat}{ob:SOb}(h:σ n=none)(hs:bD n=sit n 0)(hf:ob.flat=true):cW σ [] [(n,some ob)] [] [(sit n 0,some (ob.ob n))] :=by
 rw[<-hs];exact cW.flat (rd:=[]) (W:=[(n,some ob)]) fun q hq=>by rw[List.mem_singleton.1 hq,h];exact⟨rfl,hf⟩
def Jt(P:Program)(σ:Sg)(n:Nat)(t:TypeId):SR:=match Hg P t,frs σ n with
 |some z,true=>some ([],.ptr n 0,[],[(n,some (.box t z))])
 |_,_=>none
theorem Xy{P:Program}{n:Nat}{o:Oper}{E:SE}{σ:Sg}{t:TypeId}(ho:o.op= .alloc t):Aq P n o E σ (Jt P σ n t):=by
 intro ps r rd W h hp;unfold AOp;rw[ho];dsimp only;unfold Jt at h;split at h<;>cases h;rename_i z hz hf;obtain⟨h1,h2⟩:=qF hz;obtain⟨f1,f2⟩:=jY hf;exact⟨_,h1,h2,by show _=AV.ptr (bD n) 0;rw[f1],cW.new f2 f1 rfl⟩
def aCD(σ:Sg)(n:Nat)(t:TypeId)(x:SV):SR:=match Dg x,frs σ n with
 |some l,true=>some ([],.ptr n 0,[],[(n,some (.box t l))])
 |_,_=>none
theorem aC6{P:Program}{n:Nat}{o:Oper}{E:SE}{σ:Sg}{t:TypeId}{x:Operand}(ho:o.op= .box t x):Aq P n o E σ (aCD σ n t (E x)):=by
 intro ps r rd W h hp;unfold AOp;rw[ho];dsimp only;unfold aCD at h;split at h<;>cases h;rename_i l hl hf;obtain⟨f1,f2⟩:=jY hf;exact⟨_,Ah hl,by show _=AV.ptr (bD n) 0;rw[f1],cW.new f2 f1 rfl⟩
def Js(P:Program)(t:TypeId)(parts:List (Nat×SV)):SR:=match Hg P t,Kx P t with
 |some z,true=>(match Hm (Rn P t) z parts with|some l=>some ([],.agg l,[],[])|none=>none)
 |_,_=>none
theorem Xu{P:Program}{n:Nat}{o:Oper}{E:SE}{σ:Sg}{t:TypeId}{parts:Array (Nat×Operand)}(ho:o.op= .build t parts):Aq P n o E σ (Js P t (parts.toList.map fun q=>(q.1,E q.2))):=by
 intro ps r rd W h hp;unfold AOp;rw[ho];dsimp only;unfold Js at h;split at h
 ·rename_i z hz hk;split at h<;>cases h;rename_i l hl;obtain⟨h1,h2⟩:=qF hz;have:=Ed _ hl;rw[List.map_map]at this;exact⟨_,h1,h2,hk,_,this,rfl,cW.read σ []⟩
 ·cases h
def aCI:Nat->List SV->List SV
 |0,_=>[]
 |m+1,z=>z++aCI m z
theorem Vp(z:List SV):∀m,avs (aCI m z)=yW m (avs z)
 |0=>rfl
 |m+1=>by rw[aCI,kJ,Vp z m];rfl
def Cb(P:Program)(σ:Sg)(n:Nat)(t:TypeId)(len:Nat)(parts:List (Nat×SV)):SR:=match eC P t with
 |some e=>(match Hg P e,Nat.ble (len*bH P e) 1000000,frs σ n with
  |some (z0::zs),true,true=>(match Hm (fun i=>some (i*bH P e,bH P e)) (aCI len (z0::zs)) parts with
   |some l=>some ([],.ownx n len,[],[(n,some (.arr e (bH P e) l))])
   |none=>none)
  |_,_,_=>none)
 |none=>none
theorem Sn{P:Program}{n:Nat}{o:Oper}{E:SE}{σ:Sg}{t:TypeId}{len:Nat}{parts:Array (Nat×Operand)}(ho:o.op= .buildSlice t len parts):Aq P n o E σ (Cb P σ n t len (parts.toList.map fun q=>(q.1,E q.2))):=by
 intro ps r rd W h hp;unfold AOp;rw[ho];dsimp only;unfold Cb at h;split at h
 ·rename_i e he;split at h
  ·rename_i z0 zs hz hb hf;split at h<;>cases h;rename_i l hl;obtain⟨f1,f2⟩:=jY hf;obtain⟨h1,h2⟩:=qF hz;have:=Ed _ hl;rw[List.map_map,Vp]at this;exact⟨e,_,he,h1,h2,(by simp[avs]),Nat.le_of_ble_eq_true hb,_,this,by show _=AV.own (bD n) 0 len;rw[f1],cW.new f2 f1 rfl⟩
  ·cases h
 ·cases h
def aAo(c a b:SV):Option SV:=match c with
 | .lit true=>some a
 | .lit false=>some b
 | .prop p d=>(match a,b with
   | .int .i64 x,.int .i64 y=>some (.int .i64 (@ite _ p d x y))
   | .bool x,.bool y=>some (.bool (@ite _ p d x y))
   | .prop q e,.lit y=>some (.bool (@ite _ p d (@decide q e) y))
   | .lit x,.prop q e=>some (.bool (@ite _ p d x (@decide q e)))
   | .bool x,.lit y=>some (.bool (@ite _ p d x y))
   | .lit x,.bool y=>some (.bool (@ite _ p d x y))
   |_,_=>none)
 | .bool c=>(match a,b with
   | .int .i64 x,.int .i64 y=>some (.int .i64 (if c=true then x else y))
   | .bool x,.bool y=>some (.bool (if c=true then x else y))
   | .bool x,.lit y=>some (.bool (if c=true then x else y))
   | .lit x,.bool y=>some (.bool (if c=true then x else y))
   |_,_=>none)
 |_=>none
theorem aBu{c a b r:SV}(h:aAo c a b=some r){K:AV->Prop}(hK:K r.av):Hh c.av a.av b.av K:=by
 unfold aAo at h;split at h
 ·cases h;exact hK
 ·cases h;exact hK
 ·rename_i p d;split at h<;>cases h<;>(simp only[SV.av,Hh]at*;cases d<;>rename_i hp<;>simpa[hp]using hK)
 ·rename_i c;split at h<;>cases h<;>(simp only[SV.av,Hh]at*;cases c<;>simpa using hK)
 ·cases h
def Rk(P:Program)(t:TypeId)(x:SV)(f:Nat):Option SV:=match Qu P t f with
 |some q=>(match x with
  | .ptr s off=>some (.ptr s (off+q.1))
  | .pe lt l i off=>some (.pe lt l i (off+q.1))
  | .pte s lt i off=>some (.pte s lt i (off+q.1))
  | .pro cs off=>(match cR (avs cs)with|some _=>some (.pro cs (off+q.1))|none=>none)
  |_=>none)
 |none=>none
theorem Xt{P:Program}{t:TypeId}{x:SV}{f:Nat}{r:SV}(h:Rk P t x f=some r){K:AV->Prop}(hK:K r.av):Ru P t f x.av K/\(x.ok->r.ok):=by
 unfold Rk at h;split at h
 ·rename_i q hq;split at h
  ·cases h;exact⟨⟨q,hq,hK⟩,fun _=>trivial⟩
  ·cases h;exact⟨⟨q,hq,by simpa[SV.av,Nat.add_assoc]using hK⟩,fun h=>h⟩
  ·cases h;exact⟨⟨q,hq,by simpa[SV.av,Nat.add_assoc]using hK⟩,fun _=>trivial⟩
  ·rename_i cs off;split at h<;>cases h;rename_i m hm;refine⟨⟨q,hq,?_⟩,fun _=>trivial⟩
   simp only[SV.av,hm]at hK|-;exact hK
  ·cases h
 ·cases h
def Rj(P:Program)(t:TypeId)(x:SV)(f:Nat):Option SV:=match Qu P t f,x with
 |some q,.agg l=>(match tok P q.2,pQ P q.2 with
  |true,true=>some (.agg ((l.drop q.1).take (bH P q.2)))
  |true,false=>l[q.1]?
  |false,_=>none)
 |_,_=>none
theorem Xs{P:Program}{t:TypeId}{x:SV}{f:Nat}{r:SV}(h:Rj P t x f=some r){K:AV->Prop}(hK:K r.av):Rs P t f x.av K:=by
 unfold Rj at h;split at h
 ·rename_i q l hq;refine⟨q,hq,?_⟩;have key:Cr P q.2 (avs l) q.1 K:=by
   split at h
   ·rename_i h1 h2;cases h;refine⟨h1,?_⟩;rw[if_pos h2];exact⟨_,rfl,by rw[<-Ei,<-Eh];exact hK⟩
   ·rename_i h1 h2;refine⟨h1,?_⟩;rw[if_neg (by rw[h2];simp)]
    exact⟨r.av,by rw[xU,h];rfl,hK⟩
   ·cases h
  show(match fD (avs l)with| .agg l=>Cr P q.2 l q.1 K| .p (.agg l)=>Cr P q.2 (l.map .p) q.1 K|_=>False)
  unfold fD;cases hq:cR (avs l)with
  |none=>exact key
  |some m=>dsimp only;rw[<-eW hq];exact key
 ·cases h
def Ri(P:Program)(t:TypeId)(x i:SV):Option (List Prop×SV):=match i with
 | .int _ a=>(match x with
   | .lst lt l=>(match eC P t with
     |some e=>(match(P.info? e).isSome,Nat.beq (bH P e) lt.w with|true,true=>some ([ix a l.length],.pe lt l a.toNat 0)|_,_=>none)
     |none=>none)
   | .own s lt n=>(match eC P t with
     |some e=>(match(P.info? e).isSome,Nat.beq (bH P e) lt.w with|true,true=>some ([ix a n],.pte s lt a.toNat 0)|_,_=>none)
     |none=>none)
   | .owns s lt o n=>(match eC P t with
     |some e=>(match(P.info? e).isSome,Nat.beq (bH P e) lt.w with|true,true=>some ([ix a n],.pte s lt (o+a.toNat) 0)|_,_=>none)
     |none=>none)
   | .ownx s n=>(match eC P t with
     |some e=>(match(P.info? e).isSome with|true=>some ([ix a n],.ptr s (a.toNat*bH P e))|_=>none)
     |none=>none)
   | .owF x n=>(match eC P t with
     |some e=>(match(P.info? e).isSome,Nat.beq (bH P e) 1 with|true,true=>some ([ix a n],.ptf x a.toNat)|_,_=>none)
     |none=>none)
   | .ownf x lt b n=>(match eC P t with
     |some e=>(match(P.info? e).isSome,Nat.beq (bH P e) lt.w with|true,true=>some ([ix a n],.ptef x lt b a.toNat 0)|_,_=>none)
     |none=>none)
   | .sl n cs=>(match eC P t,cR (avs cs)with
     |some e,some _=>(match(P.info? e).isSome with|true=>some ([ix a n],.pro cs (a.toNat*bH P e))|_=>none)
     |_,_=>none)
   | .ptr s off=>(match Mm P t with
     |some q=>(match(P.info? q.2).isSome with|true=>some ([ix a q.1],.ptr s (off+a.toNat*bH P q.2))|_=>none)
     |none=>none)
   | .pe lt l j off=>(match Mm P t with
     |some q=>(match(P.info? q.2).isSome with|true=>some ([ix a q.1,j<l.length],.pe lt l j (off+a.toNat*bH P q.2))|_=>none)
     |none=>none)
   | .ptb F m off=>(match Mm P t with
     |some q=>(match(P.info? q.2).isSome with|true=>some ([ix a q.1],.ptb F m (off+a.toNat*bH P q.2))|_=>none)
     |none=>none)
   | .pro cs off=>(match Mm P t,cR (avs cs)with
     |some q,some _=>(match(P.info? q.2).isSome with|true=>some ([ix a q.1],.pro cs (off+a.toNat*bH P q.2))|_=>none)
     |_,_=>none)
   |_=>none)
 |_=>none
theorem Xr{P:Program}{t:TypeId}{x i:SV}{ps:List Prop}{r:SV}(h:Ri P t x i=some (ps,r))(hp:∀p∈ps,p){K:AV->Prop}(hK:K r.av):Kc P t x.av i.av K/\r.ok:=by
 unfold Ri at h;split at h
 case h_2=>cases h
 rename_i k a;split at h
 ·rename_i lt l;split at h
  ·rename_i e he;split at h<;>cases h;rename_i h1 h2;have hb:=hp _ (List.mem_singleton.2 rfl);unfold ix at hb;refine⟨⟨e,he,h1,hb.1,hb.2,?_⟩,show a.toNat<l.length by omega⟩
   rw[Nat.eq_of_beq_eq_true h2];exact hK
  ·cases h
 ·rename_i s lt n;split at h
  ·rename_i e he;split at h<;>cases h;rename_i h1 h2;have hb:=hp _ (List.mem_singleton.2 rfl);unfold ix at hb;refine⟨⟨e,he,h1,hb.1,hb.2,?_⟩,trivial⟩;rw[Nat.eq_of_beq_eq_true h2,Nat.zero_add];exact hK
  ·cases h
 ·rename_i s lt o n;split at h
  ·rename_i e he;split at h<;>cases h;rename_i h1 h2;have hb:=hp _ (List.mem_singleton.2 rfl);unfold ix at hb;refine⟨⟨e,he,h1,hb.1,hb.2,?_⟩,trivial⟩;rw[Nat.eq_of_beq_eq_true h2,<-Nat.add_mul];exact hK
  ·cases h
 ·rename_i s n;split at h
  ·rename_i e he;split at h<;>cases h;rename_i h1;have hb:=hp _ (List.mem_singleton.2 rfl);unfold ix at hb;refine⟨⟨e,he,h1,hb.1,hb.2,?_⟩,trivial⟩;rw[Nat.zero_add];exact hK
  ·cases h
 ·rename_i x n;split at h
  ·rename_i e he;split at h<;>cases h;rename_i h1 h2;have hb:=hp _ (List.mem_singleton.2 rfl);unfold ix at hb;refine⟨⟨e,he,h1,hb.1,hb.2,?_⟩,trivial⟩;rw[Nat.eq_of_beq_eq_true h2,Nat.zero_add,Nat.mul_one];exact hK
  ·cases h
 ·rename_i x lt b n;split at h
  ·rename_i e he;split at h<;>cases h;rename_i h1 h2;have hb:=hp _ (List.mem_singleton.2 rfl);unfold ix at hb;refine⟨⟨e,he,h1,hb.1,hb.2,?_⟩,trivial⟩;rw[Nat.eq_of_beq_eq_true h2,Nat.zero_add];exact hK
  ·cases h
 ·rename_i n cs;split at h
  ·rename_i e m he hm;split at h<;>cases h;rename_i h1;have hb:=hp _ (List.mem_singleton.2 rfl);unfold ix at hb;refine⟨?_,trivial⟩;simp only[SV.av,hm]at hK|-;exact⟨e,he,h1,hb.1,hb.2,hK⟩
  ·cases h
 ·rename_i s off;split at h
  ·rename_i q hq;split at h<;>cases h;rename_i h1;have hb:=hp _ (List.mem_singleton.2 rfl);unfold ix at hb;exact⟨⟨q,hq,h1,hb.1,hb.2,hK⟩,trivial⟩
  ·cases h
 ·rename_i lt l j off;split at h
  ·rename_i q hq;split at h<;>cases h;rename_i h1;have hb:=hp _ (List.mem_cons_self);unfold ix at hb;refine⟨⟨q,hq,h1,hb.1,hb.2,?_⟩,hp (j<l.length) (List.mem_cons_of_mem _ (List.mem_singleton.2 rfl))⟩;rw[Nat.add_assoc];exact hK
  ·cases h
 ·rename_i F m off;split at h
  ·rename_i q hq;split at h<;>cases h;rename_i h1;have hb:=hp _ (List.mem_singleton.2 rfl);unfold ix at hb;exact⟨⟨q,hq,h1,hb.1,hb.2,hK⟩,trivial⟩
  ·cases h
 ·rename_i cs off;split at h
  ·rename_i q m hq hm;split at h<;>cases h;rename_i h1;have hb:=hp _ (List.mem_singleton.2 rfl);unfold ix at hb;refine⟨?_,trivial⟩;simp only[SV.av,hm]at hK|-;exact⟨q,hq,h1,hb.1,hb.2,hK⟩
  ·cases h
 ·cases h
theorem cW.newF{σ:Sg}{n m:Nat}{e ie:TypeId}{lt:LT}(h:σ n=none)(hs:bD n=sit n 0):
  cW σ [] [(n,some (.fam e ie lt (List.replicate m []) []))] [] ((sit n 0,some ⟨e,1,(List.range m).map fun j=> .own (inn n (j+1)) 0 0⟩)::(List.range m).map fun j=>(inn n (j+1),some ⟨ie,lt.w,[]⟩)):=by
 rw[<-hs];refine⟨fun s hm=>(List.not_mem_nil hm).elim,fun s hm=> ?_,?_⟩
 ·have hc:cls s=ncl n:=by
   rcases List.mem_cons.1 hm with rfl|hm
   ·exact dT n 0
   ·rw[List.map_map]at hm;obtain⟨j,_,rfl⟩:=List.mem_map.1 hm;exact dT n (j+1)
  rw[hc];exact List.mem_singleton.2 rfl
 ·funext s
  unfold cG;rw[List.lookup_cons,rK (fun j=>inn n (j+1))]
  rcases eL s with⟨y,rfl⟩|⟨y,b,rfl⟩|hno
  ·rw[if_neg (show¬bD y∈(List.range m).map fun j=>inn n (j+1)from fun hm=>by
    obtain⟨j,_,hj⟩:=List.mem_map.1 hm;have:=(dO hj).2;omega)]
   rw[Sg.cL,Sg.cL];unfold bM.up;rw[List.lookup_cons];by_cases e1:y=n
   ·subst e1;rw[beq_iff_eq.2 rfl,beq_iff_eq.2 rfl];show some (⟨e,1,_⟩:Ob)=some ⟨e,1,(List.range (List.replicate m ([] :List lt.ty)).length).map (qB y (List.replicate m ([] :List lt.ty)) [])⟩;rw[List.length_replicate]
    congr 2
    refine List.map_congr_left fun i hi=> ?_
    show _=AV.own (inn y (i+1)) 0 ((List.replicate m ([] :List lt.ty)).getD i []).length;rw[List.getD_eq_getElem?_getD,List.getElem?_replicate,if_pos (List.mem_range.1 hi)];rfl
   ·rw[beq_eq_false_iff_ne.2 e1,beq_eq_false_iff_ne.2 (show bD y≠bD n from fun h=>e1 (gW h))];rfl
  ·rw[beq_eq_false_iff_ne.2 (show inn y (b+1)≠bD n from fun h=>by have:=(dO h).2;omega),Sg.gK,Sg.gK]
   unfold bM.up;rw[List.lookup_cons];by_cases e1:y=n
   ·subst e1;rw[beq_iff_eq.2 rfl];show _=(((List.replicate m ([] :List lt.ty))[b]?).map fun l=>(⟨ie,lt.w,(lt.enc l).map .p⟩:Ob))
    rw[List.getElem?_replicate];by_cases hb:b<m
    ·rw[if_pos (show inn y (b+1)∈(List.range m).map fun j=>inn y (j+1)from List.mem_map_of_mem (f:=fun j=>inn y (j+1)) (List.mem_range.2 hb)),if_pos hb];rfl
    ·rw[if_neg (show¬inn y (b+1)∈(List.range m).map fun j=>inn y (j+1)from fun hm=>by
      obtain⟨j,h1,hj⟩:=List.mem_map.1 hm;have:=(dO hj).2;have:=List.mem_range.1 h1;omega),if_neg hb,h];rfl
   ·rw[if_neg (show¬inn y (b+1)∈(List.range m).map fun j=>inn n (j+1)from fun hm=>by
     obtain⟨j,h1,hj⟩:=List.mem_map.1 hm;exact e1 (dO hj).1.symm),beq_eq_false_iff_ne.2 e1];rfl
  ·rw[if_neg (show¬s∈(List.range m).map fun j=>inn n (j+1)from fun hm=>by
    obtain⟨j,h1,hj⟩:=List.mem_map.1 hm;exact hno _ _ hj.symm),beq_eq_false_iff_ne.2 (show s≠bD n from fun h=>hno n 0 h),Sg.sF _ hno,Sg.sF _ hno]
theorem Dt(x:PV):∀m,yW m [.p x] =(List.replicate m x).map .p
 |0=>rfl
 |m+1=>by rw[yW,Dt x m,List.replicate_succ];rfl
theorem Pa:∀m,LT.I.enc (List.replicate m (0:Int))=List.replicate m (.int .i64 0)
 |0=>rfl
 |m+1=>by rw[List.replicate_succ,List.replicate_succ,<-Pa m];rfl
theorem Pb:∀m,LT.B.enc (List.replicate m false)=List.replicate m (.bool false)
 |0=>rfl
 |m+1=>by rw[List.replicate_succ,List.replicate_succ,<-Pb m];rfl
def aAq(P:Program)(ltOf:TypeId->Option LT)(σ:Sg)(n:Nat)(t:TypeId)(x y:SV):SR:=match x,y with
 | .int _ a,.int _ b=>(match eC P t,frs σ n with
   |some e,true=>(match P.info? e,Hg P e,Nat.beq (bH P e) 1 with
    |some i,some [.int .i64 (.ofNat 0)],true=>some ([0<=a,b=a,a<=1000000,a.toNat*i.bytes<=1000000000],.own n .I a.toNat,[],[(n,some (.row e .I (List.replicate a.toNat (0:Int))))])
    |some i,some [.bool false],true=>some ([0<=a,b=a,a<=1000000,a.toNat*i.bytes<=1000000000],.own n .B a.toNat,[],[(n,some (.row e .B (List.replicate a.toNat false)))])
    |some i,some [.nil],true=>(match eC P e with
     |some ie=>(match ltOf ie with
      |some lt=>some ([0<=a,b=a,a<=1000000,a.toNat*i.bytes<=1000000000],.owF n a.toNat,[],[(n,some (.fam e ie lt (List.replicate a.toNat []) []))])
      |none=>none)
     |none=>none)
    |_,_,_=>none)
   |_,_=>none)
 |_,_=>none
theorem aBy{P:Program}{ltOf:TypeId->Option LT}{n:Nat}{o:Oper}{E:SE}{σ:Sg}{t:TypeId}{x y:Operand}(ho:o.op= .makeSlice t x y):Aq P n o E σ (aAq P ltOf σ n t (E x) (E y)):=by
 intro ps r rd W h hp;unfold AOp;rw[ho];dsimp only;unfold aAq at h;split at h
 case h_2=>cases h
 rename_i k1 a k2 b ea eb;rw[show E.a x= .p (.int k1 a) by unfold SE.a;rw[ea];rfl,show E.a y= .p (.int k2 b) by unfold SE.a;rw[eb];rfl]
 split at h
 case h_2=>cases h
 rename_i e he hf;obtain⟨f1,f2⟩:=jY hf;split at h
 ·cases h;rename_i i hi hz hw;obtain⟨z1,z2⟩:=qF hz;have q1:0<=a:=hp _ (by simp)
  have q2:b=a:=hp _ (by simp)
  have q3:a<=1000000:=hp _ (by simp)
  have q4:a.toNat*i.bytes<=1000000000:=hp _ (by simp)
  have hw:=Nat.eq_of_beq_eq_true hw;subst q2;refine .inl ⟨k1,k2,b.toNat,e,_,i,by rw[Int.toNat_of_nonneg q1],by rw[Int.toNat_of_nonneg q1],he,hi,z1,z2,by simp[avs],by rw[hw];omega,q4,?_,?_⟩
  ·show _=AV.own (bD n) 0 _;rw[f1]
  ·rw[hw,show avs [SV.int .i64 (.ofNat 0)] =[.p (.int .i64 0)]from rfl,Dt,<-Pa]
   exact cW.new (ob:= .row e .I (List.replicate b.toNat (0:Int))) f2 f1 rfl
 ·cases h;rename_i i hi hz hw;obtain⟨z1,z2⟩:=qF hz;have q1:0<=a:=hp _ (by simp)
  have q2:b=a:=hp _ (by simp)
  have q3:a<=1000000:=hp _ (by simp)
  have q4:a.toNat*i.bytes<=1000000000:=hp _ (by simp)
  have hw:=Nat.eq_of_beq_eq_true hw;subst q2;refine .inl ⟨k1,k2,b.toNat,e,_,i,by rw[Int.toNat_of_nonneg q1],by rw[Int.toNat_of_nonneg q1],he,hi,z1,z2,by simp[avs],by rw[hw];omega,q4,?_,?_⟩
  ·show _=AV.own (bD n) 0 _;rw[f1]
  ·rw[hw,show avs [SV.bool false] =[.p (.bool false)]from rfl,Dt,<-Pb]
   exact cW.new (ob:= .row e .B (List.replicate b.toNat false)) f2 f1 rfl
 ·rename_i i hi hz hw;split at h
  case h_2=>cases h
  rename_i ie hie;split at h<;>cases h;rename_i lt hlt;obtain⟨z1,z2⟩:=qF hz;have q1:0<=a:=hp _ (by simp)
  have q2:b=a:=hp _ (by simp)
  have q3:a<=1000000:=hp _ (by simp)
  have q4:a.toNat*i.bytes<=1000000000:=hp _ (by simp)
  subst q2;have hcl:ncl n=n:=by
   have h1:cls (bD n)=ncl n:=dT n 0;rw[f1,eA]at h1;exact h1.symm
  refine .inr ⟨fun j=>inn n (j+1),ie,lt.w,k1,k2,b.toNat,e,i,by rw[Int.toNat_of_nonneg q1],by rw[Int.toNat_of_nonneg q1],he,hi,z1,z2,by have:=lt.oC;omega,fun j=>(dT n (j+1)).trans hcl,fun j hj=> ?_,by omega,q4,?_,cW.newF f2 f1⟩
  ·rw[<-f1]at hj;have:=(dO hj).2;omega
  ·show _=AV.own (bD n) 0 _;rw[f1]
 ·cases h
def aAt(x:SV)(i:Nat):Option SV:=match x with
 | .tup l=>l[i]?
 |_=>none
theorem aBB{x:SV}{i:Nat}{r:SV}(h:aAt x i=some r){K:AV->Prop}(hK:K r.av):Mx x.av i K:=by
 unfold aAt at h;split at h
 ·rename_i l;have h1:(avs l)[i]? =some r.av:=by rw[xU,h];rfl
  show Mx (nB (avs l)) i K;unfold nB;cases hq:cR (avs l)with
  |none=>exact⟨_,h1,hK⟩
  |some q=>
   rw[eW hq,List.getElem?_map]at h1;cases hc:q[i]? with
   |none=>rw[hc]at h1;cases h1
   |some y=>rw[hc,Option.map_some,Option.some.injEq]at h1;exact⟨y,hc,by rw[h1];exact hK⟩
 ·cases h
end
end Go.Proofs.YtdaeofhdgabhjaaGreat
namespace Go.Proofs.YtdaeofhdgabhjaaGreat
open Go.RowKit
noncomputable section
def Gp(raw:Bool)(k:IntKind)(x:Int):List Prop×SV:=match raw,k with
 |false,.i64=>([aJ x],.int .i64 x)
 |_,k=>([],.int k (k.wrap x))
theorem uP{raw:Bool}{k:IntKind}{x:Int}(h:∀p∈(Gp raw k x).1,p):(Gp raw k x).2.av= .p (.int k (k.wrap x)):=by
 unfold Gp at h|-;split
 ·rename_i e;rw[nR (h _ (List.mem_singleton.2 rfl))];rfl
 ·rfl
def My:SV->Option Bool
 | .bool b=>some b
 | .lit b=>some b
 | .prop p d=>some (@decide p d)
 |_=>none
theorem tL{x:SV}{b:Bool}(h:My x=some b):x.av= .p (.bool b):=by
 cases x<;>simp only[My,reduceCtorEq,Option.some.injEq]at h<;>subst h<;>rfl
def Rl(raw:Bool)(op:BinOp)(k:IntKind)(a b:Int):Option (List Prop×SV):=match op with
 | .add=>some (Gp raw k (a+b))
 | .sub=>some (Gp raw k (a-b))
 | .mul=>some (Gp raw k (a*b))
 | .quo=>some ((b≠0)::(Gp raw k (a.tdiv b)).1,(Gp raw k (a.tdiv b)).2)
 | .rem=>some ([b≠0],.int k (a.tmod b))
 | .eql=>some ([],.prop (a=b) inferInstance)
 | .neq=>some ([],.prop (¬a=b) inferInstance)
 | .lss=>some ([],.prop (a<b) inferInstance)
 | .leq=>some ([],.prop (a<=b) inferInstance)
 | .gtr=>some ([],.prop (b<a) inferInstance)
 | .geq=>some ([],.prop (b<=a) inferInstance)
 |_=>none
theorem Xx{raw:Bool}{op:BinOp}{k:IntKind}{a b:Int}{ps:List Prop}{r:SV}(h:Rl raw op k a b=some (ps,r))(hp:∀p∈ps,p){K:AV->Prop}(hK:K r.av):zD op k a b K:=by
 unfold Rl at h;split at h<;>simp only[Option.some.injEq,Prod.mk.injEq,reduceCtorEq]at h
 ·have e:=uP (raw:=raw) (k:=k) (x:=a+b) (by rw[h];exact hp)
  rw[h]at e;unfold zD;rw[<-e];exact hK
 ·have e:=uP (raw:=raw) (k:=k) (x:=a-b) (by rw[h];exact hp)
  rw[h]at e;unfold zD;rw[<-e];exact hK
 ·have e:=uP (raw:=raw) (k:=k) (x:=a*b) (by rw[h];exact hp)
  rw[h]at e;unfold zD;rw[<-e];exact hK
 ·obtain⟨rfl,rfl⟩:=h;have e:=uP (raw:=raw) (k:=k) (x:=a.tdiv b) (fun p h=>hp p (List.mem_cons_of_mem _ h))
  exact⟨hp _ List.mem_cons_self,by rw[<-e];exact hK⟩
 ·obtain⟨rfl,rfl⟩:=h;exact⟨hp _ List.mem_cons_self,hK⟩
 ·obtain⟨rfl,rfl⟩:=h;exact hK
 ·obtain⟨rfl,rfl⟩:=h;show K (.p (.bool (a !=b)));have:(a !=b)=decide (¬a=b):=by by_cases e:a=b<;>simp[e]
  rw[this];exact hK
 ·obtain⟨rfl,rfl⟩:=h;exact hK
 ·obtain⟨rfl,rfl⟩:=h;exact hK
 ·obtain⟨rfl,rfl⟩:=h;exact hK
 ·obtain⟨rfl,rfl⟩:=h;exact hK
def Hj:List SV->Option (List Int)
 |[] =>some []
 | .int .i64 a::l=>(match Hj l with|some m=>some (a::m)|none=>none)
 |_::_=>none
theorem Eb:∀{l:List SV} {m:List Int},Hj l=some m->avs l=(rZ m).map .p
 |[],m,h=>by simp only[Hj,Option.some.injEq]at h;subst h;rfl
 |x::l,m,h=>by
  unfold Hj at h;split at h
  ·rename_i e;cases e
  ·rename_i a l' e;cases e;split at h<;>cases h;rename_i m' hm;rw[avs,Eb hm];rfl
  ·cases h
theorem mV:∀m:List Int,pW (rZ m)=some m
 |[] =>rfl
 |x::m=>by
  have:=mV m;unfold rZ at*;simp only[List.map_cons,pW,this,Option.map_some]
def eqP(xs ys:List Int):SV:=match xs,ys with
 |[a,b],[c,d] => .prop ((⟨a,b⟩:Geo.V)=⟨c,d⟩) inferInstance
 |[a,b,c,d],[e,f,g,h] => .prop ((⟨⟨a,b⟩,⟨c,d⟩⟩:Geo.S)=⟨⟨e,f⟩,⟨g,h⟩⟩) inferInstance
 |xs,ys=> .prop (xs=ys) inferInstance
theorem aBa(xs ys:List Int):(eqP xs ys).av= .p (.bool (xs==ys)):=by
 unfold eqP;split
 ·rename_i a b c d;show AV.p (.bool (decide _))=_
  congr 2
  rw[Bool.eq_iff_iff];simp only[decide_eq_true_eq,beq_iff_eq,Geo.V.mk.injEq,List.cons.injEq,and_true]
 ·rename_i a b c d e f g h;show AV.p (.bool (decide _))=_
  congr 2
  rw[Bool.eq_iff_iff];simp only[decide_eq_true_eq,beq_iff_eq,Geo.V.mk.injEq,Geo.S.mk.injEq,List.cons.injEq,and_true,and_assoc]
 ·show AV.p (.bool (decide _))=_
  congr 2
  rw[Bool.eq_iff_iff];simp only[decide_eq_true_eq,beq_iff_eq]
def aCJ:SV->Option SV
 | .prop p d=>some (.prop (¬p) (@instDecidableNot p d))
 | .bool b=>some (.bool (!b))
 | .lit true=>some (.lit false)
 | .lit false=>some (.lit true)
 |_=>none
theorem We{x r:SV}(h:aCJ x=some r):∃b,x.av= .p (.bool b)/\r.av= .p (.bool (!b)):=by
 cases x<;>simp only[aCJ,reduceCtorEq,Option.some.injEq]at h
 ·subst h;exact⟨_,rfl,rfl⟩
 ·rename_i b;cases b<;>simp only[Option.some.injEq]at h<;>subst h<;>exact⟨_,rfl,rfl⟩
 ·rename_i p d;subst h;refine⟨_,rfl,?_⟩;show AV.p (.bool (decide _))=_
  congr 2
  cases d<;>rfl
abbrev EqT:=List (TypeId×Nat)
def EqT.Ok(P:Program)(q:EqT):Prop:=∀t m,(t,m)∈q->Dh P t m
def EqT.has:EqT->TypeId->Nat->Bool
 |[],_,_=>false
 |(a,b)::l,t,m=>(Nat.beq a t&&Nat.beq b m)||EqT.has l t m
theorem EqT.Ld:∀{q:EqT} {t m:Nat},q.has t m=true->(t,m)∈q
 |[],t,m,h=>by cases h
 |(a,b)::l,t,m,h=>by
  simp only[EqT.has,Bool.or_eq_true,Bool.and_eq_true]at h;rcases h with⟨h1,h2⟩|h
  ·rw[Nat.eq_of_beq_eq_true h1,Nat.eq_of_beq_eq_true h2];exact List.mem_cons_self
  ·exact List.mem_cons_of_mem _ (EqT.Ld h)
def aF0(P:Program)(q:EqT)(raw:Bool)(op:BinOp)(t:TypeId)(x y:SV):Option (List Prop×SV):=match x,y with
 | .int k a,.int k' b=>(match decEq k' k with| .isTrue _=>Rl raw op k a b| .isFalse _=>none)
 | .agg l,.agg m=>(match Hj l,Hj m with
   |some xs,some ys=>(match Nat.beq xs.length ys.length,q.has t xs.length,op with
    |true,true,.eql=>some ([],eqP xs ys)
    |true,true,.neq=>(match aCJ (eqP xs ys)with|some r=>some ([],r)|none=>none)
    |_,_,_=>none)
   |_,_=>none)
 | .lst _ l,.nil=>(match(eC P t).isSome,op with
   |true,.eql=>some ([0<l.length],.lit false)
   |_,_=>none)
 |x,y=>(match My x,My y,aAg P t,op with
  |some a,some b,true,.eql=>some ([],.bool (a==b))
  |some a,some b,true,.neq=>some ([],.bool (a !=b))
  |_,_,_,_=>none)
theorem aC7{P:Program}{q:EqT}(hq:q.Ok P){raw:Bool}{op:BinOp}{t:TypeId}{x y:SV}{ps:List Prop}{r:SV}(h:aF0 P q raw op t x y=some (ps,r))(hp:∀p∈ps,p){K:AV->Prop}(hK:K r.av):Xe P op t x.av y.av K:=by
 unfold aF0 at h;split at h
 ·rename_i k a k' b;split at h
  ·rename_i e _;exact⟨e,Xx h hp hK⟩
  ·cases h
 ·rename_i l m;split at h
  ·rename_i xs ys hx hy;have key:∀(op:BinOp),(∃xs' ys',pW (rZ xs)=some xs'/\pW (rZ ys)=some ys'/\xs'.length=ys'.length/\Dh P t xs'.length/\(match op with| .eql=>K (.p (.bool (xs'==ys')))| .neq=>K (.p (.bool (xs' !=ys')))|_=>False))->Xe P op t (SV.agg l).av (SV.agg m).av K:=by
    intro op h;show Xe P op t (fD (avs l)) (fD (avs m)) K;rw[Eb hx,Eb hy,kH,kH];exact h
   split at h
   ·rename_i h1 h2;cases h;refine key _ ⟨xs,ys,mV _,mV _,Nat.eq_of_beq_eq_true h1,hq _ _ (EqT.Ld h2),?_⟩;rw[aBa]at hK;exact hK
   ·rename_i h1 h2;split at h<;>cases h;rename_i hr;obtain⟨b,e1,e2⟩:=We hr;rw[aBa]at e1;cases e1;refine key _ ⟨xs,ys,mV _,mV _,Nat.eq_of_beq_eq_true h1,hq _ _ (EqT.Ld h2),?_⟩;rw[e2]at hK;exact hK
   ·cases h
  ·cases h
 ·rename_i t' l;split at h<;>cases h;rename_i ht;have hl:0<l.length:=hp _ List.mem_cons_self;refine⟨ht,fun e=> ?_,rfl,hK⟩
  have e2:=congrArg List.length e;rw[t'.wide.length,List.length_nil]at e2;have:=Nat.mul_pos hl t'.oC;omega
 ·split at h
  ·rename_i a b h1 h2 h3;cases h;rw[tL h1,tL h2];exact⟨h3,hK⟩
  ·rename_i a b h1 h2 h3;cases h;rw[tL h1,tL h2];exact⟨h3,hK⟩
  ·cases h
def sun(raw:Bool)(op:UnOp)(x:SV):Option (List Prop×SV):=match op with
 | .not=>(match aCJ x with|some r=>some ([],r)|none=>none)
 | .neg=>(match x with| .int k a=>some (Gp raw k (0-a))|_=>none)
 |_=>none
theorem aGu{raw:Bool}{op:UnOp}{x:SV}{ps:List Prop}{r:SV}(h:sun raw op x=some (ps,r))(hp:∀p∈ps,p){K:AV->Prop}(hK:K r.av):unA op x.av K:=by
 unfold sun at h;split at h
 ·split at h<;>cases h;rename_i hr;obtain⟨b,e1,e2⟩:=We hr;rw[e1];rw[e2]at hK;exact hK
 ·split at h
  ·rename_i k a;simp only[Option.some.injEq]at h;have e:=uP (raw:=raw) (k:=k) (x:=0-a) (by rw[h];exact hp)
   rw[h]at e;show K _;rw[<-e];exact hK
  ·cases h
 ·cases h
def aAv(P:Program)(raw:Bool)(s d:TypeId)(x:SV):Option (List Prop×SV):=match x with
 | .int _ a=>(match(P.underlying s).isSome,aFT P d with
   |true,some k=>some (Gp raw k a)
   |_,_=>none)
 |_=>none
theorem aBD{P:Program}{raw:Bool}{s d:TypeId}{x:SV}{ps:List Prop}{r:SV}(h:aAv P raw s d x=some (ps,r))(hp:∀p∈ps,p){K:AV->Prop}(hK:K r.av):Uw P s d x.av K:=by
 unfold aAv at h;split at h
 ·rename_i k0 a;split at h
  ·rename_i k h1 h2;simp only[Option.some.injEq]at h;have e:=uP (raw:=raw) (k:=k) (x:=a) (by rw[h];exact hp)
   rw[h]at e;exact⟨h1,k,h2,by rw[<-e];exact hK⟩
  ·cases h
 ·cases h
def aF5:SV->Option Int
 | .int _ n=>some n
 |_=>none
theorem aDv{x:SV}{n:Int}(h:aF5 x=some n):aCN x.av=some n:=by
 cases x<;>simp only[aF5,reduceCtorEq,Option.some.injEq]at h;subst h;rfl
def aCP(E:SE):Option Operand->Option (Option Int)
 |none=>some none
 |some x=>(match aF5 (E x)with|some n=>some (some n)|none=>none)
def aM7:SV->Int
 | .lst _ l=>(l.length:Int)
 | .own _ _ n=>n
 | .owns _ _ _ n=>n
 | .ownx _ n=>n
 |_=>0
def Rg(P:Program)(t:TypeId)(x:SV)(lo hi:Option Int):Option (List Prop×SV):=match eC P t with
 |some e=>(match(P.info? e).isSome,Nat.beq (bH P e) 0 with
  |true,false=>(match x,lo,hi with
   | .lst lt l,lo,hi=>(match Nat.beq (bH P e) lt.w with
     |true=>(match lo,hi with
      |none,none=>some ([],.lst lt l)
      |some a,none=>some ([0<=a/\a<=(l.length:Int)],.lst lt (l.drop a.toNat))
      |none,some b=>some ([0<=b/\b<=(l.length:Int)],.lst lt (l.take b.toNat))
      |some a,some b=>some ([0<=a/\a<=b/\b<=(l.length:Int)],.lst lt ((l.take b.toNat).drop a.toNat)))
     |false=>none)
   | .own s lt n,lo,hi=>(match Nat.beq (bH P e) lt.w with
     |true=>(match lo,hi with
      |none,none=>some ([],.own s lt n)
      |none,some b=>some ([0<=b/\b<=(n:Int)],.owns s lt 0 b.toNat)
      |some a,none=>some ([0<=a/\a<=(n:Int)],.owns s lt a.toNat (n-a.toNat))
      |some a,some b=>some ([0<=a/\a<=b/\b<=(n:Int)],.owns s lt a.toNat (b.toNat-a.toNat)))
     |false=>none)
   | .owns s lt o n,lo,hi=>(match Nat.beq (bH P e) lt.w with
     |true=>(match lo,hi with
      |none,none=>some ([],.owns s lt o n)
      |none,some b=>some ([0<=b/\b<=(n:Int)],.owns s lt o b.toNat)
      |some a,none=>some ([0<=a/\a<=(n:Int)],.owns s lt (o+a.toNat) (n-a.toNat))
      |some a,some b=>some ([0<=a/\a<=b/\b<=(n:Int)],.owns s lt (o+a.toNat) (b.toNat-a.toNat)))
     |false=>none)
   | .ownx s n,none,none=>some ([],.ownx s n)
   |_,_,_=>none)
  |_,_=>none)
 |none=>none
theorem Xn{P:Program}{t:TypeId}{x:SV}{lo hi:Option Int}{ps:List Prop}{r:SV}(h:Rg P t x lo hi=some (ps,r))(hp:∀p∈ps,p){K:AV->Prop}(hK:K r.av):
  yY P t x.av (some (lo.getD 0)) (some (hi.getD (Jy x.av))) K:=by
 unfold Rg at h;split at h
 case h_2=>cases h
 rename_i e he;split at h
 case h_2=>cases h
 rename_i h1 h2;have h2':bH P e≠0:=Nat.ne_of_beq_eq_false h2;split at h
 ·rename_i lt l;split at h
  case h_2=>cases h
  rename_i hw;have hw:=Nat.eq_of_beq_eq_true hw;have key:∀a b:Int,0<=a->a<=b->b<=l.length->K (.p (.sl ((l.take b.toNat).drop a.toNat).length (lt.enc ((l.take b.toNat).drop a.toNat))))->yY P t (SV.lst lt l).av (some a) (some b) K:=by
   intro a b ha hb hc hK;refine⟨e,a,b,he,h1,h2',rfl,rfl,ha,hb,hc,?_⟩;rw[hw,lt.wide.take,lt.wide.drop];have:((l.take b.toNat).drop a.toNat).length=b.toNat-a.toNat:=by simp only[List.length_drop,List.length_take];omega
   rw[<-this];exact hK
  split at h<;>cases h
  ·refine key 0 (l.length:Int) (by omega) (by omega) (by omega) ?_
   rw[Int.toNat_natCast,List.take_length];exact hK
  ·rename_i a;have hb:=hp _ (List.mem_singleton.2 rfl);refine key a (l.length:Int) hb.1 hb.2 (by omega) ?_
   rw[Int.toNat_natCast,List.take_length];exact hK
  ·rename_i b;have hb:=hp _ (List.mem_singleton.2 rfl);exact key 0 b (by omega) hb.1 hb.2 hK
  ·rename_i a b;have hb:=hp _ (List.mem_singleton.2 rfl);exact key a b hb.1 hb.2.1 hb.2.2 hK
 ·rename_i s lt n;split at h
  case h_2=>cases h
  rename_i hw;have hw:=Nat.eq_of_beq_eq_true hw;have key:∀a b:Int,0<=a->a<=b->b<=n->K (.own (bD s) (a.toNat*lt.w) (b.toNat-a.toNat))->yY P t (SV.own s lt n).av (some a) (some b) K:=by
   intro a b ha hb hc hK;refine⟨e,a,b,he,h1,h2',rfl,rfl,ha,hb,hc,?_⟩;rw[hw,Nat.zero_add];exact hK
  split at h<;>cases h
  ·refine key 0 (n:Int) (by omega) (by omega) (by omega) ?_
   simpa[SV.av]using hK
  ·rename_i b;have hb:=hp _ (List.mem_singleton.2 rfl);refine key 0 b (by omega) hb.1 hb.2 ?_
   simpa[SV.av]using hK
  ·rename_i a;have hb:=hp _ (List.mem_singleton.2 rfl);exact key a (n:Int) hb.1 hb.2 (by omega) (by simpa[SV.av]using hK)
  ·rename_i a b;have hb:=hp _ (List.mem_singleton.2 rfl);exact key a b hb.1 hb.2.1 hb.2.2 hK
 ·rename_i s lt o n;split at h
  case h_2=>cases h
  rename_i hw;have hw:=Nat.eq_of_beq_eq_true hw;have key:∀a b:Int,0<=a->a<=b->b<=n->K (.own (bD s) ((o+a.toNat)*lt.w) (b.toNat-a.toNat))->yY P t (SV.owns s lt o n).av (some a) (some b) K:=by
   intro a b ha hb hc hK;refine⟨e,a,b,he,h1,h2',rfl,rfl,ha,hb,hc,?_⟩;rw[hw,<-Nat.add_mul];exact hK
  split at h<;>cases h
  ·refine key 0 (n:Int) (by omega) (by omega) (by omega) ?_
   simpa[SV.av]using hK
  ·rename_i b;have hb:=hp _ (List.mem_singleton.2 rfl);refine key 0 b (by omega) hb.1 hb.2 ?_
   simpa[SV.av]using hK
  ·rename_i a;have hb:=hp _ (List.mem_singleton.2 rfl);exact key a (n:Int) hb.1 hb.2 (by omega) (by simpa[SV.av]using hK)
  ·rename_i a b;have hb:=hp _ (List.mem_singleton.2 rfl);exact key a b hb.1 hb.2.1 hb.2.2 hK
 ·rename_i s n;cases h;refine⟨e,0,(n:Int),he,h1,h2',rfl,rfl,Int.le_refl _,Int.natCast_nonneg _,Int.le_refl _,?_⟩;simpa[SV.av]using hK
 ·cases h
def aFZ(P:Program)(t:TypeId)(x:SV):Option SV:=match x with
 | .lst _ l=>(match(eC P t).isSome with|true=>some (.int .i64 (l.length:Int))|false=>none)
 | .own _ _ n=>(match(eC P t).isSome with|true=>some (.int .i64 (n:Int))|false=>none)
 | .owns _ _ _ n=>(match(eC P t).isSome with|true=>some (.int .i64 (n:Int))|false=>none)
 | .ownx _ n=>(match(eC P t).isSome with|true=>some (.int .i64 (n:Int))|false=>none)
 | .owF _ n=>(match(eC P t).isSome with|true=>some (.int .i64 (n:Int))|false=>none)
 | .ownf _ _ _ n=>(match(eC P t).isSome with|true=>some (.int .i64 (n:Int))|false=>none)
 | .sl n cs=>(match(eC P t).isSome,cR (avs cs)with|true,some _=>some (.int .i64 (n:Int))|_,_=>none)
 | .nil=>(match(eC P t).isSome with|true=>some (.int .i64 0)|false=>none)
 |_=>none
theorem aC3{P:Program}{t:TypeId}{x r:SV}(h:aFZ P t x=some r){K:AV->Prop}(hK:K r.av):aCM P t x.av K:=by
 unfold aFZ at h;split at h
 ·split at h<;>cases h;rename_i h1;exact⟨h1,hK⟩
 ·split at h<;>cases h;rename_i h1;exact⟨h1,hK⟩
 ·split at h<;>cases h;rename_i h1;exact⟨h1,hK⟩
 ·split at h<;>cases h;rename_i h1;exact⟨h1,hK⟩
 ·split at h<;>cases h;rename_i h1;exact⟨h1,hK⟩
 ·split at h<;>cases h;rename_i h1;exact⟨h1,hK⟩
 ·rename_i n cs;split at h<;>cases h;rename_i q h1 h2;simp only[SV.av,h2];exact⟨h1,hK⟩
 ·split at h<;>cases h;rename_i h1;exact⟨h1,hK⟩
 ·cases h
def Mv(σ:Sg)(e:TypeId)(lt:LT)(x:SV):Option (List Prop×List lt.ty×List Nat):=match x with
 | .nil=>some ([],[],[])
 | .own s _ k=>(match σ s with
   |some (.row ty lt' l)=>(match decEq lt' lt,Nat.beq ty e with
    | .isTrue h,true=>some ([k=l.length],h▸l,[s])
    |_,_=>none)
   |_=>none)
 | .ownx s k=>(match σ s with
   |some (.arr ty ez cs)=>(match Nat.beq ty e,Nat.beq ez lt.w,lt.decs k cs with
    |true,true,some l=>some ([],l,[s])
    |_,_,_=>none)
   |_=>none)
 |_=>none
def Uj(σ:Sg)(lt:LT)(x:SV):Option (List Prop×List lt.ty×List Nat):=match x with
 | .nil=>some ([],[],[])
 | .lst lt' l=>(match decEq lt' lt with
   | .isTrue h=>some ([],h▸l,[])
   | .isFalse _=>none)
 | .own s _ k=>(match σ s with
   |some (.row _ lt' l)=>(match decEq lt' lt with
    | .isTrue h=>some ([k=l.length],h▸l,[s])
    | .isFalse _=>none)
   |_=>none)
 | .owns s lt2 o k=>(match σ s with
   |some (.row _ lt' l)=>(match decEq lt' lt,decEq lt2 lt with
    | .isTrue h,.isTrue _=>some ([o+k<=l.length],(h▸l:List lt.ty).drop o|>.take k,[s])
    |_,_=>none)
   |_=>none)
 | .ownx s k=>(match σ s with
   |some (.arr _ ez cs)=>(match Nat.beq ez lt.w,lt.decs k cs with
    |true,some l=>some ([],l,[s])
    |_,_=>none)
   |_=>none)
 |_=>none
def Up(P:Program)(ltOf:TypeId->Option LT)(n:Nat)(t t':TypeId)(σ:Sg)(x y:SV):SR:=match eC P t,(eC P t').isSome with
 |some e,true=>(match ltOf e,aCB P e,frs σ n with
  |some lt,true,true=>(match Nat.beq (bH P e) lt.w,Mv σ e lt x,Uj σ lt y with
   |true,some (p1,l,r1),some (p2,m,r2)=>some (p1++p2++[l.length+m.length<=1000000],.own n lt (l++m).length,r1++r2,r1.map (·,none)++[(n,some (.row e lt (l++m)))])
   |_,_,_=>none)
  |_,_,_=>none)
 |_,_=>none
theorem aCa{σ:Sg}{e:TypeId}{lt:LT}{x:SV}{ps:List Prop}{l:List lt.ty}{r:List Nat}(h:Mv σ e lt x=some (ps,l,r))(hp:∀p∈ps,p){K:Nat->List AV->List Nat->Prop}(hK:K l.length ((lt.enc l).map .p) (r.map bD)):aAD σ.a e lt.w x.av K:=by
 unfold Mv at h;split at h
 ·cases h;exact hK
 ·rename_i s _ k;split at h
  ·rename_i ty lt' l' hs;split at h
   ·rename_i he _ hty;subst he;cases h;have hk:k=l'.length:=hp _ (List.mem_singleton.2 rfl);refine⟨_,by rw[Sg.cL,hs];rfl,Nat.eq_of_beq_eq_true hty,rfl,?_,by rw[hk];exact hK⟩
    show((lt'.enc l').map AV.p).length=_;rw[List.length_map,lt'.wide.length,hk]
   ·cases h
  ·cases h
 ·rename_i s k;split at h
  ·rename_i ty ez cs hs;split at h<;>cases h;rename_i h1 h2 h3;obtain⟨e1,e2⟩:=LT.uR h3;have h2:=Nat.eq_of_beq_eq_true h2;refine⟨_,by rw[Sg.cL,hs];rfl,Nat.eq_of_beq_eq_true h1,h2,?_,?_⟩
   ·show(avs cs).length=_;rw[e2,List.length_map,lt.wide.length,e1]
   ·show K k (avs cs) [bD s];rw[e2,<-e1];exact hK
  ·cases h
 ·cases h
theorem Ng{σ:Sg}{lt:LT}{x:SV}{ps:List Prop}{l:List lt.ty}{r:List Nat}(h:Uj σ lt x=some (ps,l,r))(hp:∀p∈ps,p){K:Nat->List AV->List Nat->Prop}(hK:K l.length ((lt.enc l).map .p) (r.map bD)):Uk σ.a lt.w x.av K:=by
 unfold Uj at h;split at h
 ·cases h;exact hK
 ·rename_i lt' l';split at h
  ·rename_i he _;subst he;cases h;exact⟨lt'.wide.length _,hK⟩
  ·cases h
 ·rename_i s _ k;split at h
  ·rename_i ty lt' l' hs;split at h
   ·rename_i he _;subst he;cases h;have hk:k=l'.length:=hp _ (List.mem_singleton.2 rfl);refine⟨_,(lt'.enc l').map .p,by rw[Sg.cL,hs];rfl,?_,?_,by rw[hk];exact hK⟩
    ·show(((lt'.enc l').map AV.p).drop 0).take (k*lt'.w)=_;rw[List.drop_zero,List.take_of_length_le (by rw[List.length_map,lt'.wide.length,hk];exact Nat.le_refl _)]
    ·rw[List.length_map,lt'.wide.length,hk]
   ·cases h
  ·cases h
 ·rename_i s lt2 o k;split at h
  ·rename_i ty lt' l' hs;split at h
   ·rename_i he he2 _ _;subst he;subst he2;cases h;have hk:o+k<=l'.length:=hp _ (List.mem_singleton.2 rfl);have hlen:((l'.drop o).take k).length=k:=by simp;omega
    refine⟨_,(lt2.enc ((l'.drop o).take k)).map .p,by rw[Sg.cL,hs];rfl,?_,?_,by rw[hlen]at hK;exact hK⟩
    ·show(((lt2.enc l').map AV.p).drop (o*lt2.w)).take (k*lt2.w)=_;rw[<-List.map_drop,<-List.map_take,lt2.wide.drop,lt2.wide.take]
    ·rw[List.length_map,lt2.wide.length,hlen]
   ·cases h
  ·cases h
 ·rename_i s k;split at h
  ·rename_i ty ez cs hs;split at h<;>cases h;rename_i h1 h3;obtain⟨e1,e2⟩:=LT.uR h3;have hl:(avs cs).length=k*lt.w:=by rw[e2,List.length_map,lt.wide.length,e1]
   refine⟨_,avs cs,by rw[Sg.cL,hs];rfl,?_,hl,by rw[e2,<-e1];exact hK⟩
   show((avs cs).drop 0).take (k*lt.w)=_;rw[List.drop_zero,List.take_of_length_le (by rw[hl];exact Nat.le_refl _)]
  ·cases h
 ·cases h
theorem Tm{σ:Sg}{e:TypeId}{lt:LT}{x:SV}{ps:List Prop}{l:List lt.ty}{r:List Nat}(h:Mv σ e lt x=some (ps,l,r)):∀s∈r,xI (σ s)=true:=by
 unfold Mv at h;split at h
 ·cases h;exact fun s hs=>(List.not_mem_nil hs).elim
 ·split at h
  ·rename_i hs;split at h
   ·cases h;exact fun s' hs'=>by rw[List.mem_singleton.1 hs',hs];rfl
   ·cases h
  ·cases h
 ·split at h
  ·rename_i hs;split at h<;>cases h;exact fun s' hs'=>by rw[List.mem_singleton.1 hs',hs];rfl
  ·cases h
 ·cases h
theorem aBG{P:Program}{ltOf:TypeId->Option LT}{n:Nat}{t t':TypeId}{σ:Sg}{x y:SV}{ps:List Prop}{r:SV}{rd:List Nat}{W:bM}(h:Up P ltOf n t t' σ x y=some (ps,r,rd,W))(hp:∀p∈ps,p):
  (eC P t').isSome=true/\aAd P n t σ.a x.av y.av fun r' R' W'=>r'=r.av/\cW σ rd W R' W':=by
 unfold Up at h;split at h
 case h_2=>cases h
 rename_i e he ht';split at h
 case h_2=>cases h
 rename_i lt hlt htapp hf;split at h
 case h_2=>cases h
 rename_i p1 l r1 p2 m r2 hw h1 h2;cases h;refine⟨ht',e,he,htapp,?_⟩;rw[Nat.eq_of_beq_eq_true hw];obtain⟨f1,f2⟩:=jY hf;have hfl:=Tm h1;refine aCa h1 (fun p hpp=>hp p (by simp[hpp])) (Ng h2 (fun p hpp=>hp p (by simp[hpp])) ⟨hp _ (by simp),?_,?_⟩)
 ·show _=AV.own (bD n) 0 _;rw[List.length_append,f1]
 ·have e1:(r1.map bD).map (·,(none:Option Ob))++[(sit n 0,some (⟨e,lt.w,(lt.enc l).map AV.p++(lt.enc m).map AV.p⟩:Ob))] =bM.sto (r1.map (·,none)++[(n,some (.row e lt (l++m)))]):=by
   unfold bM.sto;rw[List.map_append,List.map_map,List.map_map,<-f1];show _++_=_++[(bD n,some (⟨e,lt.w,(lt.enc (l++m)).map AV.p⟩:Ob))];rw[lt.wide.append,List.map_append];rfl
  rw[e1,<-List.map_append];refine cW.flat fun q hq=> ?_
  rcases List.mem_append.1 hq with hq|hq
  ·obtain⟨s,hs,rfl⟩:=List.mem_map.1 hq;exact⟨hfl s hs,rfl⟩
  ·rw[List.mem_singleton.1 hq,f2];exact⟨rfl,rfl⟩
theorem cW.take{σ:Sg}{z n a k:Nat}{ty ity:TypeId}{lt:LT}{L:List (List lt.ty)}{ov:List (Nat×SV)}{ob:SOb}{rd R:List Nat}(hs:σ z=some (.fam ty ity lt L ov))(ho:ov.lookup a=none)(hk:k=(L.getD a []).length)(hn:σ n=none)(hf:ob.flat=true)(hR:inC R (rd.map ncl)):
  cW σ rd [(z,some (.fam ty ity lt L ((a,.ownf z lt a k)::ov))),(n,some ob)] R [(inn z (a+1),none),(bD n,some (ob.ob n))] :=by
 have hzn:z≠n:=fun e=>by rw[e,hn]at hs;cases hs
 refine⟨hR,fun s hm=> ?_,?_⟩
 ·have hm:s=inn z (a+1)\/s=bD n:=by simpa using hm
  rcases hm with rfl|rfl
  ·rw[dT];exact List.mem_cons_self
  ·rw[show cls (bD n)=ncl n from dT n 0]
   exact List.mem_cons_of_mem _ (List.mem_singleton.2 rfl)
 ·funext s
  unfold cG;rcases eL s with⟨y,rfl⟩|⟨y,b,rfl⟩|hno
  ·rw[Sg.cL,Sg.cL,List.lookup_cons,beq_eq_false_iff_ne.2 (show bD y≠inn z (a+1)from fun h=>by have:=(dO h).2;omega)]
   unfold bM.up;dsimp only;rw[List.lookup_cons,List.lookup_cons,List.lookup_cons];by_cases e:y=z
   ·subst e;rw[beq_iff_eq.2 rfl,beq_eq_false_iff_ne.2 (show bD y≠bD n from fun h=>hzn (gW h)),hs]
    show some (⟨ty,1,_⟩:Ob)=some ⟨ty,1,_⟩
    congr 2
    refine List.map_congr_left fun i hi=> ?_
    unfold qB;rw[List.lookup_cons];by_cases hi:i=a
    ·subst hi;rw[beq_iff_eq.2 rfl,ho,hk];rfl
    ·rw[beq_eq_false_iff_ne.2 hi]
   ·rw[beq_eq_false_iff_ne.2 e];dsimp only;by_cases e2:y=n
    ·subst e2;rw[beq_iff_eq.2 rfl,beq_iff_eq.2 rfl];rfl
    ·rw[beq_eq_false_iff_ne.2 e2,beq_eq_false_iff_ne.2 (show bD y≠bD n from fun h=>e2 (gW h))];rfl
  ·rw[Sg.gK,Sg.gK,List.lookup_cons,List.lookup_cons,beq_eq_false_iff_ne.2 (show inn y (b+1)≠bD n from fun h=>by have:=(dO h).2;omega)]
   unfold bM.up;rw[List.lookup_cons,List.lookup_cons];by_cases e:y=z
   ·subst e;rw[beq_iff_eq.2 rfl,hs];by_cases hb:b=a
    ·subst hb;rw[beq_iff_eq.2 rfl];show none=SOb.inner b (.fam ty ity lt L ((b,.ownf y lt b k)::ov));unfold SOb.inner;dsimp only;rw[List.lookup_cons,beq_iff_eq.2 rfl]
    ·rw[beq_eq_false_iff_ne.2 (show inn y (b+1)≠inn y (a+1)from fun h=>hb (by have:=(dO h).2;omega))]
     show SOb.inner b (.fam ty ity lt L ov)=SOb.inner b (.fam ty ity lt L ((a,.ownf y lt a k)::ov));unfold SOb.inner;dsimp only;rw[List.lookup_cons,beq_eq_false_iff_ne.2 hb]
   ·rw[beq_eq_false_iff_ne.2 e,beq_eq_false_iff_ne.2 (show inn y (b+1)≠inn z (a+1)from fun h=>e (dO h).1)]
    by_cases e2:y=n
    ·subst e2;rw[beq_iff_eq.2 rfl,hn];show none=SOb.inner b ob;rw[SOb.rH hf]
    ·rw[beq_eq_false_iff_ne.2 e2];rfl
  ·rw[Sg.sF _ hno,Sg.sF _ hno,List.lookup_cons,List.lookup_cons,beq_eq_false_iff_ne.2 (hno z (a+1)),beq_eq_false_iff_ne.2 (show s≠bD n from fun h=>hno n 0 h)];rfl
def Uo(P:Program)(n:Nat)(t t':TypeId)(σ:Sg)(z:Nat)(lt2:LT)(a k:Nat)(y:SV):SR:=match eC P t,(eC P t').isSome,σ z with
 |some e,true,some (.fam ty ity lt L ov)=>(match decEq lt2 lt,aCB P e,frs σ n,Nat.beq ity e,Nat.beq (bH P e) lt.w,Uj σ lt y with
  | .isTrue _,true,true,true,true,some (p2,m,r2)=>some ((a<L.length)::(k=(L.getD a []).length)::(Bo ov a++p2++[(L.getD a []).length+m.length<=1000000]),.own n lt (L.getD a [] ++m).length,z::r2,[(z,some (.fam ty ity lt L ((a,.ownf z lt a k)::ov))),(n,some (.row e lt (L.getD a [] ++m)))])
  |_,_,_,_,_,_=>none)
 |_,_,_=>none
theorem aBF{P:Program}{n:Nat}{t t':TypeId}{σ:Sg}{z:Nat}{lt2:LT}{a k:Nat}{y:SV}{ps:List Prop}{r:SV}{rd:List Nat}{W:bM}(h:Uo P n t t' σ z lt2 a k y=some (ps,r,rd,W))(hp:∀p∈ps,p):
  (eC P t').isSome=true/\aAd P n t σ.a (SV.ownf z lt2 a k).av y.av fun r' R' W'=>r'=r.av/\cW σ rd W R' W':=by
 unfold Uo at h;split at h
 case h_2=>cases h
 rename_i e ty ity lt L ov he ht' hs;split at h
 case h_2=>cases h
 rename_i hlt p2 m r2 _ htapp hf hi hw h2;subst hlt;cases h;have ha:a<L.length:=hp _ List.mem_cons_self;have hk:k=(L.getD a []).length:=hp _ (List.mem_cons_of_mem _ List.mem_cons_self);have ho:ov.lookup a=none:=lW fun p hq=>hp p (by simp[hq])
 refine⟨ht',e,he,htapp,?_⟩;rw[Nat.eq_of_beq_eq_true hw];obtain⟨f1,f2⟩:=jY hf;refine⟨_,zT hs ha ho,Nat.eq_of_beq_eq_true hi,rfl,?_,?_⟩
 ·show((lt2.enc (L.getD a [])).map AV.p).length=_;rw[List.length_map,lt2.wide.length,hk]
 ·subst hk;refine Ng h2 (fun p hpp=>hp p (by simp[hpp])) ⟨hp _ (by simp),?_,?_⟩
  ·show _=AV.own (bD n) 0 _;rw[List.length_append,f1]
  ·rw[<-f1];have e1:(⟨e,lt2.w,(lt2.enc (L.getD a [])).map AV.p++(lt2.enc m).map AV.p⟩:Ob)=SOb.ob n (.row e lt2 (L.getD a [] ++m)):=by
    show _=(⟨e,lt2.w,(lt2.enc (L.getD a [] ++m)).map AV.p⟩:Ob);rw[lt2.wide.append,List.map_append]
   show cW _ _ _ _ [(inn z (a+1),none),(bD n,some (⟨e,lt2.w,(lt2.enc (L.getD a [])).map AV.p++(lt2.enc m).map AV.p⟩:Ob))];rw[e1];refine cW.take hs ho rfl f2 rfl fun s hm=> ?_
   rcases List.mem_cons.1 hm with rfl|hm
   ·rw[dT];exact List.mem_cons_self
   ·exact List.mem_cons_of_mem _ ((cW.read σ r2).1 s hm)
def aCE(P:Program)(ltOf:TypeId->Option LT)(n:Nat)(t t':TypeId)(σ:Sg)(x y:SV):SR:=match x with
 | .ownf z lt a k=>Uo P n t t' σ z lt a k y
 |_=>Up P ltOf n t t' σ x y
theorem aC8{P:Program}{ltOf:TypeId->Option LT}{n:Nat}{t t':TypeId}{σ:Sg}{x y:SV}{ps:List Prop}{r:SV}{rd:List Nat}{W:bM}(h:aCE P ltOf n t t' σ x y=some (ps,r,rd,W))(hp:∀p∈ps,p):
  (eC P t').isSome=true/\aAd P n t σ.a x.av y.av fun r' R' W'=>r'=r.av/\cW σ rd W R' W':=by
 unfold aCE at h;split at h
 ·exact aBF h hp
 ·exact aBG h hp
def smm(f:Int->Int->Int)(x y:SV):Option SV:=match x,y with
 | .int .i64 a,.int .i64 b=>some (.int .i64 (f a b))
 |_,_=>none
theorem aAW{f:Int->Int->Int}{x y r:SV}(h:smm f x y=some r){K:AV->Prop}(hK:K r.av):mmA f x.av y.av K:=by
 unfold smm at h;split at h<;>cases h;exact hK
end
end Go.Proofs.YtdaeofhdgabhjaaGreat
namespace Go.Proofs.YtdaeofhdgabhjaaGreat
open Go.RowKit
noncomputable section
def rY(f:SV->Option (List Prop×SV)):List SV->Option (List Prop×List SV)
 |[] =>some ([],[])
 |x::l=>match f x,rY f l with
  |some (p,y),some (q,m)=>some (p++q,y::m)
  |_,_=>none
def Um(d:Nat)(σ:Sg)(x n:Nat):Option (List Prop×SV):=match d,σ x with
 |_+1,some (.fam _ _ .I L [])=>some ([n=L.length],.lst .Q L)
 |_+1,some (.fam _ _ .V L [])=>some ([n=L.length],.lst .R L)
 |_,_=>none
def oH:Nat->Sg->SV->Option (List Prop×SV)
 |_,_,.nil=>some ([],.sl 0 [])
 |_+1,σ,.own s _ n=>(match σ s with
  |some (.row _ lt l)=>some ([n=l.length],.lst lt l)
  |_=>none)
 |_+1,σ,.owns s lt2 o n=>(match σ s with
  |some (.row _ lt l)=>(match Nat.beq lt2.w lt.w with|true=>some ([o+n<=l.length],.lst lt ((l.drop o).take n))|false=>none)
  |_=>none)
 |d+1,σ,.ownx s n=>(match σ s with
  |some (.arr _ ez cs)=>(match Nat.beq cs.length (n*ez),rY (oH d σ) cs with|true,some (ps,m)=>some (ps,.sl n m)|_,_=>none)
  |_=>none)
 |d+1,σ,.ptr s off=>(match σ s with
  |some (.box _ cs)=>(match rY (oH d σ) cs with|some (ps,m)=>some (ps,.pro m off)|none=>none)
  |_=>none)
 |_+1,σ,.ownf x _ a n=>(match σ x with
  |some (.fam _ _ lt L ov)=>some ((a<L.length)::(n=(L.getD a []).length)::Bo ov a,.lst lt (L.getD a []))
  |_=>none)
 |d+1,σ,.owF x n=>Um d σ x n
 |d+1,σ,.agg l=>(match rY (oH d σ) l with|some (ps,m)=>some (ps,.agg m)|none=>none)
 |d+1,σ,.fn f a b=>(match rY (oH d σ) a,rY (oH d σ) b with|some (p,x),some (q,y)=>some (p++q,.fnp f x y)|_,_=>none)
 |_,_,x=>(match x.av with| .p _=>some ([],x)|_=>none)
theorem xR{d:Nat}{σ:Sg}{f:SV->Option (List Prop×SV)}(hf:∀x ps y,f x=some (ps,y)->(∀p∈ps,p)->∃q,fW d σ.a x.av=some q/\y.av= .p q):
  ∀{l:List SV} {ps:List Prop} {m:List SV},rY f l=some (ps,m)->(∀p∈ps,p)->∃q,iC (fW d σ.a) (avs l)=some q/\avs m=q.map .p
 |[],ps,m,h,_=>by simp only[rY,Option.some.injEq,Prod.mk.injEq]at h;obtain⟨rfl,rfl⟩:=h;exact⟨[],rfl,rfl⟩
 |x::l,ps,m,h,hp=>by
  unfold rY at h;split at h
  ·rename_i p y q m' h1 h2;cases h;obtain⟨u,e1,e2⟩:=hf x p y h1 (fun r hr=>hp r (List.mem_append_left _ hr))
   obtain⟨v,e3,e4⟩:=xR hf h2 (fun r hr=>hp r (List.mem_append_right _ hr))
   refine⟨u::v,?_,by rw[avs,e2,e4];rfl⟩
   rw[avs,iC,e1,e3]
  ·cases h
theorem Ep{d:Nat}{σ:Sg}{x:SV}{ps:List Prop}{y:SV}(h:(match x.av with| .p _=>some (([] :List Prop),x)|_=>none)=some (ps,y)):∃q,fW d σ.a x.av=some q/\y.av= .p q:=by
 split at h<;>cases h;rename_i q hq;exact⟨q,by rw[hq,Rh],hq⟩
theorem Er{σ:Sg}{x a n d:Nat}{ty ity:TypeId}{lt:LT}{L:List (List lt.ty)}{ov:List (Nat×SV)}(hs:σ x=some (.fam ty ity lt L ov))(ha:a<L.length)(hn:n=(L.getD a []).length)(ho:ov.lookup a=none):
  fW (d+1) σ.a (.own (inn x (a+1)) 0 n)=some (.sl (L.getD a []).length (lt.enc (L.getD a []))):=by
 unfold fW;rw[zT hs ha ho];simp only[Option.bind_some,wG,Option.map_some,List.drop_zero];rw[List.take_of_length_le (by rw[lt.wide.length,hn];exact Nat.le_refl _),hn]
theorem Nx{d:Nat}{g:Nat->Option Ob}{f:Nat->AV}{h:Nat->PV}:∀(l:List Nat),(∀i∈l,fW d g (f i)=some (h i))->iC (fW d g) (l.map f)=some (l.map h)
 |[],_=>rfl
 |i::l,H=>by
  rw[List.map_cons,iC,H i List.mem_cons_self,Nx l fun j hj=>H j (List.mem_cons_of_mem _ hj)];rfl
theorem zY{α β:Type}(f:α->β):∀l:List α,(l.flatMap fun r=>[f r])=l.map f
 |[] =>rfl
 |a::l=>by rw[List.flatMap_cons,List.map_cons,zY f l];rfl
theorem Ni{σ:Sg}{x n d:Nat}{ty ity:TypeId}{lt:LT}{L:List (List lt.ty)}(hs:σ x=some (.fam ty ity lt L []))(hn:n=L.length):
  fW (d+2) σ.a (.own (bD x) 0 n)=some (.sl n (L.flatMap fun r=>[PV.sl r.length (lt.enc r)])):=by
 have e1:Sg.a σ (bD x)=some ⟨ty,1,(List.range L.length).map (qB x L [])⟩:=by rw[Sg.cL,hs];rfl
 have e2:iC (fW (d+1) σ.a) ((List.range L.length).map (qB x L []))=some ((List.range L.length).map fun i=>PV.sl (L.getD i []).length (lt.enc (L.getD i []))):=
  Nx _ fun i hi=>Er (ov:=[]) hs (List.mem_range.1 hi) rfl rfl
 have e3:((List.range L.length).map fun i=>PV.sl (L.getD i []).length (lt.enc (L.getD i [])))=L.flatMap fun r=>[PV.sl r.length (lt.enc r)] :=by
  rw[zY (fun r:List lt.ty=>PV.sl r.length (lt.enc r))]
  refine List.ext_getElem (by simp) fun i h1 h2=> ?_
  have h3:i<L.length:=by simpa using h2
  rw[List.getElem_map,List.getElem_map,List.getElem_range,List.getD_eq_getElem?_getD,List.getElem?_eq_getElem h3];rfl
 show fW (d+1+1) (Sg.a σ) (.own (bD x) 0 n)=_;unfold fW;rw[e1];simp only[Option.bind_some,e2,e3,Option.map_some,List.drop_zero];rw[List.take_of_length_le];rw[<-e3,List.length_map,List.length_range,hn,Nat.mul_one];exact Nat.le_refl _
theorem aBx{σ:Sg}{d x n:Nat}{ps:List Prop}{y:SV}(h:Um d σ x n=some (ps,y))(hp:∀p∈ps,p):∃q,fW (d+1) σ.a (SV.owF x n).av=some q/\y.av= .p q:=by
 unfold Um at h;split at h
 ·rename_i d ty ity L hs;cases h;have hn:n=L.length:=hp _ (List.mem_singleton.2 rfl);exact⟨_,Ni hs hn,by rw[hn];rfl⟩
 ·rename_i d ty ity L hs;cases h;have hn:n=L.length:=hp _ (List.mem_singleton.2 rfl);exact⟨_,Ni hs hn,by rw[hn];rfl⟩
 ·cases h
theorem Do{σ:Sg}:∀{d:Nat} {x:SV} {ps:List Prop} {y:SV},oH d σ x=some (ps,y)->(∀p∈ps,p)->∃q,fW d σ.a x.av=some q/\y.av= .p q:=by
 intro d;induction d with
 |zero=>
  intro x ps y h hp;cases x<;>first
   |(change some ([],SV.sl 0 [])=some (ps,y)at h;cases h;exact⟨.sl 0 [],rfl,rfl⟩)
   |exact Ep h
 |succ d ih=>
  intro x ps y h hp;have ihl:= @xR d σ (oH d σ) (fun x ps y=>ih)
  cases x with
  |nil=>change some ([],SV.sl 0 [])=some (ps,y)at h;cases h;exact⟨.sl 0 [],rfl,rfl⟩
  |own s t n=>
   change (match σ s with|some (.row _ lt l)=>some ([n=l.length],SV.lst lt l)|_=>none)=_ at h
   split at h<;>cases h;rename_i ty lt l hs;have hn:n=l.length:=hp _ (List.mem_singleton.2 rfl);refine⟨_,?_,rfl⟩;show fW (d+1) (Sg.a σ) (.own (bD s) 0 n)=_;unfold fW;have:Sg.a σ (bD s)=some ⟨ty,lt.w,(lt.enc l).map .p⟩:=by rw[Sg.cL,hs];rfl
   rw[this];simp only[Option.bind_some,wG,Option.map_some,List.drop_zero];rw[List.take_of_length_le (by rw[lt.wide.length,hn];exact Nat.le_refl _),hn]
  |owns s lt2 o n=>
   change (match σ s with|some (.row _ lt l)=>(match Nat.beq lt2.w lt.w with|true=>some ([o+n<=l.length],SV.lst lt ((l.drop o).take n))|false=>none)|_=>none)=_ at h
   split at h
   case h_2=>cases h
   rename_i ty lt l hs;split at h<;>cases h;rename_i hw;have hw:=Nat.eq_of_beq_eq_true hw;have hn:o+n<=l.length:=hp _ (List.mem_singleton.2 rfl);refine⟨_,?_,rfl⟩;show fW (d+1) (Sg.a σ) (.own (bD s) (o*lt2.w) n)=_;unfold fW;have:Sg.a σ (bD s)=some ⟨ty,lt.w,(lt.enc l).map .p⟩:=by rw[Sg.cL,hs];rfl
   rw[this];simp only[Option.bind_some,wG,Option.map_some];rw[hw,lt.wide.drop,lt.wide.take]
   congr 2
   simp;omega
  |ownx s n=>
   change (match σ s with|some (.arr _ ez cs)=>(match Nat.beq cs.length (n*ez),rY (oH d σ) cs with|true,some (ps,m)=>some (ps,SV.sl n m)|_,_=>none)|_=>none)=_ at h
   split at h
   case h_2=>cases h
   rename_i ty ez cs hs;split at h<;>cases h;rename_i m hl hm;obtain⟨q,e1,e2⟩:=ihl hm hp;refine⟨.sl n q,?_,by show(match cR (avs m)with|some q=>AV.p (.sl n q)|none=> .any)=_;rw[e2,cB]⟩
   show fW (d+1) (Sg.a σ) (.own (bD s) 0 n)=_;unfold fW;have:Sg.a σ (bD s)=some ⟨ty,ez,avs cs⟩:=by rw[Sg.cL,hs];rfl
   rw[this];simp only[Option.bind_some,e1,Option.map_some,List.drop_zero];rw[List.take_of_length_le (by rw[<-(jT e1).1,dR,Nat.eq_of_beq_eq_true hl];exact Nat.le_refl _)]
  |ptr s off=>
   change (match σ s with|some (.box _ cs)=>(match rY (oH d σ) cs with|some (ps,m)=>some (ps,SV.pro m off)|none=>none)|_=>none)=_ at h
   split at h
   case h_2=>cases h
   rename_i ty cs hs;split at h<;>cases h;rename_i m hm;obtain⟨q,e1,e2⟩:=ihl hm hp;refine⟨.pro q off,?_,by show(match cR (avs m)with|some q=>AV.p (.pro q off)|none=> .any)=_;rw[e2,cB]⟩
   show fW (d+1) (Sg.a σ) (.ptr (bD s) off)=_;unfold fW;have:Sg.a σ (bD s)=some ⟨ty,0,avs cs⟩:=by rw[Sg.cL,hs];rfl
   rw[this];simp only[Option.bind_some,e1,Option.map_some]
  |ownf x t a n=>
   change (match σ x with|some (.fam _ _ lt L ov)=>some ((a<L.length)::(n=(L.getD a []).length)::Bo ov a,SV.lst lt (L.getD a []))|_=>none)=_ at h
   split at h<;>cases h;rename_i ty ity lt L ov hs;have ha:a<L.length:=hp _ List.mem_cons_self;have hn:n=(L.getD a []).length:=hp _ (List.mem_cons_of_mem _ List.mem_cons_self);have ho:ov.lookup a=none:=lW fun p hq=>hp p (List.mem_cons_of_mem _ (List.mem_cons_of_mem _ hq))
   exact⟨_,Er hs ha hn ho,rfl⟩
  |owF x n=>exact aBx (show Um d σ x n=_ from h) hp
  |agg l=>
   change (match rY (oH d σ) l with|some (ps,m)=>some (ps,SV.agg m)|none=>none)=_ at h
   split at h<;>cases h;rename_i m hm;obtain⟨q,e1,e2⟩:=ihl hm hp;refine⟨.agg q,?_,by show fD (avs m)=_;rw[e2,kH]⟩
   show fW (d+1) (Sg.a σ) (fD (avs l))=_;unfold fD;cases hq:cR (avs l)with
   |some q'=>
    rw[eW hq,wG]at e1;cases e1;exact Rh _ _ _
   |none=>dsimp only;unfold fW;rw[e1];rfl
  |fn f a b=>
   change (match rY (oH d σ) a,rY (oH d σ) b with|some (p,x),some (q,y)=>some (p++q,SV.fnp f x y)|_,_=>none)=_ at h
   split at h<;>cases h;rename_i p x q y h1 h2;obtain⟨u,e1,e2⟩:=ihl h1 (fun r hr=>hp r (List.mem_append_left _ hr))
   obtain⟨v,e3,e4⟩:=ihl h2 (fun r hr=>hp r (List.mem_append_right _ hr))
   refine⟨.fn (.func f) u v,?_,by show(match cR (avs x),cR (avs y)with|some x,some y=>AV.p (.fn (.func f) x y)|_,_=> .any)=_;rw[e2,e4,cB,cB]⟩
   show fW (d+1) (Sg.a σ) (.fn (.func f) (avs a) (avs b))=_;unfold fW;rw[e1,e3];rfl
  |_=>exact Ep h
def eK:Nat->Sg->SV->List Nat
 |0,_,_=>[]
 |d+1,σ,x=>
  let O:Nat->List Nat:=fun s=>match σ s with
   |some (.box _ cs)=>bT (eK d σ) cs
   |some (.arr _ _ cs)=>bT (eK d σ) cs
   |some (.fam _ _ _ _ ov)=>bT (fun q:Nat×SV=>eK d σ q.2) ov
   |_=>[]
  match x with
  | .own s _ _=>s::O s
  | .owns s _ _ _=>s::O s
  | .ownx s _=>s::O s
  | .ptr s _=>s::O s
  | .pte s _ _ _=>s::O s
  | .ptf s _=>s::O s
  | .owF s _=>s::O s
  | .ownf s _ _ _=>[s]
  | .ptef s _ _ _ _=>[s]
  | .agg l=>bT (eK d σ) l
  | .fn _ a b=>bT (eK d σ) a++bT (eK d σ) b
  |_=>[]
def qC:Nat->Sg->SV->Bool
 |0,_,_=>true
 |d+1,σ,x=>
  let O:Nat->Bool:=fun s=>match σ s with
   |some (.box _ cs)=>cs.all (qC d σ)
   |some (.arr _ _ cs)=>cs.all (qC d σ)
   |some (.fam ..)=>false
   |_=>true
  match x with
  | .own s _ _=>O s
  | .owns s _ _ _=>O s
  | .ownx s _=>O s
  | .ptr s _=>O s
  | .pte s _ _ _=>O s
  | .ptf s _=>O s
  | .owF s _=>O s
  | .ownf .. =>false
  | .ptef .. =>false
  | .agg l=>l.all (qC d σ)
  | .fn _ a b=>a.all (qC d σ)&&b.all (qC d σ)
  |_=>true
theorem iY{d:Nat}{g:Nat->Option Ob}{y:AV}(h:(∃q,y= .p q)\/y= .any\/(∃l,y= .tup l)):eO (d+1) g y=[] :=by
 rcases h with⟨q,rfl⟩|rfl|⟨l,rfl⟩<;>rfl
theorem mP(x:SV):(match x with| .tup _| .sl .. | .pro .. | .fnp .. =>True|_=>False)->(∃q,x.av= .p q)\/x.av= .any\/(∃l,x.av= .tup l):=by
 intro h;cases x<;>first|exact h.elim|skip
 ·show(∃q,nB _= .p q)\/nB _= .any\/∃m,nB _= .tup m;unfold nB;split
  ·exact .inl ⟨_,rfl⟩
  ·exact .inr (.inr ⟨_,rfl⟩)
 all_goals
  simp only[SV.av];split
  ·exact .inl ⟨_,rfl⟩
  ·exact .inr (.inl rfl)
theorem Nu{d:Nat}{g:Nat->Option Ob}(l:List SV):eO (d+1) g (fD (avs l))=bT (eO d g) (avs l):=by
 unfold fD;cases hq:cR (avs l)with
 |none=>rfl
 |some q=>rw[eW hq,nK];rfl
theorem Wl{A B Ac Bc:List Nat}(h1:inC A Ac)(h2:inC B Bc):inC (A++B) (Ac++Bc):=fun s hs=>by
 rcases List.mem_append.1 hs with h|h
 ·exact List.mem_append_left _ (h1 s h)
 ·exact List.mem_append_right _ (h2 s h)
theorem mN{d:Nat}{σ:Sg}(ih:∀x:SV,inC (eO d σ.a x.av) ((eK d σ x).map ncl)):∀l:List SV,inC (bT (eO d σ.a) (avs l)) ((bT (eK d σ) l).map ncl)
 |[] =>fun s hs=>(List.not_mem_nil hs).elim
 |x::l=>by rw[avs,bT,bT,List.map_append];exact Wl (ih x) (mN ih l)
theorem aBL{σ:Sg}{d:Nat}(ih:∀x:SV,inC (eO d σ.a x.av) ((eK d σ x).map ncl)):∀s:Nat,inC (bD s::(match σ.a (bD s)with|some ob=>bT (eO d σ.a) ob.cells|none=>[])) ((s::(match σ s with|some (.box _ cs)=>bT (eK d σ) cs|some (.arr _ _ cs)=>bT (eK d σ) cs|some (.fam _ _ _ _ ov)=>bT (fun q:Nat×SV=>eK d σ q.2) ov|_=>[])).map ncl):=by
 intro s t ht;rw[Sg.cL]at ht;rcases List.mem_cons.1 ht with rfl|ht
 ·rw[show cls (bD s)=ncl s from dT s 0];exact List.mem_cons_self
 rw[List.map_cons];cases hs:σ s with
 |none=>rw[hs]at ht;exact(List.not_mem_nil ht).elim
 |some ob=>
  rw[hs]at ht;cases ob with
  |box ty cs=>exact List.mem_cons_of_mem _ (mN ih cs t ht)
  |row ty lt l=>
   have ht:t∈bT (eO d σ.a) ((lt.enc l).map .p):=ht;rw[nK]at ht;exact(List.not_mem_nil ht).elim
  |arr ty ez cs=>exact List.mem_cons_of_mem _ (mN ih cs t ht)
  |mp ks=>
   have ht:t∈bT (eO d σ.a) (lO (nD ks)):=ht;rw[lZ,nK]at ht;exact(List.not_mem_nil ht).elim
  |fam ty ity lt L ov=>
   have ht:t∈bT (eO d σ.a) ((List.range L.length).map (qB s L ov)):=ht;have:∀l:List Nat,t∈bT (eO d σ.a) (l.map (qB s L ov))->cls t∈ncl s::((bT (fun q:Nat×SV=>eK d σ q.2) ov).map ncl):=fun l=>by
    induction l with
    |nil=>intro h;exact(List.not_mem_nil h).elim
    |cons i l ihl=>
     intro h;rw[List.map_cons,bT]at h;rcases List.mem_append.1 h with h|h
     ·unfold qB at h;split at h
      ·rename_i v hv;obtain⟨y,hy,e⟩:=List.mem_map.1 (ih v t h);refine List.mem_cons_of_mem _ (List.mem_map.2 ⟨y,iH (x:=(i,v)) ?_ hy,e⟩);have key:∀ov:List (Nat×SV),ov.lookup i=some v->(i,v)∈ov:=fun ov hv=>by
        induction ov with
        |nil=>cases hv
        |cons q ov ihv=>
         rw[List.lookup_cons]at hv;split at hv
         ·rename_i e2;cases hv;rw[beq_iff_eq.1 e2];exact List.mem_cons_self
         ·exact List.mem_cons_of_mem _ (ihv hv)
       exact key ov hv
      ·cases d with
       |zero=>exact(List.not_mem_nil h).elim
       |succ d=>
        have h:t∈inn s (i+1)::(match σ.a (inn s (i+1))with|some ob=>bT (eO d σ.a) ob.cells|none=>[]):=h
        rcases List.mem_cons.1 h with rfl|h
        ·rw[dT];exact List.mem_cons_self
        ·rw[Sg.gK,hs]at h;have h:t∈(match(match ov.lookup i with|some _=>none|none=>(L[i]?).map fun l=>(⟨ity,lt.w,(lt.enc l).map .p⟩:Ob))with|some ob=>bT (eO d σ.a) ob.cells|none=>[]):=h
         split at h
         ·rename_i ob hob;split at hob
          ·cases hob
          ·cases hL:L[i]? with
           |none=>rw[hL]at hob;cases hob
           |some l=>rw[hL]at hob;cases hob;rw[nK]at h;exact(List.not_mem_nil h).elim
         ·exact(List.not_mem_nil h).elim
     ·exact ihl h
   exact this _ ht
theorem Ss{σ:Sg}{d:Nat}:∀s a:Nat,inC (inn s (a+1)::(match σ.a (inn s (a+1))with|some ob=>bT (eO d σ.a) ob.cells|none=>[])) ([s].map ncl):=by
 intro s a t ht;rcases List.mem_cons.1 ht with rfl|ht
 ·rw[dT];exact List.mem_cons_self
 ·rw[Sg.gK]at ht;cases hs:σ s with
  |none=>rw[hs]at ht;exact(List.not_mem_nil ht).elim
  |some ob=>
   rw[hs]at ht;cases ob with
   |fam ty ity lt L ov=>
    have ht:t∈(match(match ov.lookup a with|some _=>none|none=>(L[a]?).map fun l=>(⟨ity,lt.w,(lt.enc l).map .p⟩:Ob))with|some ob=>bT (eO d σ.a) ob.cells|none=>[]):=ht
    split at ht
    ·rename_i ob hob;split at hob
     ·cases hob
     ·cases hL:L[a]? with
      |none=>rw[hL]at hob;cases hob
      |some l=>rw[hL]at hob;cases hob;rw[nK]at ht;exact(List.not_mem_nil ht).elim
    ·exact(List.not_mem_nil ht).elim
   |_=>exact(List.not_mem_nil ht).elim
theorem Vr{σ:Sg}:∀(d:Nat) (x:SV),inC (eO d σ.a x.av) ((eK d σ x).map ncl):=by
 intro d;induction d with
 |zero=>intro x s hs;exact(List.not_mem_nil hs).elim
 |succ d ih=>
  intro x;have obs:=aBL ih;have inner:=Ss (σ:=σ) (d:=d);have non:∀{y:SV} {l:List Nat},eO (d+1) σ.a y.av=[]->inC (eO (d+1) σ.a y.av) l:=fun h=>by rw[h];exact fun s hs=>(List.not_mem_nil hs).elim
  cases x with
  |own s t n=>exact obs s
  |owns s t o n=>exact obs s
  |ownx s n=>exact obs s
  |ptr s off=>exact obs s
  |pte s t i off=>exact obs s
  |ptf s a=>exact obs s
  |owF s n=>exact obs s
  |ownf s t a n=>exact inner s a
  |ptef s t a i off=>exact inner s a
  |agg l=>
   show inC (eO (d+1) σ.a (fD (avs l))) _;rw[Nu];exact mN ih l
  |fn f a b=>
   show inC (bT (eO d σ.a) (avs a)++bT (eO d σ.a) (avs b)) ((bT (eK d σ) a++bT (eK d σ) b).map ncl);rw[List.map_append];exact Wl (mN ih a) (mN ih b)
  |tup l=>exact non (iY (mP _ trivial))
  |sl n cs=>exact non (iY (mP _ trivial))
  |pro cs off=>exact non (iY (mP _ trivial))
  |fnp f a b=>exact non (iY (mP _ trivial))
  |_=>exact non rfl
theorem mA{d:Nat}{σ:Sg}(ih:∀x:SV,qC d σ x=true->eO d σ.a x.av=(eK d σ x).map bD/\∀y∈eK d σ x,xI (σ y)=true):∀l:List SV,l.all (qC d σ)=true->bT (eO d σ.a) (avs l)=(bT (eK d σ) l).map bD/\∀y∈bT (eK d σ) l,xI (σ y)=true
 |[],_=>⟨rfl,fun y hy=>(List.not_mem_nil hy).elim⟩
 |x::l,h=>by
  rw[List.all_cons,Bool.and_eq_true]at h;obtain⟨a1,a2⟩:=ih x h.1;obtain⟨b1,b2⟩:=mA ih l h.2;rw[avs,bT,bT,List.map_append,a1,b1];exact⟨rfl,fun y hy=>by rcases List.mem_append.1 hy with hy|hy;exact a2 y hy;exact b2 y hy⟩
theorem Yh{σ:Sg}:∀(d:Nat) (x:SV),qC d σ x=true->eO d σ.a x.av=(eK d σ x).map bD/\∀y∈eK d σ x,xI (σ y)=true:=by
 intro d;induction d with
 |zero=>intro x _;exact⟨rfl,fun y hy=>(List.not_mem_nil hy).elim⟩
 |succ d ih=>
  intro x hx;have obs:∀s:Nat,(match σ s with|some (.box _ cs)=>cs.all (qC d σ)|some (.arr _ _ cs)=>cs.all (qC d σ)|some (.fam ..)=>false|_=>true)=true->
    (bD s::(match σ.a (bD s)with|some ob=>bT (eO d σ.a) ob.cells|none=>[]))=(s::(match σ s with|some (.box _ cs)=>bT (eK d σ) cs|some (.arr _ _ cs)=>bT (eK d σ) cs|some (.fam _ _ _ _ ov)=>bT (fun q:Nat×SV=>eK d σ q.2) ov|_=>[])).map bD/\
    ∀y∈(s::(match σ s with|some (.box _ cs)=>bT (eK d σ) cs|some (.arr _ _ cs)=>bT (eK d σ) cs|some (.fam _ _ _ _ ov)=>bT (fun q:Nat×SV=>eK d σ q.2) ov|_=>[])),xI (σ y)=true:=by
   intro s h;rw[Sg.cL,List.map_cons];cases hs:σ s with
   |none=>exact⟨rfl,fun y hy=>by rw[List.mem_singleton.1 hy,hs];rfl⟩
   |some ob=>
    rw[hs]at h;cases ob with
    |box ty cs=>
     obtain⟨a1,a2⟩:=mA ih cs h;refine⟨congrArg (bD s:: ·) a1,fun y hy=> ?_⟩
     rcases List.mem_cons.1 hy with rfl|hy
     ·rw[hs];rfl
     ·exact a2 y hy
    |row ty lt l=>exact⟨congrArg (bD s:: ·) (nK _ _ _),fun y hy=>by rw[List.mem_singleton.1 hy,hs];rfl⟩
    |arr ty ez cs=>
     obtain⟨a1,a2⟩:=mA ih cs h;refine⟨congrArg (bD s:: ·) a1,fun y hy=> ?_⟩
     rcases List.mem_cons.1 hy with rfl|hy
     ·rw[hs];rfl
     ·exact a2 y hy
    |mp ks=>
     refine⟨congrArg (bD s:: ·) ?_,fun y hy=>by rw[List.mem_singleton.1 hy,hs];rfl⟩
     show bT (eO d σ.a) (lO (nD ks))=_;rw[lZ];exact nK _ _ _
    |fam=>cases h
  have non:∀{y:SV},eO (d+1) σ.a y.av=[]->eK (d+1) σ y=[]->eO (d+1) σ.a y.av=(eK (d+1) σ y).map bD/\∀z∈eK (d+1) σ y,xI (σ z)=true:=fun h g=>by
   rw[h,g];exact⟨rfl,fun y hy=>(List.not_mem_nil hy).elim⟩
  cases x with
  |own s t n=>exact obs s hx
  |owns s t o n=>exact obs s hx
  |ownx s n=>exact obs s hx
  |ptr s off=>exact obs s hx
  |pte s t i off=>exact obs s hx
  |ptf s a=>exact obs s hx
  |owF s n=>exact obs s hx
  |ownf s t a n=>cases hx
  |ptef s t a i off=>cases hx
  |agg l=>
   show eO (d+1) σ.a (fD (avs l))=_/\_;rw[Nu];exact mA ih l hx
  |fn f a b=>
   have hx:(a.all (qC d σ)&&b.all (qC d σ))=true:=hx;rw[Bool.and_eq_true]at hx;obtain⟨a1,a2⟩:=mA ih a hx.1;obtain⟨b1,b2⟩:=mA ih b hx.2;show bT (eO d σ.a) (avs a)++bT (eO d σ.a) (avs b)=(bT (eK d σ) a++bT (eK d σ) b).map bD/\∀y∈bT (eK d σ) a++bT (eK d σ) b,_;rw[a1,b1,List.map_append];exact⟨rfl,fun y hy=>by rcases List.mem_append.1 hy with hy|hy;exact a2 y hy;exact b2 y hy⟩
  |tup l=>exact non (iY (mP _ trivial)) rfl
  |sl n cs=>exact non (iY (mP _ trivial)) rfl
  |pro cs off=>exact non (iY (mP _ trivial)) rfl
  |fnp f a b=>exact non (iY (mP _ trivial)) rfl
  |_=>exact non rfl rfl
inductive RK(X:Type) where
 |val (fr:Bool) (res:X->SV)
 |own (ty:TypeId) (t:LT) (l:X->List t.ty) (ys:X->List SV)
 |ownN (ty:TypeId) (t:LT) (l:X->List t.ty)
 |mutR (t:LT) (ty:TypeId) (l':X->List t.ty)
 |mutB (ty:TypeId) (cells':X->List SV)
 |tree (res:X->SV) (obs:X->bM)
 |rowB (t:LT) (ty:TypeId) (l':X->List t.ty)
structure Con where
 X:Type
 dec:List SV->Option X
 pre:X->List Prop
 rk:RK X
def aLf(P:Program)(f:Nat){X:Type}(dec:List SV->Option X)(pre:X->List Prop):RK X->Prop
 | .val fr res=>∀xs x,dec xs=some x->(∀p∈pre x,p)->∃A r,avs xs=A.map .p/\(res x).av= .p r/\Sat P fr f A r
 | .own ty t l ys=>∀xs x,dec xs=some x->(∀p∈pre x,p)->∃A Y,avs xs=A.map .p/\avs (ys x)=Y.map .p/\aAe P f A ty t.w (t.enc (l x)) (l x).length Y
 | .ownN ty t l=>∀xs x,dec xs=some x->(∀p∈pre x,p)->∃A,avs xs= .nil::A.map .p/\aGn P f A ty t.w (t.enc (l x)) (l x).length []
 | .mutR t ty l'=>∀l rest x,dec (.lst t l::rest)=some x->(∀p∈pre x,p)->∃A,avs rest=A.map .p/\Br P f (some l.length) A ty t.w (t.enc l) (t.enc (l' x))
 | .mutB ty cells'=>∀cs rest x,dec (.agg cs::rest)=some x->(∀p∈pre x,p)->∃A q q',avs rest=A.map .p/\avs cs=q.map .p/\avs (cells' x)=q'.map .p/\Br P f none A ty 0 q q'
 | .tree res obs=>∀xs x,dec xs=some x->(∀p∈pre x,p)->∃A,avs xs=A.map .p/\aGm P f A (res x).av (Sg.a (bM.at (obs x)))
 | .rowB t ty l'=>∀l rest x,dec (.lst t l::rest)=some x->(∀p∈pre x,p)->∃A,avs rest=A.map .p/\aGo P f l.length A ty t.w (t.enc l) (t.enc (l' x)) (l' x).length
def Con.Ok(P:Program)(f:Nat)(c:Con):Prop:=aLf P f c.dec c.pre c.rk
abbrev Tab:=Nat->Option Con
def Tab.Ok(P:Program)(T:Tab):Prop:=∀f c,T f=some c->c.Ok P f
def LT.argP:(t:LT)->t.ty->PV
 | .V=>fun v=> .agg [.int .i64 v.x,.int .i64 v.y]
 | .S=>fun s=> .agg [.int .i64 s.a.x,.int .i64 s.a.y,.int .i64 s.b.x,.int .i64 s.b.y]
 | .R=>fun r=> .sl r.length (mG r)
 | .I=>fun n=> .int .i64 n
 | .B=>fun b=> .bool b
 | .P=>fun p=> .agg [.int .i64 p.1,.int .i64 p.2]
 | .Q=>fun r=> .sl r.length (aCT r)
def LT.one:LT->Bool
 | .V=>false
 | .S=>false
 | .P=>false
 |_=>true
def aAc(t:LT)(v:SV):Option t.ty:=match t.one with
 |true=>t.dec [v]
 |false=>(match v with| .agg l=>t.dec l|_=>none)
theorem Ll{t:LT}{v:SV}{x:t.ty}(h:aAc t v=some x):v.av= .p (t.argP x):=by
 have agg:∀l:List SV,v= .agg l->t.dec l=some x->v.av= .p (.agg (t.rowP x)):=by
  intro l e hd;subst e;show fD (avs l)=_;rw[LT.Df hd,kH]
 have one:t.dec [v] =some x->∀c,t.rowP x=[c]->v.av= .p c:=by
  intro hd c hc;have:=LT.Df hd;rw[hc]at this;simp only[avs,List.map_cons,List.map_nil,List.cons.injEq,and_true]at this;exact this
 unfold aAc at h;cases t<;>simp only[LT.one]at h<;>first
  |exact one h _ rfl
  |(split at h<;>first|exact agg _ rfl h|cases h)
def aG5(P:Program)(pv:PV)(t:LT)(q:t.ty->Bool)(dom:t.ty->Prop):Prop:=∃f first caps,pv= .fn (.func f) first caps/\∀x,dom x->∃fr,Sat P fr f (first++[t.argP x] ++caps) (.bool (q x))
def aG4(P:Program)(pv:PV)(t:LT)(q:t.ty->t.ty->Int)(dom:t.ty->t.ty->Prop):Prop:=∃f first caps,pv= .fn (.func f) first caps/\∀x y,dom x y->∃fr,Sat P fr f (first++[t.argP x,t.argP y] ++caps) (.int .i64 (q x y))
def aAE(x:SV):Bool:=match x.av with
 | .p r=>r.flat
 |_=>false
def Un(T:Tab)(n:Nat)(σ:Sg)(f:Nat)(xs:List SV):SR:=match T f with
 |none=>none
 |some ⟨_,dec,pre,rk⟩=>(match rk with
  | .val fr res=>(match rY (oH 3 σ) xs with
    |some (ps,bs)=>(match dec bs with
     |some x=>(match(res x).ape,cR (avs xs)with
      |false,some _=>some (ps++pre x,res x,[],[])
      |false,none=>(match fr,aAE (res x)with
       |false,false=>(match xs.all (qC 3 σ)with|true=>some (ps++pre x,res x,bT (eK 3 σ) xs,(bT (eK 3 σ) xs).map (·,none))|false=>none)
       |_,_=>some (ps++pre x,res x,bT (eK 3 σ) xs,[]))
      |_,_=>none)
     |none=>none)
    |none=>none)
  | .own ty t l ys=>(match cR (avs xs),dec xs,frs σ n with
    |some _,some x,true=>(match ys x with
     |[] =>some (pre x,.own n t (l x).length,[],[(n,some (.row ty t (l x)))])
     |y::r=>(match Nat.beq (y::r).length 0 with|_=>some (pre x,.tup (.own n t (l x).length::y::r),[],[(n,some (.row ty t (l x)))])))
    |_,_,_=>none)
  | .ownN ty t l=>(match xs with
    | .nil::rest=>(match cR (avs rest),dec (.nil::rest),frs σ n with
      |some _,some x,true=>some (pre x,.own n t (l x).length,[],[(n,some (.row ty t (l x)))])
      |_,_,_=>none)
    |_=>none)
  | .mutR t ty l'=>(match xs with
    | .own s _ m::rest=>(match σ s,cR (avs rest)with
      |some (.row ty' t' l),some _=>(match decEq t' t,Nat.beq ty' ty with
       | .isTrue h,true=>(match dec (.lst t (h▸l)::rest)with
         |some x=>some ((m=l.length)::pre x,.undef,[s],[(s,some (.row ty t (l' x)))])
         |none=>none)
       |_,_=>none)
      |_,_=>none)
    |_=>none)
  | .mutB ty cells'=>(match xs with
    | .ptr s 0::rest=>(match σ s,cR (avs rest)with
      |some (.box ty' cs),some _=>(match Nat.beq ty' ty,dec (.agg cs::rest)with
       |true,some x=>some (pre x,.undef,[s],[(s,some (.box ty (cells' x)))])
       |_,_=>none)
      |_,_=>none)
    |_=>none)
  | .tree .. =>none
  | .rowB .. =>none)
theorem Np{P:Program}{T:Tab}(hT:T.Ok P){n:Nat}{σ:Sg}{f:Nat}{xs:List SV}{ps:List Prop}{r:SV}{rd:List Nat}{W:bM}(h:Un T n σ f xs=some (ps,r,rd,W))(hp:∀p∈ps,p):
  (qU P σ.a f (avs xs) (fun r' R' W'=>r'=r.av/\cW σ rd W R' W')\/Cc P n f (avs xs) (fun r' R' W'=>r'=r.av/\cW σ rd W R' W'))/\r.ok:=by
 unfold Un at h;split at h
 ·cases h
 rename_i X dec pre rk hTf;have hc:=hT f _ hTf;unfold Con.Ok at hc;dsimp only at hc;split at h
 ·rename_i fr res;split at h
  case h_2=>cases h
  rename_i qs bs hb;split at h
  case h_2=>cases h
  rename_i x hx;have fin:(∀p∈qs++pre x,p)->∃A r,iC (fW 3 σ.a) (avs xs)=some A/\(res x).av= .p r/\Sat P fr f A r:=by
   intro hp;obtain⟨A,r,h1,h2,h3⟩:=hc bs x hx (fun p h=>hp p (List.mem_append_right _ h))
   obtain⟨q,h4,h5⟩:=xR (fun x ps y=>Do) hb (fun p h=>hp p (List.mem_append_left _ h))
   rw[h1]at h5;have:A=q:=by
    have:=congrArg cR h5;rw[cB,cB]at this;cases this;rfl
   subst this;exact⟨A,r,h4,h2,h3⟩
  have hR:cW σ (bT (eK 3 σ) xs) [] (bT (eO 3 σ.a) (avs xs)) [] :=⟨mN (Vr 3) xs,fun s hs=>(List.not_mem_nil hs).elim,rfl⟩
  split at h
  ·rename_i A' hape hA';cases h;obtain⟨A,r,h1,h2,h3⟩:=fin hp;refine⟨.inl ?_,SV.sP hape⟩;rw[h2];rw[eW hA',wG]at h1;cases h1;exact tZ h3 hA' ⟨rfl,cW.read σ []⟩
  ·rename_i hape hA';cases hfr:fr with
   |true=>
    rw[hfr]at h;cases h;obtain⟨A,r,h1,h2,h3⟩:=fin hp;refine⟨.inl ?_,SV.sP hape⟩;rw[h2];rw[hfr]at h3;exact yQ h3 h1 rfl ⟨rfl,hR⟩
   |false=>
    cases hfl:aAE (res x)with
    |true=>
     rw[hfr,hfl]at h;cases h;obtain⟨A,r,h1,h2,h3⟩:=fin hp;refine⟨.inl ?_,SV.sP hape⟩;unfold aAE at hfl;rw[h2]at hfl|-;exact yQ (h3.fresh hfl) h1 rfl ⟨rfl,hR⟩
    |false=>
     rw[hfr,hfl]at h;dsimp only at h;split at h<;>cases h;rename_i hall;obtain⟨A,r,h1,h2,h3⟩:=fin hp;refine⟨.inl ?_,SV.sP hape⟩;rw[h2];obtain⟨e1,e2⟩:=mA (Yh 3) xs hall;refine Qf h3 h1 e1 ⟨rfl,?_⟩;have e3:((bT (eK 3 σ) xs).map bD).map (·,(none:Option Ob))=bM.sto ((bT (eK 3 σ) xs).map (·,none)):=by
      unfold bM.sto;rw[List.map_map,List.map_map];rfl
     rw[e3];exact cW.flat fun q hq=>by
      obtain⟨y,hy,rfl⟩:=List.mem_map.1 hq;exact⟨e2 y hy,rfl⟩
  ·cases h
 ·rename_i ty t l ys;split at h
  case h_2=>cases h
  rename_i A' x hA' hx hfr;obtain⟨f1,f2⟩:=jY hfr;have fin:(∀p∈pre x,p)->∃Y,avs (ys x)=Y.map .p/\aAe P f A' ty t.w (t.enc (l x)) (l x).length Y:=by
   intro hp;obtain⟨A,Y,h1,h2,h3⟩:=hc xs x hx hp;rw[h1,cB]at hA';cases hA';exact⟨Y,h2,h3⟩
  split at h
  ·rename_i hy;cases h;obtain⟨Y,h1,h2⟩:=fin hp;rw[hy]at h1;have hY:Y=[] :=by
    have:=congrArg List.length h1;simp[avs]at this;exact List.length_eq_zero_iff.1 (by omega)
   subst hY;exact⟨.inr ⟨A',ty,t.w,t.enc (l x),(l x).length,[],.inl ⟨hA',h2⟩,by show _=AV.own (bD n) 0 _;rw[f1];rfl,cW.new (ob:= .row ty t (l x)) f2 f1 rfl⟩,trivial⟩
  ·rename_i y r' hy;cases h;obtain⟨Y,h1,h2⟩:=fin hp;rw[hy]at h1;refine⟨.inr ⟨A',ty,t.w,t.enc (l x),(l x).length,Y,.inl ⟨hA',h2⟩,?_,cW.new (ob:= .row ty t (l x)) f2 f1 rfl⟩,trivial⟩;show aCG n (l x).length Y=nB (avs (.own n t (l x).length::y::r'));cases Y with
   |nil=>simp[avs]at h1
   |cons y0 Y=>
    rw[avs,h1];unfold aCG nB;rw[<-f1];rfl
 ·rename_i ty t l;split at h
  case h_2=>cases h
  rename_i rest;split at h<;>cases h;rename_i A' x hA' hx hfr;obtain⟨f1,f2⟩:=jY hfr;obtain⟨A,h1,h2⟩:=hc _ x hx hp;have hA2:A'=A:=by
   have h1:AV.nil::avs rest= .nil::A.map .p:=h1;rw[List.cons.injEq]at h1;rw[h1.2,cB]at hA';cases hA';rfl
  subst hA2;exact⟨.inr ⟨A',ty,t.w,t.enc (l x),(l x).length,[],.inr ⟨avs rest,rfl,hA',h2⟩,by show _=AV.own (bD n) 0 _;rw[f1];rfl,cW.new (ob:= .row ty t (l x)) f2 f1 rfl⟩,trivial⟩
 ·rename_i t ty l';split at h
  case h_2=>cases h
  rename_i s t2 m rest;split at h
  case h_2=>cases h
  rename_i ty' t' l A' hs hA';split at h
  case h_2=>cases h
  rename_i he _ hty;subst he;split at h<;>cases h;rename_i x hx;have hm:m=l.length:=hp _ (by simp)
  obtain⟨A,h1,h2⟩:=hc l rest x hx (fun p h=>hp p (List.mem_cons_of_mem _ h))
  have hty:=Nat.eq_of_beq_eq_true hty;refine⟨.inl (.inr ?_),trivial⟩;refine⟨ty,t'.w,t'.enc l,by rw[Sg.cL,hs,hty];rfl,Nat.ne_of_gt t'.oC,A,t'.enc (l' x),by rw[h1,cB],by rw[hm];exact h2,rfl,?_⟩
  exact cW.flat (rd:=[s]) (W:=[(s,some (.row ty t' (l' x)))]) fun q hq=>by rw[List.mem_singleton.1 hq,hs];exact⟨rfl,rfl⟩
 ·rename_i ty cells';split at h
  case h_2=>cases h
  rename_i s rest;split at h
  case h_2=>cases h
  rename_i ty' cs A' hs hA';split at h<;>cases h;rename_i x hty hx;obtain⟨A,q,q',h1,h2,h3,h4⟩:=hc cs rest x hx hp;have hty:=Nat.eq_of_beq_eq_true hty;refine⟨.inl (.inr ?_),trivial⟩;refine⟨ty,q,by rw[Sg.cL,hs,hty];show some (⟨ty,0,avs cs⟩:Ob)=_;rw[h2],A,q',by rw[h1,cB],h4,rfl,?_⟩
  rw[<-h3];exact cW.flat (rd:=[s]) (W:=[(s,some (.box ty (cells' x)))]) fun q hq=>by rw[List.mem_singleton.1 hq,hs];exact⟨rfl,rfl⟩
 ·cases h
 ·cases h
def Kr(P:Program)(T:Tab)(n:Nat)(σ:Sg)(fv:SV)(xs:List SV):SR:=match fv with
 | .fn g a b=>Un T n σ g (a++xs++b)
 | .fnp g a b=>(match cR (avs a),cR (avs b)with|some _,some _=>Un T n σ g (a++xs++b)|_,_=>none)
 | .clo1 pv t q dom=>(match xs with
   |[v] =>(match aAc t v with|some x=>some ([dom x/\aG5 P pv t q dom],.bool (q x),[],[])|none=>none)
   |_=>none)
 | .clo2 pv t q dom=>(match xs with
   |[v,u] =>(match aAc t v,aAc t u with|some x,some y=>some ([dom x y/\aG4 P pv t q dom],.int .i64 (q x y),[],[])|_,_=>none)
   |_=>none)
 |_=>none
theorem Sm{P:Program}{T:Tab}(hT:T.Ok P){n:Nat}{σ:Sg}{fv:SV}{xs:List SV}{ps:List Prop}{r:SV}{rd:List Nat}{W:bM}(h:Kr P T n σ fv xs=some (ps,r,rd,W))(hp:∀p∈ps,p):
  (Uz P σ.a fv.av (avs xs) (fun r' R' W'=>r'=r.av/\cW σ rd W R' W')\/Uy P n fv.av (avs xs) (fun r' R' W'=>r'=r.av/\cW σ rd W R' W'))/\r.ok:=by
 unfold Kr at h;split at h
 ·rename_i g a b;have:=Np hT h hp;rw[kJ,kJ]at this;exact this
 ·rename_i g a b;split at h
  case h_2=>cases h
  rename_i x y h1 h2;have:=Np hT h hp;rw[kJ,kJ,eW h1,eW h2]at this;have e:(SV.fnp g a b).av= .p (.fn (.func g) x y):=by simp only[SV.av,h1,h2]
  rw[e];exact this
 ·rename_i pv t q dom;split at h
  case h_2=>cases h
  rename_i v;split at h<;>cases h;rename_i x hx;obtain⟨h1,f,first,caps,rfl,h2⟩:=hp _ (List.mem_singleton.2 rfl)
  obtain⟨fr,h3⟩:=h2 x h1;refine⟨.inl ?_,trivial⟩;show qU P σ.a f (first.map .p++[v.av] ++caps.map .p) _;have e:first.map AV.p++[v.av] ++caps.map AV.p=(first++[t.argP x] ++caps).map .p:=by
   rw[Ll hx,List.map_append,List.map_append];rfl
  rw[e];exact tZ h3 (cB _) ⟨rfl,cW.read σ []⟩
 ·rename_i pv t q dom;split at h
  case h_2=>cases h
  rename_i v u;split at h<;>cases h;rename_i x y hx hy;obtain⟨h1,f,first,caps,rfl,h2⟩:=hp _ (List.mem_singleton.2 rfl)
  obtain⟨fr,h3⟩:=h2 x y h1;refine⟨.inl ?_,trivial⟩;show qU P σ.a f (first.map .p++[v.av,u.av] ++caps.map .p) _;have e:first.map AV.p++[v.av,u.av] ++caps.map AV.p=(first++[t.argP x,t.argP y] ++caps).map .p:=by
   rw[Ll hx,Ll hy,List.map_append,List.map_append];rfl
  rw[e];exact tZ h3 (cB _) ⟨rfl,cW.read σ []⟩
 ·cases h
structure Cx where
 P:Program
 T:Tab
 lt:TypeId->Option LT
 q:EqT
 mt:TypeId->Bool
 inl:Nat->Bool
def aKO(P:Program)(t:TypeId):Prop:=∃k e,P.underlying t=some (.map k e)/\MKey P k 2/\∀w,(zeroValue e).run P w= .ok (.bool false) w
def Cx.Ok(X:Cx):Prop:=X.T.Ok X.P/\X.q.Ok X.P/\∀t,X.mt t=true->aKO X.P t
def Mo:Option SV->SR
 |some r=>(match r.ape with|false=>some ([],r,[],[])|true=>none)
 |none=>none
theorem nY{o:Option SV}{ps:List Prop}{r:SV}{rd:List Nat}{W:bM}(h:Mo o=some (ps,r,rd,W)):o=some r/\r.ok/\ps=[]/\rd=[]/\W=[] :=by
 unfold Mo at h;split at h
 ·split at h<;>cases h;rename_i hh;exact⟨rfl,SV.sP hh,rfl,rfl,rfl⟩
 ·cases h
def Hl:Option (List Prop×SV)->SR
 |some (ps,r)=>(match r.ape with|false=>some (ps,r,[],[])|true=>none)
 |none=>none
theorem rI{o:Option (List Prop×SV)}{ps:List Prop}{r:SV}{rd:List Nat}{W:bM}(h:Hl o=some (ps,r,rd,W)):o=some (ps,r)/\r.ok/\rd=[]/\W=[] :=by
 unfold Hl at h;split at h
 ·split at h<;>cases h;rename_i hh;exact⟨rfl,SV.sP hh,rfl,rfl⟩
 ·cases h
def Hk:SR->SR
 |some (ps,r,rd,W)=>(match r.ape with|false=>some (ps,r,rd,W)|true=>none)
 |none=>none
theorem wW{o:SR}{ps:List Prop}{r:SV}{rd:List Nat}{W:bM}(h:Hk o=some (ps,r,rd,W)):o=some (ps,r,rd,W)/\r.ok:=by
 unfold Hk at h;split at h
 ·split at h<;>cases h;rename_i hh;exact⟨rfl,SV.sP hh⟩
 ·cases h
def aJa(raw:Bool)(x:SV):SV:=match raw with
 |true=>(match x with| .nil=> .sl 0 [] |y=>y)
 |false=>x
def sop(X:Cx)(raw:Bool)(n:Nat)(o:Op)(E:SE)(σ:Sg):SR:=match o with
 | .move x=>some ([],E x,[],[])
 | .assign x=>some ([],aJa raw (E x),[],[])
 | .pick c a b=>Mo (aAo (E c) (E a) (E b))
 | .alloc t=>Jt X.P σ n t
 | .box t x=>aCD σ n t (E x)
 | .build t parts=>Js X.P t (parts.toList.map fun q=>(q.1,E q.2))
 | .buildSlice t len parts=>Cb X.P σ n t len (parts.toList.map fun q=>(q.1,E q.2))
 | .load t x=>Hk (aAs X.P t (E x) σ)
 | .store t a x=>Jr X.P t (E a) (E x) σ
 | .nilCheck x=>(match aCK (E x).av with|true=>some ([],E x,[],[])|false=>none)
 | .binOp op t x y _=>Hl (aF0 X.P X.q raw op t (E x) (E y))
 | .unOp op _ x=>Hl (sun raw op (E x))
 | .convert s d x=>Hl (aAv X.P raw s d (E x))
 | .makeFunc (.func f) first caps=>some ([],.fn f (first.toList.map E) (caps.toList.map E),[],[])
 | .slice t x lo hi none=>(match aCP E lo,aCP E hi with|some a,some b=>Hl (Rg X.P t (E x) a b)|_,_=>none)
 | .fieldAddr t x f=>(match Rk X.P t (E x) f with|some r=>some ([],r,[],[])|none=>none)
 | .field t x f=>Mo (Rj X.P t (E x) f)
 | .indexAddr t x i=>(match Ri X.P t (E x) (E i)with|some (ps,r)=>some (ps,r,[],[])|none=>none)
 | .extract x i=>Mo (aAt (E x) i)
 | .call {callee:= .value f,args, .. }=>Kr X.P X.T n σ (E f) (args.toList.map E)
 | .call {callee:= .builtin .len,args:=⟨[x]⟩,argTypes:=⟨[t]⟩}=>Mo (aFZ X.P t (E x))
 | .call {callee:= .builtin .append,args:=⟨[x,y]⟩,argTypes:=⟨[t,t']⟩}=>aCE X.P X.lt n t t' σ (E x) (E y)
 | .call {callee:= .builtin .min,args:=⟨[x,y]⟩, .. }=>Mo (smm min (E x) (E y))
 | .call {callee:= .builtin .max,args:=⟨[x,y]⟩, .. }=>Mo (smm max (E x) (E y))
 | .makeSlice t a b=>Hk (aAq X.P X.lt σ n t (E a) (E b))
 |_=>none
theorem aGw{X:Cx}(hX:X.Ok){raw:Bool}{n:Nat}{o:Oper}{E:SE}{σ:Sg}(hE:∀x,(E x).ok){ps:List Prop}{r:SV}{rd:List Nat}{W:bM}(h:sop X raw n o.op E σ=some (ps,r,rd,W))(hp:∀p∈ps,p):
  AOp X.P n o E.a σ.a (fun r' R' W'=>r'=r.av/\cW σ rd W R' W')/\r.ok:=by
 obtain⟨hT,hq,_⟩:=hX;generalize ho:o.op=op at h;have A:∀{R:SR},Aq X.P n o E σ R->R=some (ps,r,rd,W)->AOp X.P n o E.a σ.a (fun r' R' W'=>r'=r.av/\cW σ rd W R' W'):=fun hs e=>hs _ _ _ _ e hp
 have avl:∀l:List Operand,avs (l.map E)=l.map E.a:=fun l=>by rw[fL,List.map_map];rfl
 unfold sop at h;split at h
 ·rename_i x;cases h;exact⟨by unfold AOp;rw[ho];exact⟨rfl,cW.read σ []⟩,hE x⟩
 ·rename_i x;cases h;unfold aJa;split
  ·split
   ·rename_i hx;exact⟨by unfold AOp;rw[ho];exact .inr ⟨by show(E x).av= .nil;rw[hx];rfl,rfl,cW.read σ []⟩,trivial⟩
   ·exact⟨by unfold AOp;rw[ho];exact .inl ⟨rfl,cW.read σ []⟩,hE x⟩
  ·exact⟨by unfold AOp;rw[ho];exact .inl ⟨rfl,cW.read σ []⟩,hE x⟩
 ·obtain⟨h1,h2,rfl,rfl,rfl⟩:=nY h;exact⟨by unfold AOp;rw[ho];exact aBu h1 ⟨rfl,cW.read σ []⟩,h2⟩
 ·refine⟨A (Xy ho) h,?_⟩;unfold Jt at h;split at h<;>cases h;trivial
 ·refine⟨A (aC6 ho) h,?_⟩;unfold aCD at h;split at h<;>cases h;trivial
 ·refine⟨A (Xu ho) h,?_⟩;unfold Js at h;split at h
  ·split at h<;>cases h;trivial
  ·cases h
 ·refine⟨A (Sn ho) h,?_⟩;unfold Cb at h;split at h
  ·split at h
   ·split at h<;>cases h;trivial
   ·cases h
  ·cases h
 ·rename_i t x;obtain⟨h1,h2⟩:=wW h;exact⟨A (aBA ho (hE x)) h1,h2⟩
 ·refine⟨A (Xm ho) h,?_⟩;unfold Jr at h;split at h
  ·split at h
   ·split at h
    ·split at h
     ·split at h<;>cases h;trivial
     ·split at h<;>cases h;trivial
     ·cases h
    ·split at h
     ·split at h<;>cases h;trivial
     ·cases h
    ·split at h<;>cases h;trivial
    ·cases h
   ·cases h
  ·cases h
 ·rename_i x;split at h<;>cases h;rename_i hn;exact⟨by unfold AOp;rw[ho];exact⟨hn,rfl,cW.read σ []⟩,hE x⟩
 ·obtain⟨h1,h2,rfl,rfl⟩:=rI h;exact⟨by unfold AOp;rw[ho];exact aC7 hq h1 hp ⟨rfl,cW.read σ []⟩,h2⟩
 ·obtain⟨h1,h2,rfl,rfl⟩:=rI h;exact⟨by unfold AOp;rw[ho];exact aGu h1 hp ⟨rfl,cW.read σ []⟩,h2⟩
 ·obtain⟨h1,h2,rfl,rfl⟩:=rI h;exact⟨by unfold AOp;rw[ho];exact aBD h1 hp ⟨rfl,cW.read σ []⟩,h2⟩
 ·cases h;refine⟨?_,trivial⟩;unfold AOp;rw[ho];dsimp only;refine⟨?_,cW.read σ []⟩;show _=AV.fn _ (avs _) (avs _);rw[avl,avl]
 ·rename_i t x lo hi;split at h
  case h_2=>cases h
  rename_i a b ha hb;obtain⟨h1,h2,rfl,rfl⟩:=rI h;refine⟨?_,h2⟩;unfold AOp;rw[ho];dsimp only;have key:∀(z:Option Operand) (c:Option Int) (d:Int),aCP E z=some c->loA E.a z d=some (c.getD d):=by
   intro z c d hz;cases z with
   |none=>cases hz;rfl
   |some z=>
    unfold aCP at hz;dsimp only at hz;split at hz<;>cases hz;rename_i k hk;exact aDv hk
  rw[key lo a 0 ha,key hi b _ hb];exact Xn h1 hp ⟨rfl,cW.read σ []⟩
 ·rename_i t x f;split at h<;>cases h;rename_i h1;have:=Xt h1 (K:=fun r'=>r'=r.av/\cW σ [] [] [] []) ⟨rfl,cW.read σ []⟩
  exact⟨by unfold AOp;rw[ho];exact this.1,this.2 (hE x)⟩
 ·obtain⟨h1,h2,rfl,rfl,rfl⟩:=nY h;exact⟨by unfold AOp;rw[ho];exact Xs h1 ⟨rfl,cW.read σ []⟩,h2⟩
 ·split at h<;>cases h;rename_i h1;have:=Xr h1 hp (K:=fun r'=>r'=r.av/\cW σ [] [] [] []) ⟨rfl,cW.read σ []⟩
  exact⟨by unfold AOp;rw[ho];exact this.1,this.2⟩
 ·obtain⟨h1,h2,rfl,rfl,rfl⟩:=nY h;exact⟨by unfold AOp;rw[ho];exact aBB h1 ⟨rfl,cW.read σ []⟩,h2⟩
 ·have:=Sm hT h hp;rw[avl]at this;exact⟨by unfold AOp;rw[ho];exact this.1,this.2⟩
 ·obtain⟨h1,h2,rfl,rfl,rfl⟩:=nY h;exact⟨by unfold AOp;rw[ho];exact aC3 h1 ⟨rfl,cW.read σ []⟩,h2⟩
 ·have:=aC8 h hp;refine⟨by unfold AOp;rw[ho];exact this,?_⟩
  unfold aCE at h;split at h
  ·unfold Uo at h;split at h
   ·split at h<;>cases h;trivial
   ·cases h
  ·unfold Up at h;split at h
   ·split at h
    ·split at h<;>cases h;trivial
    ·cases h
   ·cases h
 ·obtain⟨h1,h2,rfl,rfl,rfl⟩:=nY h;exact⟨by unfold AOp;rw[ho];exact aAW h1 ⟨rfl,cW.read σ []⟩,h2⟩
 ·obtain⟨h1,h2,rfl,rfl,rfl⟩:=nY h;exact⟨by unfold AOp;rw[ho];exact aAW h1 ⟨rfl,cW.read σ []⟩,h2⟩
 ·obtain⟨h1,h2⟩:=wW h;exact⟨A (aBy ho) h1,h2⟩
 ·cases h
end
end Go.Proofs.YtdaeofhdgabhjaaGreat
namespace Go.Proofs.YtdaeofhdgabhjaaGreat
open Go.RowKit
variable {P:Program} {o:Oper} {E:Operand->AV} {σ:Nat->Option Ob} {n:Nat}
theorem Zp{c:Call}{f:Operand}{fid:FuncId}{A cells:List PV}{m ty esz:Nat}(ho:o.op= .call c)(hc:c.callee= .value f)(hfv:E f= .p (.fn (.func fid) [] []))
  (hA:iC (fW 3 σ) (c.args.toList.map E)=some A) (hfl:cells.all flat1=true) (hS:aAe P fid A ty esz cells m []):bX P o E σ n (.own (sit n 0) 0 m) (bT (eO 3 σ) (c.args.toList.map E)) [(sit n 0,some ⟨ty,esz,cells.map .p⟩)] :=by
 have hfm:f∈o.op.operands.toList:=by rw[ho];simp[Op.operands,Call.operands,hc]
 have ham:∀x∈c.args.toList,x∈o.op.operands.toList:=by intro x hx;rw[ho];simp[Op.operands,Call.operands];exact .inr (by simpa using hx)
 obtain⟨hok,he,hcalls⟩:=hS;intro C0 ρ g V w B hs hB hR hn hgn hE;have hn:=hn _ (eA n 0);have hgn:=hgn _ (eA n 0);have hcl:∀s,cls s≠n->s≠sit n 0:=fun s h e=>h (by rw[e];exact eA n 0)
 have hargs:∀l:List Operand,(∀x∈l,x∈o.op.operands.toList)->aW ρ (aP C0 B w ρ g) (l.map E) (l.map (bI V)):=by
  intro l;induction l with
  |nil=>intro _;simp only[List.map_nil];unfold aW;rfl
  |cons x l ih=>
   intro hx;simp only[List.map_cons];unfold aW;exact⟨_,_,rfl,hE x (hx x List.mem_cons_self),ih fun y hy=>hx y (List.mem_cons_of_mem _ hy)⟩
 have hall:=hargs _ ham;have hsnap:bZ (fun b o v=>w.cell? ⟨b,o,none⟩=some v) A (c.args.toList.map (bI V)):=by
  obtain⟨g1,g2⟩:=jT hA;refine bZ.of _ _ (by rw[<-g1];exact hall.length) fun i y hi=> ?_
  have hlt:i<(c.args.toList.map E).length:=by rw[g1];exact(List.getElem?_eq_some_iff.1 hi).1
  obtain⟨y',h5,h6⟩:=g2 i _ (List.getElem?_eq_getElem hlt);rw[hi]at h5;cases h5;obtain⟨v,k1,k2⟩:=hall.get _ _ i _ (List.getElem?_eq_getElem hlt);exact⟨v,k1,Dn hs _ (fun _=>True) (fun b o v h=>h.1) (fun s ob b c _ _ _ _ o v h=>h) 3 _ _ v h6 (fun s hs'=>⟨trivial,hR s (iH (List.getElem_mem hlt) hs')⟩) k2⟩
 have hvf:bI V f= .func (.func fid) #[] #[] :=by
  have:=hE f hfm;rw[hfv]at this;unfold aO aZ at this;obtain⟨v1,v2,h1,h2,h3⟩:=this;unfold bZ at h2 h3;rw[h1,h2,h3]
 have hrun:(execOp (bI V) o).run P w= .ok (.enter fid (c.args.toList.map (bI V)).toArray) w:=by
  unfold execOp;rw[ho];have e2: #[] ++Array.map (bI V) c.args++ #[] =(c.args.toList.map (bI V)).toArray:=by
   apply Array.toList_inj.1;simp
  simp only[resolve,hc,hvf,Deferred.ofValue,Sem.run_bind,Sem.run_pure,Result.andThen_ok,invoke,eB hok,e2]
 have hlive:∀s ob b c,g s=some ob->ρ s=some (some b,c)->b<w.heap.size:=by
  intro s ob b c e1 e2;obtain⟨_,arr,e3⟩:=hs.at e1 e2;exact e3.lt
 unfold cF;rw[hrun];dsimp only;refine(hcalls _ w _ (fun b o v h=>h) hsnap).mono ?_
 rintro e w' ⟨v,us,q,c,rfl,hbel,hys,hrow⟩;have hus:us=[] :=by have:=hys.length;simpa using this
 subst hus;have hqb:∀b,q=some b->w.heap.size<=b:=by
  intro b hb;rcases hrow with⟨h1,_⟩|⟨b',arr,h1,_,_,h4,_⟩
  ·rw[h1]at hb;cases hb
  ·rw[h1]at hb;cases hb;exact h4
 have hold:∀b,b<w.heap.size->w'.heap[b]? =w.heap[b]? :=fun b hb=>hbel.block b hb
 generalize hnS:sit n 0=nS at*
 let ρ':Ren:=fun s=>if s=nS then some (q,c)else ρ s
 have hρn:ρ' nS=some (q,c):=if_pos rfl;have hρs:∀s,s≠nS->ρ' s=ρ s:=fun s h=>if_neg h
 have hup:∀s,s≠nS->cG g [(nS,some ⟨ty,esz,cells.map .p⟩)] s=g s:=by
  intro s h;unfold cG;simp[List.lookup,beq_eq_false_iff_ne.2 h]
 have hmono:∀b o' x,aP C0 B w ρ g b o' x->aP C0 B w' ρ' (cG g [(nS,some ⟨ty,esz,cells.map .p⟩)]) b o' x:=by
  intro b o' x ⟨e1,e2,e0⟩;have hlt:=World.block_lt_of_cell? w ⟨b,o',none⟩ e1;refine⟨(World.cell?_of_block (hold b hlt)).trans e1,fun s c' e3=> ?_,e0⟩
  by_cases hsn:s=nS
  ·subst hsn;rw[hρn]at e3;cases e3;have:=hqb b rfl;have hlt:b<w.heap.size:=hlt;omega
  ·rw[hup s hsn];rw[hρs s hsn]at e3;exact e2 s c' e3
 refine⟨_,rfl,ρ',fun s hs=>hρs s (hcl s hs),hmono,?_,?_,hbel.mono hB⟩
 ·refine hs.step (fun s o' _ hgs=>hρs s (fun h=>by subst h;rw[hgn]at hgs;cases hgs)) (fun s q' hq=>by rw[hρs s (fun e=>by subst e;rw[hn]at hq;cases hq)];exact hq) hmono ?_ ?_ fun k es clock hk=>hold k (kD hk)
  ·intro s ob b c' _ e2 e3;exact hold b (hlive s ob b c' e2 e3)
  ·intro s o' hso;have hsn:s=nS:=by
    rcases Nat.decEq s nS with h|h
    ·simp[List.lookup,beq_eq_false_iff_ne.2 h]at hso
    ·exact h
   subst hsn;simp[List.lookup]at hso;subst hso;refine⟨q,c,hρn,?_⟩;rcases hrow with⟨h1,h2,h3,h4,h5⟩|⟨b,arr,h1,h2,h3,h4,h5,h6,h7,h8,h9⟩
   ·exact .inl ⟨h1,he,by rw[h4];rfl,h5⟩
   ·refine .inr ⟨b,arr,h1,Nat.le_trans hB h4,⟨h5,fun h=>absurd h he,fun _=>⟨h6,by simpa using h7,h8⟩,fun i x hi=> ?_⟩,fun s' o2 c' hne hg' hr'=> ?_⟩
    ·have hi:(cells.map AV.p)[i]? =some x:=hi;rw[List.getElem?_map]at hi;cases hci:cells[i]? with
     |none=>rw[hci]at hi;cases hi
     |some y=>
      rw[hci]at hi;simp only[Option.map_some,Option.some.injEq]at hi;subst hi;obtain⟨u,k1,k2,k3⟩:=h9 i y hci;exact⟨u,k1,k2,by unfold aO;exact Ab (List.all_eq_true.1 hfl y (List.mem_of_getElem? hci)) k3⟩
    ·rw[hup s' hne]at hg';rw[hρs s' hne]at hr';have:=hlive s' o2 b c' hg' hr';omega
 ·unfold aO;refine⟨q,c,hρn,?_⟩;rcases hrow with⟨h1,h2,h3,_⟩|⟨b,arr,h1,h2,h3,_⟩
  ·exact .inl ⟨h1,h2,h3,rfl⟩
  ·exact .inr ⟨b,0,c,h1,h2,h3,fun _=>rfl,fun _=>⟨rfl,rfl⟩⟩
end Go.Proofs.YtdaeofhdgabhjaaGreat
