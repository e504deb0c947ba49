/- What the statements about triangulations stand on: contracts of functions, plain laws. Part 2 of 5, no condition of its own. (N22 N23 E1 E3 G1 G2 G3 G4 G5 G6 G7 G8 G9 N16 X1 X2 X3 X4 N24) -/
import Derived.Test.YtdaeofhdgabhjaaGreatCM1
import Derived.MapKept
import Derived.IntWalk
namespace Go.Proofs.YtdaeofhdgabhjaaGreat
open Go.RowKit
def agI(xs:List Int):Value:= .agg (xs.map (Value.int .i64)).toArray
structure MKey(P:Program)(k:TypeId)(m:Nat):Prop where
 check:∀(w:World) (em:Bool) (xs:List Int),xs.length=m->(Instr.checkKey em 10000 k (agI xs)).run P w= .ok () w
 eq:∀(w:World) (xs ys:List Int),xs.length=m->ys.length=m->(Op.equal k (agI xs) (agI ys)).run P w= .ok (xs==ys) w
 now:∃d,P.underlying k=some d/\∀a b:Array Value,Instr.sameNow d (.agg a) (.agg b)=none
variable {P:Program}
def jD(es:List MapEntry)(ks:List (List Int×Value)):Prop:=es.map (fun e=>(e.key,e.val))=ks.map fun q=>(agI q.1,q.2)
theorem Mm{k:TypeId}{m:Nat}(K:MKey P k m)(w:World)(xs:List Int)(hx:xs.length=m):∀(es:List MapEntry) (ks:List (List Int×Value)) (i:Nat),jD es ks->(∀q∈ks,q.1.length=m)->
  ((Instr.findAsking k (agI xs) es i).run P w= .ok none w/\∀q∈ks,q.1≠xs)\/∃j v,(Instr.findAsking k (agI xs) es i).run P w= .ok (some (i+j,v)) w/\ks[j]? =some (xs,v)
 |[],ks,i,h,_=>by
  unfold jD at h;have:ks=[] :=by simpa using h.symm
  subst this;exact .inl ⟨rfl,fun q hq=>by cases hq⟩
 |e::es,ks,i,h,hl=>by
  cases ks with
  |nil=>unfold jD at h;simp at h
  |cons q ks=>
   unfold jD at h;simp only[List.map_cons,List.cons.injEq,Prod.mk.injEq]at h;obtain⟨⟨h1,h2⟩,h3⟩:=h;unfold Instr.findAsking;simp only[Sem.run_bind,h1,K.eq w xs q.1 hx (hl q List.mem_cons_self),Result.andThen_ok];by_cases hq:xs=q.1
   ·right;refine⟨0,q.2,?_,by rw[hq];rfl⟩
    rw[if_pos (by rw[hq];exact beq_self_eq_true _),h2];rfl
   ·rw[if_neg (by simpa using hq)]
    rcases Mm K w xs hx es ks (i+1) h3 (fun q hq=>hl q (List.mem_cons_of_mem _ hq))with⟨h4,h5⟩|⟨j,v,h4,h5⟩
    ·exact .inl ⟨h4,fun q' hq'=>by rcases List.mem_cons.1 hq' with rfl|hq';exact fun e=>hq e.symm;exact h5 q' hq'⟩
    ·exact .inr ⟨j+1,v,by rw[h4,show i+1+j=i+(j+1) by omega],h5⟩
theorem Ml{k:TypeId}{m:Nat}(K:MKey P k m)(w:World)(xs:List Int)(hx:xs.length=m)(es:List MapEntry)(ks:List (List Int×Value))(h:jD es ks)(hl:∀q∈ks,q.1.length=m):
  ((Instr.findKey k (agI xs) es).run P w= .ok none w/\∀q∈ks,q.1≠xs)\/∃j v,(Instr.findKey k (agI xs) es).run P w= .ok (some (j,v)) w/\ks[j]? =some (xs,v):=by
 obtain⟨d,hd,hn⟩:=K.now;unfold Instr.findKey;simp only[Sem.run_bind,run_underlying hd,Result.andThen_ok];cases es with
 |nil=>
  left;unfold jD at h;have:ks=[] :=by simpa using h.symm
  subst this;exact⟨rfl,fun q hq=>by cases hq⟩
 |cons e es=>
  have h1:Instr.findNow d (agI xs) (e::es) 0=none:=by
   unfold Instr.findNow;cases ks with
   |nil=>unfold jD at h;simp at h
   |cons q ks=>
    unfold jD at h;simp only[List.map_cons,List.cons.injEq,Prod.mk.injEq]at h;rw[h.1.1];unfold agI;rw[hn]
  rw[h1];simpa using Mm K w xs hx (e::es) ks 0 h hl
theorem Ep(xs:List Int):Instr.sameBits 10000 (agI xs) (agI xs)=true:=by
 unfold agI Instr.sameBits;simp only[beq_self_eq_true,Bool.true_and,List.all_eq_true];rintro⟨x,y⟩ h;obtain⟨i,hi,e⟩:=List.getElem_of_mem h;simp only[List.getElem_zip,Prod.mk.injEq]at e;simp only[List.getElem_map]at e;obtain⟨rfl,rfl⟩:=e;simp[Instr.sameBits]
theorem Wl(xs:List Int)(w:World):(Instr.keyThatStays (agI xs) (agI xs)).run P w= .ok (agI xs) w:=by
 unfold Instr.keyThatStays;rw[if_pos (Ep xs)];rfl
def kD(ks:List (List Int×AV)):List AV:=ks.flatMap fun q=>[.p (.agg (qN q.1)),q.2]
theorem Mf{C:bI}:∀{xs:List Int} {vs:List Value},bO C (qN xs) vs->vs=xs.map (Value.int .i64)
 |[],vs,h=>by unfold qN bO at h;exact h
 |x::xs,vs,h=>by
  unfold qN at h;simp only[List.map_cons]at h;unfold bO at h;obtain⟨v,r,rfl,h1,h2⟩:=h;unfold aU at h1;rw[h1,Mf (xs:=xs) h2];rfl
theorem Iu{ρ:Ren}{C:bI}{xs:List Int}{v:Value}(h:aE ρ C (.p (.agg (qN xs))) v):v=agI xs:=by
 unfold aE aU at h;obtain⟨vs,rfl,h1,_⟩:=h;rw[Mf h1];rfl
theorem aA3{ρ:Ren}{C:bI}(xs:List Int):aE ρ C (.p (.agg (qN xs))) (agI xs):=by
 unfold aE aU;refine⟨_,rfl,?_,fun u hu=> ?_⟩
 ·induction xs with
  |nil=>unfold qN bO;rfl
  |cons x xs ih=>unfold qN;simp only[List.map_cons];unfold bO;exact⟨_,_,rfl,by unfold aU;rfl,ih⟩
 ·obtain⟨x,_,rfl⟩:=List.mem_map.1 hu;rfl
theorem Cc{ρ:Ren}{C:bI}:∀{ks:List (List Int×AV)} {es:List MapEntry},aP ρ C (kD ks) (es.flatMap fun e=>[e.key,e.val])->
  ∃kv:List (List Int×Value),jD es kv/\kv.length=ks.length/\∀(j:Nat) q,ks[j]? =some q->∃v,kv[j]? =some (q.1,v)/\aE ρ C q.2 v
 |[],es,h=>by
  unfold kD at h;simp only[List.flatMap_nil]at h;unfold aP at h;cases es with
  |nil=>exact⟨[],rfl,rfl,fun j q hq=>by simp at hq⟩
  |cons e es=>simp at h
 |q::ks,es,h=>by
  unfold kD at h;simp only[List.flatMap_cons,List.cons_append,List.nil_append]at h;cases es with
  |nil=>simp only[List.flatMap_nil]at h;unfold aP at h;obtain⟨v,r,h1,_⟩:=h;cases h1
  |cons e es=>
   simp only[List.flatMap_cons,List.cons_append,List.nil_append]at h;unfold aP at h;obtain⟨v,r,h1,h2,h3⟩:=h;cases h1;unfold aP at h3;obtain⟨v,r,h1,h4,h5⟩:=h3;cases h1;obtain⟨kv,g1,g2,g3⟩:=Cc (ks:=ks) (es:=es) h5;refine⟨(q.1,e.val)::kv,?_,by simp[g2],?_⟩
   ·unfold jD at*;simp only[List.map_cons,g1,Iu h2]
   ·intro j q' hj;cases j with
    |zero=>simp at hj;subst hj;exact⟨e.val,rfl,h4⟩
    |succ j=>exact g3 j q' (by simpa using hj)
theorem Tx{ρ:Ren}{C:bI}:∀{ks:List (List Int×AV)} {es:List MapEntry} {kv:List (List Int×Value)},jD es kv->kv.length=ks.length->(∀(j:Nat) q,ks[j]? =some q->∃v,kv[j]? =some (q.1,v)/\aE ρ C q.2 v)->
  aP ρ C (kD ks) (es.flatMap fun e=>[e.key,e.val])
 |[],es,kv,h,hl,_=>by
  have:kv=[] :=List.length_eq_zero_iff.1 hl;subst this;unfold jD at h;have:es=[] :=by simpa using h
  subst this;unfold kD;simp only[List.flatMap_nil];unfold aP;rfl
 |q::ks,es,kv,h,hl,hk=>by
  cases kv with
  |nil=>simp at hl
  |cons p kv=>
   cases es with
   |nil=>unfold jD at h;simp at h
   |cons e es=>
    unfold jD at h;simp only[List.map_cons,List.cons.injEq,Prod.mk.injEq]at h;obtain⟨⟨h1,h2⟩,h3⟩:=h;obtain⟨v,h4,h5⟩:=hk 0 q rfl;simp at h4;subst h4;unfold kD;simp only[List.flatMap_cons,List.cons_append,List.nil_append];unfold aP;refine⟨_,_,rfl,by rw[h1];exact aA3 q.1,?_⟩
    unfold aP;exact⟨_,_,rfl,by rw[h2];exact h5,Tx (ks:=ks) (kv:=kv) h3 (by simpa using hl) fun j q' hj=>by simpa using hk (j+1) q' (by simpa using hj)⟩
def tZ:List (List Int×AV)->List Int->AV->AV
 |[],_,z=>z
 |q::ks,xs,z=>if q.1=xs then q.2 else tZ ks xs z
def tT:List (List Int×AV)->List Int->AV->List (List Int×AV)
 |[],xs,v=>[(xs,v)]
 |q::ks,xs,v=>if q.1=xs then(xs,v)::ks else q::tT ks xs v
def Km(ks:List (List Int×AV)):Prop:=ks.Pairwise fun p q=>p.1≠q.1
theorem Gg:∀{ks:List (List Int×AV)} {xs:List Int} {z:AV},(∀q∈ks,q.1≠xs)->tZ ks xs z=z
 |[],_,_,_=>rfl
 |q::ks,xs,z,h=>by unfold tZ;rw[if_neg (h q List.mem_cons_self)];exact Gg fun q hq=>h q (List.mem_cons_of_mem _ hq)
theorem Bz:∀{ks:List (List Int×AV)} {xs:List Int} {v:AV},(∀q∈ks,q.1≠xs)->tT ks xs v=ks++[(xs,v)]
 |[],_,_,_=>rfl
 |q::ks,xs,z,h=>by unfold tT;rw[if_neg (h q List.mem_cons_self),Bz fun q hq=>h q (List.mem_cons_of_mem _ hq)];rfl
theorem Me:∀{ks:List (List Int×AV)} {xs:List Int} {v z:AV} {j:Nat},Km ks->ks[j]? =some (xs,v)->tZ ks xs z=v
 |[],_,_,_,_,_,h=>by simp at h
 |q::ks,xs,v,z,0,_,h=>by simp at h;subst h;unfold tZ;rw[if_pos rfl]
 |q::ks,xs,v,z,j+1,hd,h=>by
  have h:ks[j]? =some (xs,v):=by simpa using h
  unfold Km at hd;rw[List.pairwise_cons]at hd;unfold tZ;rw[if_neg (hd.1 _ (List.mem_of_getElem? h))];exact Me hd.2 h
theorem Tl:∀{ks:List (List Int×AV)} {xs:List Int} {u v:AV} {j:Nat},Km ks->ks[j]? =some (xs,u)->tT ks xs v=ks.set j (xs,v)
 |[],_,_,_,_,_,h=>by simp at h
 |q::ks,xs,u,v,0,_,h=>by simp at h;subst h;unfold tT;rw[if_pos rfl];rfl
 |q::ks,xs,u,v,j+1,hd,h=>by
  have h:ks[j]? =some (xs,u):=by simpa using h
  unfold Km at hd;rw[List.pairwise_cons]at hd;unfold tT;rw[if_neg (hd.1 _ (List.mem_of_getElem? h)),Tl hd.2 h];rfl
variable {o:Oper} {E:Operand->AV} {σ:Nat->Option Ob} {n:Nat}
theorem Nt{t:TypeId}(ho:o.op= .makeMap t none):bM P o E σ n (.mp (sit n 0)) [] [(sit n 0,some ⟨1,0,[]⟩)] :=by
 intro C0 ρ g V w B hs hB _ hn hgn hE;have hn:=hn _ (dM n 0);have hgn:=hgn _ (dM n 0);have hcl:∀s,cls s≠n->s≠sit n 0:=fun s h e=>h (by rw[e];exact dM n 0)
 generalize sit n 0=m at*;have hrun:(execOp (bB V) o).run P w= .ok (.value (.map (some w.heap.size))) (w.alloc (.map #[] 0)):=by
  unfold execOp;rw[ho];rfl
 unfold bZ;rw[hrun];dsimp only;have hblk:(w.alloc (.map #[] 0)).heap[w.heap.size]? =some (.map #[] 0):=heap_alloc_new w _
 let ρ':Ren:=fun s=>if s=m then some (none,w.heap.size)else ρ s
 have hext:∀s q,ρ s=some q->ρ' s=some q:=by
  intro s q hq;show(if s=m then _ else _)=_
  rw[if_neg (fun e=>by rw[e,hn]at hq;cases hq)];exact hq
 have hold:∀b,b<w.heap.size->(w.alloc (.map #[] 0)).heap[b]? =w.heap[b]? :=fun b hb=>Below.heap_alloc w _ b hb
 have hlk:∀s,s≠m->[(m,some (⟨1,0,[]⟩:Ob))].lookup s=none:=by intro s hs;simp[List.lookup,beq_eq_false_iff_ne.2 hs]
 have hup:∀s,s≠m->cB g [(m,some ⟨1,0,[]⟩)] s=g s:=by intro s hs;unfold cB;rw[hlk s hs]
 have hmono:∀b o' x,aJ C0 B w ρ g b o' x->aJ C0 B (w.alloc (.map #[] 0)) ρ' (cB g [(m,some ⟨1,0,[]⟩)]) b o' x:=by
  intro b o' x ⟨e1,e2,e0⟩;have hb:b<w.heap.size:=World.block_lt_of_cell? w ⟨b,o',none⟩ e1;refine⟨(World.cell?_of_block (hold b hb)).trans e1,?_,e0⟩;intro s c' e3;by_cases e:s=m
  ·subst e;simp only[ρ',if_true]at e3;cases e3
  ·simp only[ρ',if_neg e]at e3;rw[hup s e];exact e2 s c' e3
 refine⟨ρ',fun s hs=>by simp only[ρ',if_neg (hcl s hs)],hmono,?_,by unfold aE;exact⟨w.heap.size,by simp[ρ'],rfl⟩,(Below.refl B w).alloc hB _⟩
 refine hs.stepG ?_ hext hmono ?_ (fun s ob c es clock _ _ _ _ _ hc=>hold c (iT hc)) ?_
 ·intro s ob' e1 e2;have:s≠m:=fun e=>by rw[e,hgn]at e2;cases e2
  simp only[ρ',if_neg this]
 ·intro s ob' b c' _ e2 e3;obtain⟨_,arr,e4⟩:=hs.at e2 e3;exact hold b e4.lt
 ·intro s ob' e;have e1:s=m:=by
   rcases Nat.decEq s m with h|h
   ·rw[hlk s h]at e;cases e
   ·exact h
  subst e1;have e2:ob'=⟨1,0,[]⟩:=by simp[List.lookup]at e;exact e.symm
  subst e2;refine⟨none,w.heap.size,by simp[ρ'],.inr (.inl ⟨rfl,rfl,.inr ⟨rfl,hB, #[],0,hblk,by show aP _ _ [] [];unfold aP;rfl⟩,?_⟩)⟩
  intro s' o' c' hne e3 e4 e5 hT;rw[hup s' hne]at e3;simp only[ρ',if_neg hne]at e5;obtain⟨q2,c3,k1,⟨_,⟨k2,_⟩|⟨_,k2⟩⟩|⟨b,arr,k2,_⟩⟩:=hs.ob s' o' e3
  ·exact k2 e4
  ·rw[e5]at k1;cases k1;rcases hT with⟨_,hT2,hT3⟩|⟨hT,_⟩
   ·rcases k2 with⟨k3,_⟩|⟨_,_,es,clock,k3,_⟩
    ·rw[hT2]at k3;cases k3
    ·have:=iT k3;omega
   ·cases hT
  ·rw[e5]at k1;cases k1;cases k2
theorem Mc{C0:bI}{B:Nat}{ρ:Ren}{g:Nat->Option Ob}{w:World}{s c:Nat}{cells:List AV}(hs:StR C0 ρ g w B)(hg:g s=some ⟨1,0,cells⟩)(hρ:ρ s=some (none,c)):
  B<=c/\∃es clock,w.heap[c]? =some (Obj.map es clock)/\aP ρ (aJ C0 B w ρ g) cells (es.toList.flatMap fun e=>[e.key,e.val]):=by
 obtain⟨q2,c3,k1,⟨_,⟨k2,_⟩|⟨_,k2⟩⟩|⟨b,arr,k2,_⟩⟩:=hs.ob s _ hg
 ·exact absurd rfl k2
 ·rw[hρ]at k1;cases k1;rcases k2 with⟨k3,_⟩|⟨_,k3,es,clock,k4,k5⟩
  ·cases k3
  ·exact⟨k3,es,clock,k4,k5⟩
 ·rw[hρ]at k1;cases k1;cases k2
theorem Qt{t k e:TypeId}{x i:Operand}{m s:Nat}{ks:List (List Int×AV)}{xs:List Int}{z:AV}{zv:Value}(ho:o.op= .lookup t x i false)(ht:P.underlying t=some (.map k e))(K:MKey P k m)(hz:∀w,(zeroValue e).run P w= .ok zv w)(hzr:∀ρ C,aE ρ C z zv)
  (hx:E x= .mp s) (hi:E i= .p (.agg (qN xs))) (hxs:xs.length=m) (hob:σ s=some ⟨1,0,kD ks⟩) (hks:∀q∈ks,q.1.length=m) (hd:Km ks):bM P o E σ n (tZ ks xs z) [s] [] :=by
 refine bM.pure fun C0 ρ g V w B hs hR hE=> ?_
 have hgs:g s=some ⟨1,0,kD ks⟩:=(hR s (by simp)).trans hob
 have hvx:=hE x (by rw[ho];simp[Op.operands])
 have hvi:=hE i (by rw[ho];simp[Op.operands])
 rw[hx]at hvx;rw[hi]at hvi;unfold aE at hvx;obtain⟨c,hρ,hvx⟩:=hvx;obtain⟨_,es,clock,hb,hrep⟩:=Mc hs hgs hρ;obtain⟨kv,g1,g2,g3⟩:=Cc hrep;have hkl:∀q∈kv,q.1.length=m:=by
  intro q hq;obtain⟨j,hj,e1⟩:=List.getElem_of_mem hq;have hj':j<ks.length:=by omega
  obtain⟨v,h1,_⟩:=g3 j ks[j] (List.getElem?_eq_getElem hj');rw[List.getElem?_eq_getElem hj,e1]at h1;cases h1;exact hks _ (List.getElem_mem hj')
 have hrun:∃v,(Instr.lookup t (.map (some c)) (agI xs) false).run P w= .ok v w/\aE ρ (aJ C0 B w ρ g) (tZ ks xs z) v:=by
  rcases Ml K w xs hxs es.toList kv g1 hkl with⟨h1,h2⟩|⟨j,v,h1,h2⟩
  ·refine⟨zv,by simp[Instr.lookup,run_underlying ht,MapKept.run_getObj_map hb,K.check w _ xs hxs,h1,hz,Result.andThen],?_⟩
   rw[Gg]
   ·exact hzr _ _
   ·intro q hq e;obtain⟨j,hj,e1⟩:=List.getElem_of_mem hq;obtain⟨v,h3,_⟩:=g3 j q (by rw[List.getElem?_eq_getElem hj,e1])
    exact h2 _ (List.mem_of_getElem? h3) e
  ·refine⟨v,by simp[Instr.lookup,run_underlying ht,MapKept.run_getObj_map hb,K.check w _ xs hxs,h1,Result.andThen],?_⟩
   have hj:j<ks.length:=by rw[<-g2];exact(List.getElem?_eq_some_iff.1 h2).1
   obtain⟨q,hq⟩:∃q,ks[j]? =some q:=⟨_,List.getElem?_eq_getElem hj⟩;obtain⟨u,h3,h4⟩:=g3 j q hq;rw[h2]at h3;simp only[Option.some.injEq,Prod.mk.injEq]at h3;obtain⟨e1,rfl⟩:=h3;rw[Me (v:=q.2) hd (by rw[hq,e1])]
   exact h4
 obtain⟨v,h1,h2⟩:=hrun;unfold bZ execOp;rw[ho];simp only[hvx,Iu hvi,Sem.run_bind,h1,Result.andThen_ok,Sem.run_pure];exact⟨trivial,h2⟩
theorem jD.get{es:List MapEntry}{kv:List (List Int×Value)}(h:jD es kv){j:Nat}{q:List Int×Value}(hq:kv[j]? =some q):∃e,es[j]? =some e/\e.key=agI q.1/\e.val=q.2:=by
 unfold jD at h;have:=congrArg (fun l=>l[j]?) h
 simp only[List.getElem?_map,hq,Option.map_some,Option.map_eq_some_iff,Prod.mk.injEq]at this;obtain⟨e,h1,h2,h3⟩:=this;exact⟨e,h1,h2,h3⟩
theorem Ev{t k e:TypeId}{x i y:Operand}{m s:Nat}{ks:List (List Int×AV)}{xs:List Int}(ho:o.op= .mapUpdate t x i y)(ht:P.underlying t=some (.map k e))(K:MKey P k m)
  (hx:E x= .mp s) (hi:E i= .p (.agg (qN xs))) (hxs:xs.length=m) (hob:σ s=some ⟨1,0,kD ks⟩) (hks:∀q∈ks,q.1.length=m) (hd:Km ks):
  bM P o E σ n .undef [s] [(s,some ⟨1,0,kD (tT ks xs (E y))⟩)] :=by
 intro C0 ρ g V w B hs hB hR hn hgn hE;have hgs:g s=some ⟨1,0,kD ks⟩:=(hR s (by simp)).trans hob
 have hvx:=hE x (by rw[ho];simp[Op.operands])
 have hvi:=hE i (by rw[ho];simp[Op.operands])
 have hvy:=hE y (by rw[ho];simp[Op.operands])
 rw[hx]at hvx;rw[hi]at hvi;unfold aE at hvx;obtain⟨c,hρ,hvx⟩:=hvx;obtain⟨hBc,es,clock,hb,hrep⟩:=Mc hs hgs hρ;obtain⟨kv,g1,g2,g3⟩:=Cc hrep;have hkl:∀q∈kv,q.1.length=m:=by
  intro q hq;obtain⟨j,hj,e1⟩:=List.getElem_of_mem hq;have hj':j<ks.length:=by omega
  obtain⟨v,h1,_⟩:=g3 j ks[j] (List.getElem?_eq_getElem hj');rw[List.getElem?_eq_getElem hj,e1]at h1;cases h1;exact hks _ (List.getElem_mem hj')
 generalize hV:bB V y=vy at*;have hrun:∃(es':Array MapEntry) (clock':Nat),(Instr.mapUpdate t (.map (some c)) (agI xs) vy).run P w= .ok () {w with heap:=w.heap.setIfInBounds c (.map es' clock')}/\
   ∃kv',jD es'.toList kv'/\kv'.length=(tT ks xs (E y)).length/\∀(ρ':Ren) (C':bI),(∀s q,ρ s=some q->ρ' s=some q)->(∀b o x,aJ C0 B w ρ g b o x->C' b o x)->∀(j:Nat) q,(tT ks xs (E y))[j]? =some q->∃v,kv'[j]? =some (q.1,v)/\aE ρ' C' q.2 v:=by
  rcases Ml K w xs hxs es.toList kv g1 hkl with⟨h1,h2⟩|⟨j,v,h1,h2⟩
  ·refine⟨es.push ⟨agI xs,vy,clock⟩,clock+1,?_,kv++[(xs,vy)],?_,?_,?_⟩
   ·simp[Instr.mapUpdate,run_underlying ht,MapKept.run_getObj_map hb,K.check w _ xs hxs,h1,MapKept.run_setObj_map _ hb,Result.andThen]
   ·unfold jD at*;simp only[Array.toList_push,List.map_append,g1,List.map_cons,List.map_nil]
   ·rw[Bz]
    ·simp[g2]
    ·intro q hq e;obtain⟨j,hj,e1⟩:=List.getElem_of_mem hq;obtain⟨v,h3,_⟩:=g3 j q (by rw[List.getElem?_eq_getElem hj,e1])
     exact h2 _ (List.mem_of_getElem? h3) e
   ·intro ρ' C' hρ' hC' j q hq;rw[Bz]at hq
    ·rcases Nat.lt_or_ge j ks.length with hj|hj
     ·rw[List.getElem?_append_left hj]at hq;obtain⟨v,h3,h4⟩:=g3 j q hq;exact⟨v,by rw[List.getElem?_append_left (by omega)];exact h3,aE.mono hρ' hC' _ _ h4⟩
     ·rw[List.getElem?_append_right hj]at hq;have hj2:j-ks.length=0:=by
       have:=(List.getElem?_eq_some_iff.1 hq).1;simp at this;omega
      rw[hj2]at hq;simp at hq;subst hq;exact⟨vy,by rw[List.getElem?_append_right (by omega),g2,hj2];rfl,aE.mono hρ' hC' _ _ hvy⟩
    ·intro q hq e;obtain⟨j,hj,e1⟩:=List.getElem_of_mem hq;obtain⟨v,h3,_⟩:=g3 j q (by rw[List.getElem?_eq_getElem hj,e1])
     exact h2 _ (List.mem_of_getElem? h3) e
  ·obtain⟨e0,h5,h6,h7⟩:=g1.get h2;have hj:j<ks.length:=by rw[<-g2];exact(List.getElem?_eq_some_iff.1 h2).1
   obtain⟨q0,hq0⟩:∃q,ks[j]? =some q:=⟨_,List.getElem?_eq_getElem hj⟩;have hq1:q0.1=xs:=by
    obtain⟨u,h3,_⟩:=g3 j q0 hq0;rw[h2]at h3;simp only[Option.some.injEq,Prod.mk.injEq]at h3;exact h3.1.symm
   have hput:tT ks xs (E y)=ks.set j (xs,E y):=Tl (u:=q0.2) hd (by rw[hq0,<-hq1])
   have hes:es[j]? =some e0:=by simpa using h5
   refine⟨es.modify j (fun e=>{e with key:=agI xs,val:=vy}),clock,?_,kv.set j (xs,vy),?_,?_,?_⟩
   ·simp[Instr.mapUpdate,run_underlying ht,MapKept.run_getObj_map hb,K.check w _ xs hxs,h1,hes,h6,Wl,MapKept.run_setObj_map _ hb,Result.andThen]
   ·unfold jD at*;rw[List.map_set,<-g1];have e1:(es.modify j (fun e=>{e with key:=agI xs,val:=vy})).toList=es.toList.set j {e0 with key:=agI xs,val:=vy}:=by
     apply List.ext_getElem?;intro i;rw[List.getElem?_set];by_cases hij:j=i
     ·subst hij;have:j<es.toList.length:=(List.getElem?_eq_some_iff.1 h5).1;rw[if_pos rfl,if_pos this];simp[hes]
     ·rw[if_neg hij];simp[hij]
    rw[e1,List.map_set]
   ·rw[hput];simp[g2]
   ·intro ρ' C' hρ' hC' i q hq;rw[hput,List.getElem?_set]at hq;split at hq
    ·rename_i e1;subst e1;have hq:some (xs,E y)=some q:=by simpa[hj]using hq
     cases hq;exact⟨vy,by rw[List.getElem?_set,if_pos rfl,if_pos (by omega)],aE.mono hρ' hC' _ _ hvy⟩
    ·rename_i hij;obtain⟨v,h3,h4⟩:=g3 i q hq;exact⟨v,by rw[List.getElem?_set,if_neg hij];exact h3,aE.mono hρ' hC' _ _ h4⟩
 obtain⟨es',clock',hr,kv',f1,f2,f3⟩:=hrun;have hclt:=iT hb;unfold bZ execOp;rw[ho];simp only[hvx,Iu hvi,hV,Sem.run_bind,hr,Result.andThen_ok,Sem.run_pure];have hold:∀b,b≠c->({w with heap:=w.heap.setIfInBounds c (.map es' clock')}:World).heap[b]? =w.heap[b]? :=by
  intro b hbc;show(w.heap.setIfInBounds c _)[b]? =_;rw[Array.getElem?_setIfInBounds,if_neg (fun e=>hbc e.symm)]
 have hnb:({w with heap:=w.heap.setIfInBounds c (.map es' clock')}:World).heap[c]? =some (Obj.map es' clock'):=by
  show(w.heap.setIfInBounds c _)[c]? =_;rw[Array.getElem?_setIfInBounds,if_pos rfl,if_pos hclt]
 have hsize:({w with heap:=w.heap.setIfInBounds c (.map es' clock')}:World).heap.size=w.heap.size:=by simp
 have hos:({w with heap:=w.heap.setIfInBounds c (.map es' clock')}:World).os=w.os/\({w with heap:=w.heap.setIfInBounds c (.map es' clock')}:World).tape=w.tape/\({w with heap:=w.heap.setIfInBounds c (.map es' clock')}:World).output=w.output:=⟨rfl,rfl,rfl⟩
 generalize ({w with heap:=w.heap.setIfInBounds c (.map es' clock')}:World)=w' at*
 have hlk:∀s',s'≠s->[(s,some (⟨1,0,kD (tT ks xs (E y))⟩:Ob))].lookup s'=none:=by intro s' hs';simp[List.lookup,beq_eq_false_iff_ne.2 hs']
 have hup:∀s',s'≠s->cB g [(s,some ⟨1,0,kD (tT ks xs (E y))⟩)] s'=g s':=by intro s' hs';unfold cB;rw[hlk s' hs']
 have hmono:∀b' o' x',aJ C0 B w ρ g b' o' x'->aJ C0 B w' ρ (cB g [(s,some ⟨1,0,kD (tT ks xs (E y))⟩)]) b' o' x':=by
  intro b' o' x' ⟨e1,e2,e0⟩;have hne:b'≠c:=by
   intro e3;subst e3;unfold World.cell? at e1;simp[hb]at e1
  refine⟨(World.cell?_of_block (hold b' hne)).trans e1,?_,e0⟩;intro s' c' e3;by_cases e:s'=s
  ·subst e;rw[hρ]at e3;cases e3
  ·rw[hup s' e];exact e2 s' c' e3
 refine⟨ρ,fun _ _=>rfl,hmono,?_,by unfold aE;rfl,⟨hos.1,hos.2.1,hos.2.2,by rw[hsize];exact Nat.le_refl _,fun k hk=>hold k (by omega)⟩⟩
 refine hs.stepG (fun _ _ _ _=>rfl) (fun _ _ h=>h) hmono ?_ ?_ ?_
 ·intro s' o' b' c' e1 e2 e3;refine hold b' fun e=> ?_
  obtain⟨_,arr,e4⟩:=hs.at e2 e3;exact xJ hb e4.blk e.symm
 ·intro s' o' c' es2 clock2 e1 e2 e3 e4 e5 e6;refine hold c' fun e=> ?_
  subst e;have:=hs.mpi s' s o' _ c' c' e2 hgs e3 rfl e5 hρ (.inl ⟨e4,rfl,rfl⟩);subst this;simp[List.lookup]at e1
 ·intro s' o' e;have e1:s'=s:=by
   rcases Nat.decEq s' s with h|h
   ·rw[hlk s' h]at e;cases e
   ·exact h
  subst e1;have e2:o'=⟨1,0,kD (tT ks xs (E y))⟩:=by simp[List.lookup]at e;exact e.symm
  subst e2;refine⟨none,c,hρ,.inr (.inl ⟨rfl,rfl,.inr ⟨rfl,hBc,es',clock',hnb,Tx f1 f2 (f3 ρ _ (fun _ _ h=>h) hmono)⟩,?_⟩)⟩
  intro s2 o2 c2 hne e3 e4 e5 hT;rw[hup s2 hne]at e3;exact hne (hs.mpi s' s2 _ o2 c c2 hgs e3 rfl e4 hρ e5 (by
   rcases hT with⟨_,h2,h3⟩|⟨h1,_⟩
   ·exact .inl ⟨rfl,h2,h3⟩
   ·cases h1)).symm
end Go.Proofs.YtdaeofhdgabhjaaGreat
namespace Go.Proofs.YtdaeofhdgabhjaaGreat
open Go.RowKit
def gP:Nat->(Nat->Option Ob)->AV->Option PV
 |_,_,.p x=>some x
 |_,_,.nil=>some (.sl 0 [])
 |_,_,.own .. =>some .junk
 |_,_,.any=>some .junk
 |0,_,.ptr .. =>some .junk
 |d+1,σ,.ptr s off=>(σ s).bind fun ob=>(gE (gP d σ) ob.cells).map fun l=> .pro l off
 |d+1,σ,.agg l=>(gE (gP d σ) l).map .agg
 |d+1,σ,.fn f a b=>(gE (gP d σ) a).bind fun x=>(gE (gP d σ) b).map fun y=> .fn f x y
 |_,_,_=>none
def fU:Nat->(Nat->Option Ob)->AV->List Nat
 |0,_,_=>[]
 |d+1,σ,.ptr s _=>s::(match σ s with|some ob=>bJ (fU d σ) ob.cells|none=>[])
 |d+1,σ,.agg l=>bJ (fU d σ) l
 |d+1,σ,.fn _ a b=>bJ (fU d σ) a++bJ (fU d σ) b
 |_,_,_=>[]
theorem Vg{C0:bI}{ρ:Ren}{g σ:Nat->Option Ob}{w:World}{B s0 b0 c0:Nat}{o0:Ob}(hs:StR C0 ρ g w B)(hg0:g s0=some o0)(hρ0:ρ s0=some (some b0,c0)):
  ∀(d:Nat) (x:AV) (y:PV) (v:Value),gP d σ x=some y->(∀s∈fU d σ x,s≠s0/\g s=σ s)->aE ρ (aJ C0 B w ρ g) x v->aU (fun b o u=>w.cell? ⟨b,o,none⟩=some u/\b≠b0) y v:=by
 have hfull:∀b o v,aJ C0 B w ρ g b o v->w.cell? ⟨b,o,none⟩=some v/\b≠b0:=fun b o v h=>⟨h.1,fun e=>by subst e;have:=h.2.1 s0 c0 hρ0;rw[hg0]at this;cases this⟩
 intro d;induction d with
 |zero=>
  intro x y v h hr hx;unfold gP at h;split at h<;>first|(cases h;done)|skip
  ·cases h;unfold aE at hx;exact aU.mono hfull _ v hx
  ·cases h;unfold aE at hx;unfold aU;exact⟨none,0,hx,Nat.le_refl _,fun _=>⟨rfl,rfl⟩,fun ad e=>by cases e⟩
  ·cases h;unfold aU;trivial
  ·cases h;unfold aU;trivial
  ·cases h;unfold aU;trivial
  all_goals (rename_i e;cases e)
 |succ d ih=>
  have ihL:∀(l:List AV) (m:List PV) (vs:List Value),gE (gP d σ) l=some m->(∀s∈bJ (fU d σ) l,s≠s0/\g s=σ s)->aP ρ (aJ C0 B w ρ g) l vs->bO (fun b o u=>w.cell? ⟨b,o,none⟩=some u/\b≠b0) m vs:=by
   intro l m vs h hr hv;obtain⟨h1,h2⟩:=iK h;refine bO.of _ _ (by rw[<-h1];exact hv.length) fun i y hi=> ?_
   have hlt:i<l.length:=by rw[h1];exact(List.getElem?_eq_some_iff.1 hi).1
   obtain⟨y',h3,h4⟩:=h2 i l[i] (List.getElem?_eq_getElem hlt);rw[hi]at h3;cases h3;obtain⟨v,h5,h6⟩:=hv.get _ _ i l[i] (List.getElem?_eq_getElem hlt);exact⟨v,h5,ih _ _ v h4 (fun s hs'=>hr s (gG (List.getElem_mem hlt) hs')) h6⟩
  intro x y v h hr hx;unfold gP at h;split at h<;>first|(cases h;done)|skip
  ·cases h;unfold aE at hx;exact aU.mono hfull _ v hx
  ·cases h;unfold aE at hx;unfold aU;exact⟨none,0,hx,Nat.le_refl _,fun _=>⟨rfl,rfl⟩,fun ad e=>by cases e⟩
  ·cases h;unfold aU;trivial
  ·cases h;unfold aU;trivial
  ·rename_i e;cases e
  ·rename_i σ _ _ _ d' s off e;cases e;simp only[Option.bind_eq_some_iff,Option.map_eq_some_iff]at h;obtain⟨ob,h1,l,h2,rfl⟩:=h;obtain⟨hne,hg⟩:=hr s (by simp[fU])
   have hg:g s=some ob:=hg.trans h1;have hr2:∀s'∈bJ (fU d σ) ob.cells,s'≠s0/\g s'=σ s':=fun s' hs'=>hr s' (by simp only[fU,h1];exact List.mem_cons_of_mem _ hs')
   unfold aE at hx;unfold aU;obtain⟨b,c,hq,hv⟩:=hx;refine⟨b,0,by rw[Nat.zero_add];exact hv,?_⟩
   obtain⟨hBb,arr,hO⟩:=hs.at hg hq;obtain⟨g1,g2⟩:=iK h2;refine dS.of _ _ _ fun i y hi=> ?_
   have hlt:i<ob.cells.length:=by rw[g1];exact(List.getElem?_eq_some_iff.1 hi).1
   obtain⟨y',h5,h6⟩:=g2 i ob.cells[i] (List.getElem?_eq_getElem hlt);rw[hi]at h5;cases h5;obtain⟨v,k1,k2,k3⟩:=hO.cells i ob.cells[i] (List.getElem?_eq_getElem hlt);refine⟨v,⟨by rw[Nat.zero_add,hO.cell];exact k1,fun e=> ?_⟩,k2,ih _ _ v h6 (fun s hs'=>hr2 s (gG (List.getElem_mem hlt) hs')) k3⟩
   subst e;exact hne (hs.inj s s0 _ _ b c c0 hg hg0 hq hρ0)
  ·rename_i d' l e;cases e;simp only[Option.map_eq_some_iff]at h;obtain⟨m,h2,rfl⟩:=h;unfold aE at hx;unfold aU;obtain⟨vs,h3,h4,h5⟩:=hx;exact⟨vs,h3,ihL l m vs h2 (fun s hs'=>hr s hs') h4,h5⟩
  ·rename_i d' f a b e;cases e;simp only[Option.bind_eq_some_iff,Option.map_eq_some_iff]at h;obtain⟨x1,h1,x2,h2,rfl⟩:=h;unfold aE at hx;unfold aU;obtain⟨vs1,vs2,h3,h4,h5⟩:=hx;exact⟨vs1,vs2,h3,ihL a x1 vs1 h1 (fun s hs'=>hr s (List.mem_append_left _ hs')) h4,ihL b x2 vs2 h2 (fun s hs'=>hr s (List.mem_append_right _ hs')) h5⟩
theorem Cr{C0:bI}{ρ:Ren}{g σ:Nat->Option Ob}{w:World}{B s0 b0 c0 d:Nat}{o0:Ob}(hs:StR C0 ρ g w B)(hg0:g s0=some o0)(hρ0:ρ s0=some (some b0,c0)):
  ∀{l:List AV} {m:List PV} {vs:List Value},gE (gP d σ) l=some m->(∀s∈bJ (fU d σ) l,s≠s0/\g s=σ s)->aP ρ (aJ C0 B w ρ g) l vs->bO (fun b o u=>w.cell? ⟨b,o,none⟩=some u/\b≠b0) m vs:=by
 intro l m vs h hr hv;obtain⟨h1,h2⟩:=iK h;refine bO.of _ _ (by rw[<-h1];exact hv.length) fun i y hi=> ?_
 have hlt:i<l.length:=by rw[h1];exact(List.getElem?_eq_some_iff.1 hi).1
 obtain⟨y',h3,h4⟩:=h2 i l[i] (List.getElem?_eq_getElem hlt);rw[hi]at h3;cases h3;obtain⟨v,h5,h6⟩:=hv.get _ _ i l[i] (List.getElem?_eq_getElem hlt);exact⟨v,h5,Vg hs hg0 hρ0 d _ _ v h4 (fun s hs'=>hr s (gG (List.getElem_mem hlt) hs')) h6⟩
variable {P:Program}
def flat1(x:PV):Bool:=match x with
 | .int .. | .bool _| .str _=>true
 |_=>false
theorem yL{C C':bI}{x:PV}{v:Value}(hf:flat1 x=true)(h:aU C x v):aU C' x v:=by
 cases x<;>first|(cases hf;done)|(unfold aU at*;exact h)
def aEY(P:Program)(f:FuncId)(n:Nat)(A:List PV)(ty esz:Nat)(cells cells':List PV)(m:Nat):Prop:=qL P f=true/\cells'.length<=cells.length/\m<=n/\cells'.all flat1=true/\
 ∀(C:bI) (w:World) (b c:Nat) (arr:Array Value) (vs:List Value),(∀b' o v,C b' o v->w.cell? ⟨b',o,none⟩=some v/\b'≠b)->Lent C w b c ty esz cells arr->n<=c->bO C A vs->
  Calls P f (.slice (some ⟨b,0,none⟩) n c::vs).toArray w fun e w'=>∃arr',e= .returned (.slice (some ⟨b,0,none⟩) m c)/\w'.heap[b]? =some (.cells arr' ty (0,0))/\arr'.size=arr.size/\
   (∀(i:Nat) x,cells'[i]? =some x->∃v,arr'[i]? =some v/\v.oneCell'=true/\aU C x v)/\w.grownBy w' (some b)
variable {o:Oper} {E:Operand->AV} {σ:Nat->Option Ob} {n:Nat}
theorem Hb{c:Call}{f:Operand}{fid:FuncId}{s k m ty esz:Nat}{rest:List AV}{A cells cells':List PV}(ho:o.op= .call c)(hc:c.callee= .value f)(hfv:E f= .p (.fn (.func fid) [] []))
  (hargs:c.args.toList.map E= .own s 0 k::rest) (hob:σ s=some ⟨ty,esz,cells.map .p⟩) (he:esz≠0) (hk:0<k) (hA:gE (gP 3 σ) rest=some A) (hns:s∉bJ (fU 3 σ) rest) (hS:aEY P fid k A ty esz cells cells' m):
  bM P o E σ n (.own (sit n 0) 0 m) (s::bJ (fU 3 σ) rest) [(s,none),(sit n 0,some ⟨ty,esz,cells'.map .p⟩)] :=by
 have hfm:f∈o.op.operands.toList:=by rw[ho];simp[Op.operands,Call.operands,hc]
 have ham:∀x∈c.args.toList,x∈o.op.operands.toList:=by intro x hx;rw[ho];simp[Op.operands,Call.operands];exact .inr (by simpa using hx)
 obtain⟨hok,hlen,hmk,hfl,hcall⟩:=hS;intro C0 ρ g V w B hs hB hR hn hgn hE;have hn:=hn _ (dM n 0);have hgn:=hgn _ (dM n 0);have hcl:∀s,cls s≠n->s≠sit n 0:=fun s h e=>h (by rw[e];exact dM n 0)
 have hl:∀l:List Operand,(∀x∈l,x∈o.op.operands.toList)->aP ρ (aJ C0 B w ρ g) (l.map E) (l.map (bB V)):=by
  intro l;induction l with
  |nil=>intro _;simp only[List.map_nil];unfold aP;rfl
  |cons x l ih=>
   intro hx;simp only[List.map_cons];unfold aP;exact⟨_,_,rfl,hE x (hx x List.mem_cons_self),ih fun y hy=>hx y (List.mem_cons_of_mem _ hy)⟩
 have hall:=hl _ ham;rw[hargs]at hall;unfold aP at hall;obtain⟨v,us,hvs,hv,hus⟩:=hall;have hvf:bB V f= .func (.func fid) #[] #[] :=by
  have:=hE f hfm;rw[hfv]at this;unfold aE aU at this;obtain⟨v1,v2,h1,h2,h3⟩:=this;unfold bO at h2 h3;rw[h1,h2,h3]
 have hrun:(execOp (bB V) o).run P w= .ok (.enter fid (v::us).toArray) w:=by
  unfold execOp;rw[ho];have e2: #[] ++Array.map (bB V) c.args++ #[] =(v::us).toArray:=by
   rw[<-hvs];apply Array.toList_inj.1;simp
  simp only[resolve,hc,hvf,Deferred.ofValue,Sem.run_bind,Sem.run_pure,Result.andThen_ok,invoke,dN hok,e2]
 have hgs:g s=some ⟨ty,esz,cells.map .p⟩:=(hR s (by simp)).trans hob
 unfold aE at hv;obtain⟨q,cap,hρ,⟨_,_,hk0,_⟩|⟨b,o',c',rfl,rfl,h5,h6,h7⟩⟩:=hv
 ·omega
 obtain⟨rfl,rfl⟩:=h7 rfl;obtain⟨hBb,arr,hO⟩:=hs.at hgs hρ;have hL:Lent (fun b' o u=>w.cell? ⟨b',o,none⟩=some u/\b'≠b) w b c' ty esz cells arr:=by
  refine⟨hO.blk,fun h=>by simpa using hO.box h,fun h=>by simpa using hO.row h,fun i x hi=> ?_⟩
  obtain⟨u,h1,h2,h3⟩:=hO.cells i (.p x) (by show(cells.map AV.p)[i]? =_;rw[List.getElem?_map,hi];rfl)
  unfold aE at h3;exact⟨u,h1,h2,aU.mono (fun b' o v h=>⟨h.1,fun e=>by subst e;have:=h.2.1 s c' hρ;rw[hgs]at this;cases this⟩) x u h3⟩
 have hcN:cells.length<=arr.size:=by simpa using(hO.row he).2.1
 unfold bZ;rw[hrun];dsimp only;refine(hcall _ w b c' arr us (fun b' o' x hx=>hx) hL h5 (Cr hs hgs hρ hA (fun t ht=>⟨fun e=>hns (e▸ht),hR t (List.mem_cons_of_mem _ ht)⟩) hus)).mono ?_
 rintro e w' ⟨arr',rfl,hblk,hsz,hcells,hG⟩;generalize hnS:sit n 0=nS at*;have hsn:s≠nS:=fun e=>by rw[e,hgn]at hgs;cases hgs
 let ρ':Ren:=fun t=>if t=nS then some (some b,c')else ρ t
 have hρn:ρ' nS=some (some b,c'):=if_pos rfl;have hρs:∀t,t≠nS->ρ' t=ρ t:=fun t h=>if_neg h
 have hext:∀t q,ρ t=some q->ρ' t=some q:=fun t q hq=>by rw[hρs t (fun e=>by rw[e,hn]at hq;cases hq)];exact hq
 have hlk:∀t,t≠s->t≠nS->[(s,none),(nS,some (⟨ty,esz,cells'.map .p⟩:Ob))].lookup t=none:=by intro t h1 h2;simp[List.lookup,beq_eq_false_iff_ne.2 h1,beq_eq_false_iff_ne.2 h2]
 have hup:∀t,t≠s->t≠nS->cB g [(s,none),(nS,some ⟨ty,esz,cells'.map .p⟩)] t=g t:=by intro t h1 h2;unfold cB;rw[hlk t h1 h2]
 have hups:cB g [(s,none),(nS,some ⟨ty,esz,cells'.map .p⟩)] s=none:=by unfold cB;simp[List.lookup]
 have hold:∀k,k<w.heap.size->k≠b->w'.heap[k]? =w.heap[k]? :=fun k h1 h2=>hG.block k h1 (fun e=>h2 (by cases e;rfl))
 have hmono:∀b' o' x,aJ C0 B w ρ g b' o' x->aJ C0 B w' ρ' (cB g [(s,none),(nS,some ⟨ty,esz,cells'.map .p⟩)]) b' o' x:=by
  intro b' o' x ⟨e1,e2,e0⟩;have hne:b'≠b:=fun e=>by rw[e]at e2;rw[e2 s c' hρ]at hgs;cases hgs
  refine⟨(World.cell?_of_block (hold b' (World.block_lt_of_cell? w ⟨b',o',none⟩ e1) hne)).trans e1,?_,e0⟩;intro t c2 e3;by_cases h1:t=nS
  ·subst h1;rw[hρn]at e3;cases e3;exact absurd rfl hne
  ·rw[hρs t h1]at e3;by_cases h2:t=s
   ·subst h2;exact hups
   ·rw[hup t h2 h1];exact e2 t c2 e3
 refine⟨_,rfl,ρ',fun t ht=>hρs t (by rw[<-hnS];exact fun e=>ht (by rw[e];exact dM n 0)),hmono,?_,by unfold aE;exact⟨some b,c',hρn,.inr ⟨b,0,c',rfl,rfl,Nat.le_trans hmk h5,fun _=>rfl,fun _=>⟨rfl,rfl⟩⟩⟩,⟨hG.os,hG.tape,hG.output,hG.size,fun k hk=>hold k (by omega) (by omega)⟩⟩
 refine hs.step (fun t ob _ hg=>hρs t (fun e=>by rw[e,hgn]at hg;cases hg)) hext hmono ?_ ?_ fun k es clock hk=>hold k (iT hk) (xJ hk hO.blk)
 ·intro t ob b' c2 e1 e2 e3;obtain⟨_,arr2,e4⟩:=hs.at e2 e3;refine hold b' e4.lt fun e=> ?_
  subst e;have:=hs.inj t s ob _ b' c2 c' e2 hgs e3 hρ;subst this;simp[List.lookup]at e1
 ·intro t ob e1;have e2:t=nS:=by
   rcases Nat.decEq t nS with h1|h1
   ·rcases Nat.decEq t s with h2|h2
    ·rw[hlk t h2 h1]at e1;cases e1
    ·subst h2;simp[List.lookup]at e1
   ·exact h1
  subst e2;have e3:ob=⟨ty,esz,cells'.map .p⟩:=by
   simp[List.lookup,beq_eq_false_iff_ne.2 (Ne.symm hsn)]at e1;exact e1.symm
  subst e3;obtain⟨r1,r2,r3⟩:=hO.row he;refine⟨some b,c',hρn,.inr ⟨b,arr',rfl,hBb,⟨hblk,fun h=>absurd h he,fun _=>⟨by rw[hsz];exact r1,by rw[hsz];simp;omega,r3⟩,fun i x hi=> ?_⟩,?_⟩⟩
  ·have hi:(cells'.map AV.p)[i]? =some x:=hi;rw[List.getElem?_map]at hi;cases hc2:cells'[i]? with
   |none=>rw[hc2]at hi;cases hi
   |some y=>
    rw[hc2]at hi;simp only[Option.map_some,Option.some.injEq]at hi;subst hi;obtain⟨u,h1,h2,h3⟩:=hcells i y hc2;exact⟨u,h1,h2,by unfold aE;exact yL (List.all_eq_true.1 hfl y (List.mem_of_getElem? hc2)) h3⟩
  ·intro t' ob' c2 hne hg' hr';rw[hρs t' hne]at hr';by_cases h2:t'=s
   ·subst h2;rw[hups]at hg';cases hg'
   ·rw[hup t' h2 hne]at hg';exact h2 (hs.inj t' s ob' _ b c2 c' hg' hgs hr' hρ)
theorem Gz{c:Call}{f:Operand}{fid:FuncId}{s k ty esz:Nat}{rest:List AV}{A cells cells':List PV}(ho:o.op= .call c)(hc:c.callee= .value f)(hfv:E f= .p (.fn (.func fid) [] []))
  (hargs:c.args.toList.map E= .own s 0 k::rest) (hob:σ s=some ⟨ty,esz,cells.map .p⟩) (he:esz≠0) (hk:0<k) (hA:gE (gP 3 σ) rest=some A) (hns:s∉bJ (fU 3 σ) rest) (hfl:cells'.all flat1=true) (hS:zU P fid (some k) A ty esz cells cells'):
  bM P o E σ n .undef (s::bJ (fU 3 σ) rest) [(s,some ⟨ty,esz,cells'.map .p⟩)] :=by
 have hfm:f∈o.op.operands.toList:=by rw[ho];simp[Op.operands,Call.operands,hc]
 have ham:∀x∈c.args.toList,x∈o.op.operands.toList:=by intro x hx;rw[ho];simp[Op.operands,Call.operands];exact .inr (by simpa using hx)
 obtain⟨hok,hlen,hcall,_⟩:=hS;intro C0 ρ g V w B hs hB hR hn hgn hE;have hl:∀l:List Operand,(∀x∈l,x∈o.op.operands.toList)->aP ρ (aJ C0 B w ρ g) (l.map E) (l.map (bB V)):=by
  intro l;induction l with
  |nil=>intro _;simp only[List.map_nil];unfold aP;rfl
  |cons x l ih=>
   intro hx;simp only[List.map_cons];unfold aP;exact⟨_,_,rfl,hE x (hx x List.mem_cons_self),ih fun y hy=>hx y (List.mem_cons_of_mem _ hy)⟩
 have hall:=hl _ ham;rw[hargs]at hall;unfold aP at hall;obtain⟨v,us,hvs,hv,hus⟩:=hall;have hvf:bB V f= .func (.func fid) #[] #[] :=by
  have:=hE f hfm;rw[hfv]at this;unfold aE aU at this;obtain⟨v1,v2,h1,h2,h3⟩:=this;unfold bO at h2 h3;rw[h1,h2,h3]
 have hrun:(execOp (bB V) o).run P w= .ok (.enter fid (v::us).toArray) w:=by
  unfold execOp;rw[ho];have e2: #[] ++Array.map (bB V) c.args++ #[] =(v::us).toArray:=by
   rw[<-hvs];apply Array.toList_inj.1;simp
  simp only[resolve,hc,hvf,Deferred.ofValue,Sem.run_bind,Sem.run_pure,Result.andThen_ok,invoke,dN hok,e2]
 have hgs:g s=some ⟨ty,esz,cells.map .p⟩:=(hR s (by simp)).trans hob
 unfold aE at hv;obtain⟨q,cap,hρ,⟨_,_,hk0,_⟩|⟨b,o',c',rfl,rfl,h5,h6,h7⟩⟩:=hv
 ·omega
 obtain⟨rfl,rfl⟩:=h7 rfl;obtain⟨hBb,arr,hO⟩:=hs.at hgs hρ;have hL:Lent (fun b' o u=>w.cell? ⟨b',o,none⟩=some u/\b'≠b) w b c' ty esz cells arr:=by
  refine⟨hO.blk,fun h=>by simpa using hO.box h,fun h=>by simpa using hO.row h,fun i x hi=> ?_⟩
  obtain⟨u,h1,h2,h3⟩:=hO.cells i (.p x) (by show(cells.map AV.p)[i]? =_;rw[List.getElem?_map,hi];rfl)
  unfold aE at h3;exact⟨u,h1,h2,aU.mono (fun b' o v h=>⟨h.1,fun e=>by subst e;have:=h.2.1 s c' hρ;rw[hgs]at this;cases this⟩) x u h3⟩
 unfold bZ;rw[hrun];dsimp only;refine(hcall _ w b c' arr us (fun b' o' x hx=>hx) hL (fun m hm=>by cases hm;exact h5) (Cr hs hgs hρ hA (fun t ht=>⟨fun e=>hns (e▸ht),hR t (List.mem_cons_of_mem _ ht)⟩) hus)).mono ?_
 rintro e w' ⟨arr',rfl,hL',hG⟩;have hlk:∀t,t≠s->[(s,some (⟨ty,esz,cells'.map .p⟩:Ob))].lookup t=none:=by intro t h1;simp[List.lookup,beq_eq_false_iff_ne.2 h1]
 have hup:∀t,t≠s->cB g [(s,some ⟨ty,esz,cells'.map .p⟩)] t=g t:=by intro t h1;unfold cB;rw[hlk t h1]
 have hold:∀k,k<w.heap.size->k≠b->w'.heap[k]? =w.heap[k]? :=fun k h1 h2=>hG.block k h1 (fun e=>h2 (by cases e;rfl))
 have hmono:∀b' o' x,aJ C0 B w ρ g b' o' x->aJ C0 B w' ρ (cB g [(s,some ⟨ty,esz,cells'.map .p⟩)]) b' o' x:=by
  intro b' o' x ⟨e1,e2,e0⟩;have hne:b'≠b:=fun e=>by rw[e]at e2;rw[e2 s c' hρ]at hgs;cases hgs
  refine⟨(World.cell?_of_block (hold b' (World.block_lt_of_cell? w ⟨b',o',none⟩ e1) hne)).trans e1,?_,e0⟩;intro t c2 e3;by_cases h2:t=s
  ·subst h2;rw[e2 _ _ e3]at hgs;cases hgs
  ·rw[hup t h2];exact e2 t c2 e3
 refine⟨_,rfl,ρ,fun _ _=>rfl,hmono,?_,by unfold aE;rfl,⟨hG.os,hG.tape,hG.output,hG.size,fun k hk=>hold k (by omega) (by omega)⟩⟩
 refine hs.step (fun _ _ _ _=>rfl) (fun _ _ h=>h) hmono ?_ ?_ fun k es clock hk=>hold k (iT hk) (xJ hk hO.blk)
 ·intro t ob b' c2 e1 e2 e3;obtain⟨_,arr2,e4⟩:=hs.at e2 e3;refine hold b' e4.lt fun e=> ?_
  subst e;have:=hs.inj t s ob _ b' c2 c' e2 hgs e3 hρ;subst this;simp[List.lookup]at e1
 ·intro t ob e1;have e2:t=s:=by
   rcases Nat.decEq t s with h1|h1
   ·rw[hlk t h1]at e1;cases e1
   ·exact h1
  subst e2;have e3:ob=⟨ty,esz,cells'.map .p⟩:=by
   simp[List.lookup]at e1;exact e1.symm
  subst e3;refine⟨some b,c',hρ,.inr ⟨b,arr',rfl,hBb,⟨hL'.blk,fun h=>absurd h he,fun h=>by simpa using hL'.row h,fun i x hi=> ?_⟩,?_⟩⟩
  ·have hi:(cells'.map AV.p)[i]? =some x:=hi;rw[List.getElem?_map]at hi;cases hc2:cells'[i]? with
   |none=>rw[hc2]at hi;cases hi
   |some y=>
    rw[hc2]at hi;simp only[Option.map_some,Option.some.injEq]at hi;subst hi;obtain⟨u,h1,h2,h3⟩:=hL'.cells i y hc2;exact⟨u,h1,h2,by unfold aE;exact yL (List.all_eq_true.1 hfl y (List.mem_of_getElem? hc2)) h3⟩
  ·intro t' ob' c2 hne hg' hr';rw[hup t' hne]at hg';exact hne (hs.inj t' t ob' _ b c2 c' hg' hgs hr' hρ)
end Go.Proofs.YtdaeofhdgabhjaaGreat
namespace Go.Proofs.YtdaeofhdgabhjaaGreat
open Go.RowKit
theorem lV{k:IntKind}{a b:Int}(h:a=b):Ending.returned (.int k a)= .returned (.int k b):=by rw[h]
theorem Wm(x:Int)(w:World):Calls Tryz.prog 184 #[.int .i64 x] w fun e w'=>e= .returned (.bool false)/\w=w':=by
 go_enter Tryz.func184,Tryz.ntmps184
 go_wp2
 go_ret
 exact⟨rfl,rfl⟩
def eO(x y:Int):Int:=if x<y then-1 else if y<x then 1 else 0
theorem aCA{x y:Int}(h:x<y):eO x y= -1:=if_pos h
theorem aCB{x y:Int}(h:y<x):eO x y=1:=by unfold eO;rw[if_neg (by omega),if_pos h]
theorem aCC{x y:Int}(h:x=y):eO x y=0:=by unfold eO;rw[if_neg (by omega),if_neg (by omega)]
theorem Uk(x y:Int)(w:World):Calls Tryz.prog 137 #[.int .i64 x,.int .i64 y] w fun e w'=>e= .returned (.int .i64 (eO x y))/\w=w':=by
 go_enter Tryz.func137,Tryz.ntmps137
 go_wp2_with (go_at_call 184;refine(Wm _ _).mono ?_;rintro e w' ⟨rfl,rfl⟩)
 ·have h:x<y:=by assumption
  go_ret
  exact⟨lV (aCA h).symm,rfl⟩
 ·have h:y<x:=by assumption
  go_ret
  exact⟨lV (aCB h).symm,rfl⟩
 ·go_ret
  exact⟨lV (aCC (by omega)).symm,rfl⟩
def orI(p q:Int):Int:=if p=0 then q else p
set_option maxHeartbeats 400000 in
theorem aFj(p q:Int)(b:Nat)(w:World)(h0:w.cell? ⟨b,0,none⟩=some (.int .i64 p))(h1:w.cell? ⟨b,1,none⟩=some (.int .i64 q)):
  Calls Tryz.prog 148 #[.slice (some ⟨b,0,none⟩) 2 2] w fun e w'=>e= .returned (.int .i64 (orI p q))/\w=w':=by
 by_cases hp:p=0
 ·subst hp;by_cases hq:q=0
  ·subst hq
   go_enter Tryz.func148,Tryz.ntmps148
   go_wp2
   go_loop [5,8] (fun _ i=>∃k:Nat,k<=2/\i= .int .i64 k) (fun _ i=>2-(intOf i).toNat)
   case atStart=>exact⟨0,by omega,rfl⟩
   case round=>
    obtain⟨k,hk,rfl⟩:=hrel;match k,hk with
    |0,_=>
     go_wp2
     go_round
     case rel=>exact⟨1,by omega,by go_num⟩
     case measure=>simp[intOf]
    |1,_=>
     go_wp2
     go_round
     case rel=>exact⟨2,by omega,by go_num⟩
     case measure=>simp[intOf]
    |2,_=>
     go_wp2
     go_ret
     exact⟨rfl,rfl⟩
  ·have hq1:(q !=0)=true:=by simpa using hq
   go_enter Tryz.func148,Tryz.ntmps148
   go_wp2
   go_loop [5,8] (fun _ i=>∃k:Nat,k<=1/\i= .int .i64 k) (fun _ i=>2-(intOf i).toNat)
   case atStart=>exact⟨0,by omega,rfl⟩
   case round=>
    obtain⟨k,hk,rfl⟩:=hrel;match k,hk with
    |0,_=>
     go_wp2
     go_round
     case rel=>exact⟨1,by omega,by go_num⟩
     case measure=>simp[intOf]
    |1,_=>
     go_wp2
     go_ret
     exact⟨rfl,rfl⟩
 ·have hp1:(p !=0)=true:=by simpa using hp
  go_enter Tryz.func148,Tryz.ntmps148
  go_wp2
  go_loop [5,8] (fun _ i=>i= .int .i64 0) (fun _ i=>2-(intOf i).toNat)
  case atStart=>rfl
  case round=>
   subst hrel
   go_wp2
   go_ret
   exact⟨lV (by unfold orI;rw[if_neg hp]),rfl⟩
def lP(ax ay bx b_y:Int):Int:=orI (eO ay b_y) (eO ax bx)
end Go.Proofs.YtdaeofhdgabhjaaGreat
namespace Go.Proofs.YtdaeofhdgabhjaaGreat
open Go.RowKit
theorem aJq(ax ay bx b_y:Int)(w:World):Sem.run Tryz.prog (binOp .eql 44 (.agg #[.int .i64 ax,.int .i64 ay]) (.agg #[.int .i64 bx,.int .i64 b_y])) w= .ok (.bool (ax==bx&&ay==b_y)) w:=by
 have u3:=Tryz.underlying3;have a3:=Tryz.isAgg3;have z3:=Tryz.sizeOf3;have hS:Tryz.prog.underlying 44=some (.struct (Tryz.prog.fieldsOf 44)):=by kernel_rfl
 have hp:Tryz.prog.stoodInHeld 44=false:=by kernel_rfl
 rw[run_eql_struct,show(10000:Nat)=9999+1 from rfl,run_equalIn_agg w 9999 44 _ _ hS hp]
 simp only[Program.fieldsOf,Tryz.underlying44]
 go_simp
 by_cases h1:ax=bx<;>by_cases h2:ay=b_y<;>simp[h1,h2]
end Go.Proofs.YtdaeofhdgabhjaaGreat
namespace Go.Proofs.YtdaeofhdgabhjaaGreat.Geo
structure V where
 x:Int
 y:Int
deriving DecidableEq,Inhabited
structure S where
 a:V
 b:V
deriving DecidableEq,Inhabited
def sub(p q:V):V:=⟨p.x-q.x,p.y-q.y⟩
def cross(p q:V):Int:=p.x*q.y-p.y*q.x
def sgn(n:Int):Int:=if 0<n then 1 else if n<0 then-1 else 0
def cP(a b c:V):Int:=sgn (cross (sub b a) (sub c a))
def cU(p q:V):Bool:=decide (p.y<q.y)||(p.y==q.y&&decide (p.x<q.x))
def bG(p:V)(m:Int):Bool:=decide (-m<=p.x)&&decide (p.x<=m)&&decide (-m<=p.y)&&decide (p.y<=m)
def bL(s:S):Bool:=bG s.a 4000&&bG s.b 4000
def lO(s:S)(p:V):Bool:=decide (min s.a.x s.b.x<=p.x)&&decide (p.x<=max s.a.x s.b.x)&&decide (min s.a.y s.b.y<=p.y)&&decide (p.y<=max s.a.y s.b.y)
def onS(s:S)(p:V):Bool:=bL s&&lO s p&&cP s.a s.b p==0
theorem kT(n:Int):sgn n=0↔n=0:=by unfold sgn;grind
theorem Ik(n:Int):0<sgn n↔0<n:=by unfold sgn;grind
theorem aB0(n:Int):sgn n<0↔n<0:=by unfold sgn;grind
theorem rM(m n:Int):sgn m*sgn n<0↔(0<m/\n<0)\/(m<0/\0<n):=by unfold sgn;grind
def eO(x y:Int):Int:=if x<y then-1 else if y<x then 1 else 0
def dJ(p q:V):Int:=if eO p.y q.y=0 then eO p.x q.x else eO p.y q.y
def oI(s t:S)(d:Int):Int:=
 let a0:=cross (sub t.a s.a) (sub t.b t.a)
 let b0:=cross (sub t.a s.a) (sub s.b s.a)
 let a:=if d<0 then-a0 else a0
 let b:=if d<0 then-b0 else b0
 let e:=if d<0 then-d else d
 if a<0\/e<a\/b<0\/e<b then 0 else if a=0\/a=e\/b=0\/b=e then 1 else 2
def loS(s:S):V:=if cU s.b s.a then s.b else s.a
def hiS(s:S):V:=if cU s.b s.a then s.a else s.b
def cL(s t:S):V:=if cU (loS s) (loS t)then loS t else loS s
def cT(s t:S):V:=if cU (hiS t) (hiS s)then hiS t else hiS s
def dF(s t:S):Int:=
 if !(bL s&&bL t)then 0
 else if cross (sub s.b s.a) (sub t.b t.a)≠0 then oI s t (cross (sub s.b s.a) (sub t.b t.a))
 else if s.a=s.b/\onS t s.a=true then 1
 else if t.a=t.b/\onS s t.a=true then 1
 else if s.a=s.b\/t.a=t.b\/cP s.a s.b t.a≠0 then 0
 else if dJ (cL s t) (cT s t)=0 then 1
 else if dJ (cL s t) (cT s t)= -1 then 3
 else 0
def cD(s t:S)(p:V):Prop:=onS s p=true/\onS t p=true
structure MeetIs(s t:S)(k:Int):Prop where
 none:(bL s&&bL t)=false->k=0
 over:∀p q,p∈[s.a,s.b,t.a,t.b]->q∈[s.a,s.b,t.a,t.b]->p≠q->cD s t p->cD s t q->k=3
 touch:(bL s&&bL t)=true->(∀p q,p∈[s.a,s.b,t.a,t.b]->q∈[s.a,s.b,t.a,t.b]->cD s t p->cD s t q->p=q)->(∃p,p∈[s.a,s.b,t.a,t.b]/\cD s t p)->k=1
 cross:(bL s&&bL t)=true->(∀p,p∈[s.a,s.b,t.a,t.b]->¬cD s t p)->(cP s.a s.b t.a*cP s.a s.b t.b<0/\cP t.a t.b s.a*cP t.a t.b s.b<0)->k=2
 else_:(bL s&&bL t)=true->(∀p,p∈[s.a,s.b,t.a,t.b]->¬cD s t p)->¬(cP s.a s.b t.a*cP s.a s.b t.b<0/\cP t.a t.b s.a*cP t.a t.b s.b<0)->k=0
theorem Al(d b v w:Int)(hd:0<d)(h:d*w=b*v)(hv:v≠0):(min 0 v<=w/\w<=max 0 v)↔(0<=b/\b<=d):=by
 rcases Int.lt_or_gt_of_ne hv with hv|hv
 ·have e1:w<=0↔0<=b:=by
   rw[<-Int.mul_le_mul_left hd,Int.mul_zero,h];constructor
   ·intro h1;rcases Int.lt_or_le b 0 with h2|h2
    ·have:=Int.mul_pos_of_neg_of_neg h2 hv;omega
    ·exact h2
   ·intro h1;have:=Int.mul_nonneg h1 (show(0:Int)<= -v by omega);rw[Int.mul_neg]at this;omega
  have e2:v<=w↔b<=d:=by
   rw[<-Int.mul_le_mul_left hd,h];constructor
   ·intro h1;rcases Int.lt_or_le d b with h2|h2
    ·have:=Int.mul_lt_mul_of_neg_right h2 hv;omega
    ·exact h2
   ·intro h1;exact Int.mul_le_mul_of_nonpos_right h1 (by omega)
  omega
 ·have e1:0<=w↔0<=b:=by
   rw[<-Int.mul_le_mul_left hd,Int.mul_zero,h];constructor
   ·intro h1;rcases Int.lt_or_le b 0 with h2|h2
    ·have:=Int.mul_neg_of_neg_of_pos h2 hv;omega
    ·exact h2
   ·intro h1;exact Int.mul_nonneg h1 (by omega)
  have e2:w<=v↔b<=d:=by
   rw[<-Int.mul_le_mul_left hd,h];exact Int.mul_le_mul_right hv
  omega
theorem kN(s:S)(p:V)(d b:Int)(hd:0<d)(hx:d*(p.x-s.a.x)=b*(s.b.x-s.a.x))(hy:d*(p.y-s.a.y)=b*(s.b.y-s.a.y))(hv:s.a≠s.b):
  lO s p=true↔(0<=b/\b<=d):=by
 obtain⟨⟨ax,ay⟩,⟨bx,b_y⟩⟩:=s;obtain⟨px,py⟩:=p;simp only[lO,Bool.and_eq_true,decide_eq_true_eq]at*;simp only[ne_eq,V.mk.injEq,not_and]at hv;by_cases h1:bx-ax=0
 ·have h2:b_y-ay≠0:=by
   intro h2;exact hv (by omega) (by omega)
  rw[h1,Int.mul_zero]at hx;have h3:px-ax=0:=by
   rcases Int.mul_eq_zero.1 hx with h|h
   ·omega
   ·exact h
  have:=Al d b _ _ hd hy h2;omega
 ·by_cases h2:b_y-ay=0
  ·rw[h2,Int.mul_zero]at hy;have h3:py-ay=0:=by
    rcases Int.mul_eq_zero.1 hy with h|h
    ·omega
    ·exact h
   have:=Al d b _ _ hd hx h1;omega
  ·have e1:=Al d b _ _ hd hx h1;have e2:=Al d b _ _ hd hy h2;omega
theorem eZ{s:S}{p:V}(hv:bL s=true):onS s p=true↔(lO s p=true/\cross (sub s.b s.a) (sub p s.a)=0):=by
 unfold onS cP;rw[hv];simp only[Bool.true_and,Bool.and_eq_true,beq_iff_eq,kT]
theorem jM{s:S}(hv:bL s=true):onS s s.a=true:=by
 rw[eZ hv];refine⟨?_,by simp[cross,sub]⟩
 simp[lO];omega
theorem qE{s:S}(hv:bL s=true):onS s s.b=true:=by
 rw[eZ hv];refine⟨?_,by simp only[cross,sub];grind⟩
 simp[lO];omega
theorem q1{d a b sa sb ta tb:Int}(h:d*(ta-sa)=a*(sb-sa)-b*(tb-ta))(e:a=0):d*(sa-ta)=b*(tb-ta):=by subst e;grind
theorem q2{d a b sa sb ta tb:Int}(h:d*(ta-sa)=a*(sb-sa)-b*(tb-ta))(e:a=d):d*(sb-ta)=b*(tb-ta):=by subst e;grind
theorem q3{d a b sa sb ta tb:Int}(h:d*(ta-sa)=a*(sb-sa)-b*(tb-ta))(e:b=0):d*(ta-sa)=a*(sb-sa):=by subst e;grind
theorem q4{d a b sa sb ta tb:Int}(h:d*(ta-sa)=a*(sb-sa)-b*(tb-ta))(e:b=d):d*(tb-sa)=a*(sb-sa):=by subst e;grind
theorem z13{d a b sa sb ta tb:Int}(h:d*(ta-sa)=a*(sb-sa)-b*(tb-ta))(e:a=0)(f:b=0):d*(ta-sa)=0:=by subst e f;grind
theorem z14{d a b sa sb ta tb:Int}(h:d*(ta-sa)=a*(sb-sa)-b*(tb-ta))(e:a=0)(f:b=d):d*(tb-sa)=0:=by subst e f;grind
theorem z23{d a b sa sb ta tb:Int}(h:d*(ta-sa)=a*(sb-sa)-b*(tb-ta))(e:a=d)(f:b=0):d*(ta-sb)=0:=by subst e f;grind
theorem z24{d a b sa sb ta tb:Int}(h:d*(ta-sa)=a*(sb-sa)-b*(tb-ta))(e:a=d)(f:b=d):d*(tb-sb)=0:=by subst e f;grind
theorem aAZ(s t:S)(hs:bL s=true)(ht:bL t=true)(hd:cross (sub s.b s.a) (sub t.b t.a)≠0):
  MeetIs s t (oI s t (cross (sub s.b s.a) (sub t.b t.a))):=by
 have hsab:s.a≠s.b:=by intro h;apply hd;rw[h];simp[cross,sub]
 have htab:t.a≠t.b:=by intro h;apply hd;rw[h];simp[cross,sub]
 obtain⟨a0,ha0⟩:∃a,a=cross (sub t.a s.a) (sub t.b t.a):=⟨_,rfl⟩;obtain⟨b0,hb0⟩:∃a,a=cross (sub t.a s.a) (sub s.b s.a):=⟨_,rfl⟩;obtain⟨d0,hd0⟩:∃a,a=cross (sub s.b s.a) (sub t.b t.a):=⟨_,rfl⟩;have f1:cross (sub t.b t.a) (sub s.a t.a)=a0:=by rw[ha0];simp only[cross,sub];grind
 have f2:cross (sub t.b t.a) (sub s.b t.a)=a0-d0:=by rw[ha0,hd0];simp only[cross,sub];grind
 have f3:cross (sub s.b s.a) (sub t.a s.a)= -b0:=by rw[hb0];simp only[cross,sub];grind
 have f4:cross (sub s.b s.a) (sub t.b s.a)=d0-b0:=by rw[hb0,hd0];simp only[cross,sub];grind
 have gx:d0*(t.a.x-s.a.x)=a0*(s.b.x-s.a.x)-b0*(t.b.x-t.a.x):=by rw[ha0,hb0,hd0];simp only[cross,sub];grind
 have gy:d0*(t.a.y-s.a.y)=a0*(s.b.y-s.a.y)-b0*(t.b.y-t.a.y):=by rw[ha0,hb0,hd0];simp only[cross,sub];grind
 rw[<-hd0]at hd;obtain⟨a,b,d,hdp,hx,hy,hab⟩:∃a b d:Int,0<d/\d*(t.a.x-s.a.x)=a*(s.b.x-s.a.x)-b*(t.b.x-t.a.x)/\d*(t.a.y-s.a.y)=a*(s.b.y-s.a.y)-b*(t.b.y-t.a.y)/\((d0<0/\a= -a0/\b= -b0/\d= -d0)\/(¬d0<0/\a=a0/\b=b0/\d=d0)):=by
  by_cases h:d0<0
  ·exact⟨-a0,-b0,-d0,by omega,by simp only[Int.neg_mul];omega,by simp only[Int.neg_mul];omega,.inl ⟨h,rfl,rfl,rfl⟩⟩
  ·exact⟨a0,b0,d0,by omega,gx,gy,.inr ⟨h,rfl,rfl,rfl⟩⟩
 have hK:oI s t d0=if a<0\/d<a\/b<0\/d<b then 0 else if a=0\/a=d\/b=0\/b=d then 1 else 2:=by
  unfold oI;simp only[<-ha0,<-hb0];rcases hab with⟨h,rfl,rfl,rfl⟩|⟨h,rfl,rfl,rfl⟩<;>simp only[h,if_true,if_false]
 have c1:cD s t s.a↔(a=0/\0<=b/\b<=d):=by
  unfold cD;rw[eZ ht,f1];have e:a0=0↔a=0:=by clear gx gy hx hy;omega
  rw[e];constructor
  ·rintro⟨_,h1,h2⟩;exact⟨h2,(kN t s.a d b hdp (q1 hx h2) (q1 hy h2) htab).1 h1⟩
  ·rintro⟨h2,h3⟩;exact⟨jM hs,(kN t s.a d b hdp (q1 hx h2) (q1 hy h2) htab).2 h3,h2⟩
 have c2:cD s t s.b↔(a=d/\0<=b/\b<=d):=by
  unfold cD;rw[eZ ht,f2];have e:a0-d0=0↔a=d:=by clear gx gy hx hy;omega
  rw[e];constructor
  ·rintro⟨_,h1,h2⟩;exact⟨h2,(kN t s.b d b hdp (q2 hx h2) (q2 hy h2) htab).1 h1⟩
  ·rintro⟨h2,h3⟩;exact⟨qE hs,(kN t s.b d b hdp (q2 hx h2) (q2 hy h2) htab).2 h3,h2⟩
 have c3:cD s t t.a↔(b=0/\0<=a/\a<=d):=by
  unfold cD;rw[eZ hs,f3];have e: -b0=0↔b=0:=by clear gx gy hx hy;omega
  rw[e];constructor
  ·rintro⟨⟨h1,h2⟩,_⟩;exact⟨h2,(kN s t.a d a hdp (q3 hx h2) (q3 hy h2) hsab).1 h1⟩
  ·rintro⟨h2,h3⟩;exact⟨⟨(kN s t.a d a hdp (q3 hx h2) (q3 hy h2) hsab).2 h3,h2⟩,jM ht⟩
 have c4:cD s t t.b↔(b=d/\0<=a/\a<=d):=by
  unfold cD;rw[eZ hs,f4];have e:d0-b0=0↔b=d:=by clear gx gy hx hy;omega
  rw[e];constructor
  ·rintro⟨⟨h1,h2⟩,_⟩;exact⟨h2,(kN s t.b d a hdp (q4 hx h2) (q4 hy h2) hsab).1 h1⟩
  ·rintro⟨h2,h3⟩;exact⟨⟨(kN s t.b d a hdp (q4 hx h2) (q4 hy h2) hsab).2 h3,h2⟩,qE ht⟩
 have hT:(cP s.a s.b t.a*cP s.a s.b t.b<0/\cP t.a t.b s.a*cP t.a t.b s.b<0)↔(0<a/\a<d/\0<b/\b<d):=by
  unfold cP;rw[rM,rM,f1,f2,f3,f4];clear hx hy gx gy c1 c2 c3 c4 f1 f2 f3 f4 hK ha0 hb0 hd0;rcases hab with⟨h,rfl,rfl,rfl⟩|⟨h,rfl,rfl,rfl⟩
  ·constructor
   ·rintro⟨h1|h1,h2|h2⟩<;>omega
   ·rintro⟨h1,h2,h3,h4⟩;exact⟨.inl (by omega),.inr (by omega)⟩
  ·constructor
   ·rintro⟨h1|h1,h2|h2⟩<;>omega
   ·rintro⟨h1,h2,h3,h4⟩;exact⟨.inr (by omega),.inl (by omega)⟩
 rw[<-hd0,hK];clear ha0 hb0 gx gy;clear hK f1 f2 f3 f4;have hone:∀p q,p∈[s.a,s.b,t.a,t.b]->q∈[s.a,s.b,t.a,t.b]->cD s t p->cD s t q->p=q:=by
  have zz:∀x:Int,d*x=0->x=0:=fun x h=>by rcases Int.mul_eq_zero.1 h with h|h<;>omega
  have e13:cD s t s.a->cD s t t.a->s.a=t.a:=by
   rw[c1,c3];rintro⟨h1,_⟩ ⟨h2,_⟩;have h3:=zz _ (z13 hx h1 h2);have h4:=zz _ (z13 hy h1 h2);cases hsa:s.a;cases hta:t.a;simp only[hsa,hta]at h3 h4;simp;omega
  have e14:cD s t s.a->cD s t t.b->s.a=t.b:=by
   rw[c1,c4];rintro⟨h1,_⟩ ⟨h2,_⟩;have h3:=zz _ (z14 hx h1 h2);have h4:=zz _ (z14 hy h1 h2);cases hsa:s.a;cases hta:t.b;simp only[hsa,hta]at h3 h4;simp;omega
  have e23:cD s t s.b->cD s t t.a->s.b=t.a:=by
   rw[c2,c3];rintro⟨h1,_⟩ ⟨h2,_⟩;have h3:=zz _ (z23 hx h1 h2);have h4:=zz _ (z23 hy h1 h2);cases hsa:s.b;cases hta:t.a;simp only[hsa,hta]at h3 h4;simp;omega
  have e24:cD s t s.b->cD s t t.b->s.b=t.b:=by
   rw[c2,c4];rintro⟨h1,_⟩ ⟨h2,_⟩;have h3:=zz _ (z24 hx h1 h2);have h4:=zz _ (z24 hy h1 h2);cases hsa:s.b;cases hta:t.b;simp only[hsa,hta]at h3 h4;simp;omega
  have e12:cD s t s.a->cD s t s.b->False:=by rw[c1,c2];clear hx hy;omega
  have e34:cD s t t.a->cD s t t.b->False:=by rw[c3,c4];clear hx hy;omega
  intro p q hp hq h1 h2;simp only[List.mem_cons,List.not_mem_nil,or_false]at hp hq;rcases hp with rfl|rfl|rfl|rfl<;>rcases hq with rfl|rfl|rfl|rfl
  ·rfl
  ·exact(e12 h1 h2).elim
  ·exact e13 h1 h2
  ·exact e14 h1 h2
  ·exact(e12 h2 h1).elim
  ·rfl
  ·exact e23 h1 h2
  ·exact e24 h1 h2
  ·exact(e13 h2 h1).symm
  ·exact(e23 h2 h1).symm
  ·rfl
  ·exact(e34 h1 h2).elim
  ·exact(e14 h2 h1).symm
  ·exact(e24 h2 h1).symm
  ·exact(e34 h2 h1).elim
  ·rfl
 clear hx hy hd0 hab hd;have hno:(∀p,p∈[s.a,s.b,t.a,t.b]->¬cD s t p)->¬cD s t s.a/\¬cD s t s.b/\¬cD s t t.a/\¬cD s t t.b:=
  fun h=>⟨h _ (by simp),h _ (by simp),h _ (by simp),h _ (by simp)⟩
 constructor
 ·intro h;rw[hs,ht]at h;cases h
 ·intro p q hp hq hne h1 h2;exact absurd (hone p q hp hq h1 h2) hne
 ·rintro _ _ ⟨p,hp,h⟩;simp only[List.mem_cons,List.not_mem_nil,or_false]at hp;rcases hp with rfl|rfl|rfl|rfl
  ·rw[c1]at h;rw[if_neg (by omega),if_pos (by omega)]
  ·rw[c2]at h;rw[if_neg (by omega),if_pos (by omega)]
  ·rw[c3]at h;rw[if_neg (by omega),if_pos (by omega)]
  ·rw[c4]at h;rw[if_neg (by omega),if_pos (by omega)]
 ·intro _ _ h;rw[hT]at h;rw[if_neg (by omega),if_neg (by omega)]
 ·intro _ h1 h;rw[hT]at h;have h2:=hno h1;rw[c1,c2,c3,c4]at h2;by_cases h3:a<0\/d<a\/b<0\/d<b
  ·rw[if_pos h3]
  ·exfalso;omega
def leV(p q:V):Prop:=p.y<q.y\/(p.y=q.y/\p.x<=q.x)
instance(p q:V):Decidable (leV p q):=by unfold leV;infer_instance
theorem gR(p:V):leV p p:= .inr ⟨rfl,Int.le_refl _⟩
theorem jH{p q r:V}(h1:leV p q)(h2:leV q r):leV p r:=by unfold leV at*;omega
theorem wG{p q:V}(h1:leV p q)(h2:leV q p):p=q:=by
 cases p;cases q;unfold leV at*;simp only[V.mk.injEq];simp only at h1 h2;omega
theorem mN(p q:V):leV p q\/leV q p:=by unfold leV;omega
theorem eS(p q:V):cU p q=true↔¬leV q p:=by unfold cU leV;simp;omega
theorem fN(p q:V):cU p q=false↔leV q p:=by
 rw[<-Bool.not_eq_true,eS];exact Decidable.not_not
theorem mP(p q:V):dJ p q=0↔p=q:=by
 cases p;cases q;unfold dJ eO;simp only[V.mk.injEq];grind
theorem Mu(p q:V):dJ p q= -1↔cU p q=true:=by
 unfold dJ eO cU;simp only[Bool.or_eq_true,Bool.and_eq_true,decide_eq_true_eq,beq_iff_eq];grind
theorem vY(p q:V):dJ p q<0↔cU p q=true:=by
 unfold dJ eO cU;simp only[Bool.or_eq_true,Bool.and_eq_true,decide_eq_true_eq,beq_iff_eq];grind
theorem aLg(s:S):leV (loS s) s.a/\leV (loS s) s.b/\leV s.a (hiS s)/\leV s.b (hiS s):=by
 unfold loS hiS;cases h:cU s.b s.a
 ·have:=(fN _ _).1 h;simp[this,gR]
 ·have h1:=(eS _ _).1 h;have h2:leV s.b s.a:=(mN s.b s.a).elim id (fun h=>absurd h h1)
  simp[h2,gR]
theorem Tz(s:S):(loS s=s.a/\hiS s=s.b)\/(loS s=s.b/\hiS s=s.a):=by
 unfold loS hiS;cases cU s.b s.a<;>simp
theorem My(s:S)(p:V)(hne:s.a≠s.b)(hc:cross (sub s.b s.a) (sub p s.a)=0):lO s p=true↔(leV (loS s) p/\leV p (hiS s)):=by
 simp only[cross,sub]at hc;by_cases hy:s.b.y=s.a.y
 ·have hx:s.b.x≠s.a.x:=by
   intro hx;apply hne;cases hsa:s.a;cases hsb:s.b;simp only[hsa,hsb]at hx hy;simp[hx,hy]
  have hpy:p.y=s.a.y:=by
   have h0:s.b.y-s.a.y=0:=by omega
   rw[h0]at hc;have:(s.b.x-s.a.x)*(p.y-s.a.y)=0:=by omega
   rcases Int.mul_eq_zero.1 this with h|h<;>omega
  unfold loS hiS;cases h:cU s.b s.a
  ·have h1:=(fN _ _).1 h;simp only[lO,leV,Bool.and_eq_true,decide_eq_true_eq]at*;simp only[Bool.false_eq_true,if_false];clear hc;omega
  ·have h1:=(eS _ _).1 h;simp only[lO,leV,Bool.and_eq_true,decide_eq_true_eq]at*;simp only[if_true];clear hc;omega
 ·have hxy:p.y=s.a.y->p.x=s.a.x:=by
   intro h;have h0:p.y-s.a.y=0:=by omega
   rw[h0]at hc;have:(s.b.y-s.a.y)*(p.x-s.a.x)=0:=by omega
   rcases Int.mul_eq_zero.1 this with h|h<;>omega
  have hxz:p.y=s.b.y->p.x=s.b.x:=by
   intro h;rw[h]at hc;have:(s.b.y-s.a.y)*(p.x-s.b.x)=0:=by grind
   rcases Int.mul_eq_zero.1 this with h|h<;>omega
  rcases Int.lt_or_gt_of_ne hy with h|h
  ·have hb:=kN s p (s.a.y-s.b.y) (s.a.y-p.y) (by omega) (by grind) (by grind) hne
   rw[hb];have h1:cU s.b s.a=true:=by rw[eS];unfold leV;omega
   unfold loS hiS;rw[h1];simp only[if_true,leV];clear hb hc hne;omega
  ·have hb:=kN s p (s.b.y-s.a.y) (p.y-s.a.y) (by omega) (by grind) (by grind) hne
   rw[hb];have h1:cU s.b s.a=false:=by rw[fN];unfold leV;omega
   unfold loS hiS;rw[h1];simp only[Bool.false_eq_true,if_false,leV];clear hb hc hne;omega
theorem nY{s:S}(h:s.a=s.b){p:V}(hp:lO s p=true):p=s.a:=by
 cases hsa:s.a;cases hsb:s.b;cases p;simp only[lO,hsa,hsb,V.mk.injEq,Bool.and_eq_true,decide_eq_true_eq]at*;omega
theorem zQ(u v w:V)(h1:cross u v=0)(h2:cross v w=0)(hv:v≠⟨0,0⟩):cross u w=0:=by
 simp only[cross]at*;by_cases hx:v.x=0
 ·have hy:v.y≠0:=by intro hy;apply hv;cases v;simp at hx hy;simp[hx,hy]
  have:v.y*(u.x*w.y-u.y*w.x)=0:=by grind
  rcases Int.mul_eq_zero.1 this with h|h
  ·exact absurd h hy
  ·exact h
 ·have:v.x*(u.x*w.y-u.y*w.x)=0:=by grind
  rcases Int.mul_eq_zero.1 this with h|h
  ·exact absurd h hx
  ·exact h
theorem Zn{p q:V}(h:p≠q):sub q p≠⟨0,0⟩:=by
 intro h';apply h;cases p;cases q;simp only[sub,V.mk.injEq]at*;omega
theorem vV(s t:S):MeetIs s t (dF s t):=by
 unfold dF;by_cases hv:(bL s&&bL t)=true
 ·have hs:bL s=true:=by simp at hv;exact hv.1
  have ht:bL t=true:=by simp at hv;exact hv.2
  rw[if_neg (by rw[hv];simp)]
  by_cases hd:cross (sub s.b s.a) (sub t.b t.a)≠0
  ·rw[if_pos hd];exact aAZ s t hs ht hd
  ·rw[if_neg hd];have hd0:cross (sub s.b s.a) (sub t.b t.a)=0:=by omega
   have hnv:∀k,(bL s&&bL t)=false->k=(0:Int):=by intro k h;rw[hv]at h;cases h
   have hside:¬(cP s.a s.b t.a*cP s.a s.b t.b<0/\cP t.a t.b s.a*cP t.a t.b s.b<0):=by
    rintro⟨h,_⟩;unfold cP at h;rw[rM]at h;have e:cross (sub s.b s.a) (sub t.b s.a)=cross (sub s.b s.a) (sub t.a s.a)+cross (sub s.b s.a) (sub t.b t.a):=by simp only[cross,sub];grind
    omega
   have allone:∀z,(∀p,p∈[s.a,s.b,t.a,t.b]->cD s t p->p=z)->cD s t z->z∈[s.a,s.b,t.a,t.b]->MeetIs s t 1:=by
    intro z hz hzo hzm;refine⟨hnv 1,fun p q hp hq hne h1 h2=>absurd ((hz p hp h1).trans (hz q hq h2).symm) hne,fun _ _ _=>rfl,fun _ h=>absurd hzo (h z hzm),fun _ h=>absurd hzo (h z hzm)⟩
   have nothing:(∀p,p∈[s.a,s.b,t.a,t.b]->¬cD s t p)->MeetIs s t 0:=by
    intro h;exact⟨fun _=>rfl,fun p _ hp _ _ h1 _=>absurd h1 (h p hp),fun _ _ ⟨p,hp,h1⟩=>absurd h1 (h p hp),fun _ _ h1=>absurd h1 hside,fun _ _ _=>rfl⟩
   by_cases h1:s.a=s.b/\onS t s.a=true
   ·rw[if_pos h1];exact allone s.a (fun p _ h=>nY h1.1 ((eZ hs).1 h.1).1) ⟨jM hs,h1.2⟩ (by simp)
   ·rw[if_neg h1];by_cases h2:t.a=t.b/\onS s t.a=true
    ·rw[if_pos h2];exact allone t.a (fun p _ h=>nY h2.1 ((eZ ht).1 h.2).1) ⟨h2.2,jM ht⟩ (by simp)
    ·rw[if_neg h2];by_cases h3:s.a=s.b\/t.a=t.b\/cP s.a s.b t.a≠0
     ·rw[if_pos h3];apply nothing;rintro p hp ⟨hps,hpt⟩;by_cases hsd:s.a=s.b
      ·have:=nY hsd ((eZ hs).1 hps).1;rw[this]at hpt;exact h1 ⟨hsd,hpt⟩
      ·by_cases htd:t.a=t.b
       ·have:=nY htd ((eZ ht).1 hpt).1;rw[this]at hps;exact h2 ⟨htd,hps⟩
       ·have h4:cP s.a s.b t.a≠0:=by
         rcases h3 with h|h|h
         ·exact absurd h hsd
         ·exact absurd h htd
         ·exact h
        have c1:=((eZ hs).1 hps).2;have c2:=((eZ ht).1 hpt).2;have hv0:=Zn htd;have c3:=zQ _ _ _ hd0 c2 hv0;apply h4;unfold cP;rw[kT];have e:cross (sub s.b s.a) (sub t.a s.a)=cross (sub s.b s.a) (sub p s.a)-cross (sub s.b s.a) (sub p t.a):=by simp only[cross,sub];grind
        omega
     ·rw[if_neg h3];have hsd:s.a≠s.b:=fun h=>h3 (.inl h)
      have htd:t.a≠t.b:=fun h=>h3 (.inr (.inl h))
      have hta:cross (sub s.b s.a) (sub t.a s.a)=0:=by
       have:cP s.a s.b t.a=0:=Decidable.byContradiction fun h=>h3 (.inr (.inr h))
       unfold cP at this;rwa[kT]at this
      have hl1:∀p,p∈[s.a,s.b,t.a,t.b]->cross (sub s.b s.a) (sub p s.a)=0:=by
       intro p hp;simp only[List.mem_cons,List.not_mem_nil,or_false]at hp;rcases hp with rfl|rfl|rfl|rfl
       ·simp[cross,sub]
       ·simp only[cross];grind
       ·exact hta
       ·have e:cross (sub s.b s.a) (sub t.b s.a)=cross (sub s.b s.a) (sub t.a s.a)+cross (sub s.b s.a) (sub t.b t.a):=by simp only[cross,sub];grind
        omega
      have hl2:∀p,p∈[s.a,s.b,t.a,t.b]->cross (sub t.b t.a) (sub p t.a)=0:=by
       intro p hp;have h5:=hl1 p hp;have e:cross (sub s.b s.a) (sub p t.a)=cross (sub s.b s.a) (sub p s.a)-cross (sub s.b s.a) (sub t.a s.a):=by simp only[cross,sub];grind
       have h6:cross (sub s.b s.a) (sub p t.a)=0:=by omega
       have h7:cross (sub t.b t.a) (sub s.b s.a)=0:=by
        have:cross (sub t.b t.a) (sub s.b s.a)= -cross (sub s.b s.a) (sub t.b t.a):=by simp only[cross,sub];grind
        omega
       exact zQ _ _ _ h7 h6 (Zn hsd)
      have hlo:leV (loS s) (cL s t)/\leV (loS t) (cL s t)/\(cL s t=loS s\/cL s t=loS t):=by
       unfold cL;cases h:cU (loS s) (loS t)
       ·have:=(fN _ _).1 h;simp[this,gR]
       ·have h':=(eS _ _).1 h;have:leV (loS s) (loS t):=(mN _ _).elim id (fun h=>absurd h h')
        simp[this,gR]
      have hhi:leV (cT s t) (hiS s)/\leV (cT s t) (hiS t)/\(cT s t=hiS s\/cT s t=hiS t):=by
       unfold cT;cases h:cU (hiS t) (hiS s)
       ·have:=(fN _ _).1 h;simp[this,gR]
       ·have h':=(eS _ _).1 h;have:leV (hiS t) (hiS s):=(mN _ _).elim id (fun h=>absurd h h')
        simp[this,gR]
      have hmem:∀p,(p=loS s\/p=hiS s\/p=loS t\/p=hiS t)->p∈[s.a,s.b,t.a,t.b] :=by
       intro p h;have h5:=Tz s;have h6:=Tz t;simp only[List.mem_cons,List.not_mem_nil,or_false];grind
      have hon:∀p,p∈[s.a,s.b,t.a,t.b]->(cD s t p↔leV (cL s t) p/\leV p (cT s t)):=by
       intro p hp;unfold cD;rw[eZ hs,eZ ht,My s p hsd (hl1 p hp),My t p htd (hl2 p hp)];constructor
       ·rintro⟨⟨⟨a1,a2⟩,_⟩,⟨b1,b2⟩,_⟩;refine⟨?_,?_⟩
        ·rcases hlo.2.2 with h|h<;>rw[h] <;>assumption
        ·rcases hhi.2.2 with h|h<;>rw[h] <;>assumption
       ·rintro⟨a1,a2⟩;exact⟨⟨⟨jH hlo.1 a1,jH a2 hhi.1⟩,hl1 p hp⟩,⟨jH hlo.2.1 a1,jH a2 hhi.2.1⟩,hl2 p hp⟩
      have mlo:cL s t∈[s.a,s.b,t.a,t.b] :=hmem _ (by rcases hlo.2.2 with h|h<;>simp[h])
      have mhi:cT s t∈[s.a,s.b,t.a,t.b] :=hmem _ (by rcases hhi.2.2 with h|h<;>simp[h])
      by_cases h5:dJ (cL s t) (cT s t)=0
      ·rw[if_pos h5];have e:=(mP _ _).1 h5;refine allone (cL s t) ?_ ((hon _ mlo).2 ⟨gR _,by rw[e];exact gR _⟩) mlo
       intro p hp h;have h6:=(hon p hp).1 h;rw[<-e]at h6;exact wG h6.2 h6.1
      ·rw[if_neg h5];by_cases h6:dJ (cL s t) (cT s t)= -1
       ·rw[if_pos h6];have h7:=(eS _ _).1 ((Mu _ _).1 h6);have h8:leV (cL s t) (cT s t):=(mN _ _).elim id (fun h=>absurd h h7)
        have o1:=(hon _ mlo).2 ⟨gR _,h8⟩;have o2:=(hon _ mhi).2 ⟨h8,gR _⟩;have hne:cL s t≠cT s t:=fun h=>h5 ((mP _ _).2 h)
        exact⟨fun h=>absurd h (by rw[hv];simp),fun _ _ _ _ _ _ _=>rfl,fun _ h _=>absurd (h _ _ mlo mhi o1 o2) hne,fun _ h=>absurd o1 (h _ mlo),fun _ h=>absurd o1 (h _ mlo)⟩
       ·rw[if_neg h6];apply nothing;intro p hp h;have h7:=(hon p hp).1 h;have h8:=jH h7.1 h7.2;have h9:¬cU (cL s t) (cT s t)=true:=fun h=>h6 ((Mu _ _).2 h)
        rw[eS]at h9;exact h5 ((mP _ _).2 (wG h8 (Decidable.not_not.1 h9)))
 ·have hv':(bL s&&bL t)=false:=by simpa using hv
  rw[if_pos (by rw[hv'];rfl)]
  have hv3:¬(bL s&&bL t)=true:=by rw[hv'];simp
  refine⟨fun _=>rfl,fun p q _ _ _ h1 _=> ?_,fun h=>absurd h hv3,fun h=>absurd h hv3,fun h=>absurd h hv3⟩
  exfalso;apply hv3;obtain⟨h1,h2⟩:=h1;unfold onS at h1 h2;simp only[Bool.and_eq_true]at h1 h2|-;exact⟨h1.1.1,h2.1.1⟩
def Ee:List V->V->List V
 |[],p=>[p]
 |q::r,p=>if cU q p then q::Ee r p else if q=p then q::r else p::q::r
def sH(l:List V):List V:=l.foldl Ee []
theorem Lz(l:List V)(p x:V):x∈Ee l p↔x=p\/x∈l:=by
 induction l with
 |nil=>simp[Ee]
 |cons q r ih=>
  unfold Ee;split
  ·simp only[List.mem_cons,ih];grind
  ·split
   ·rename_i h;subst h;simp
   ·simp only[List.mem_cons]
theorem Dz(l acc:List V)(x:V):x∈l.foldl Ee acc↔x∈acc\/x∈l:=by
 induction l generalizing acc with
 |nil=>simp
 |cons q r ih=>rw[List.foldl_cons,ih,Lz];simp only[List.mem_cons];grind
theorem Nr(l:List V)(x:V):x∈sH l↔x∈l:=by unfold sH;rw[Dz];simp
theorem zK{p q r:V}(h1:cU p q=true)(h2:cU q r=true):cU p r=true:=by
 unfold cU at*;simp only[Bool.or_eq_true,Bool.and_eq_true,decide_eq_true_eq,beq_iff_eq]at*;omega
theorem wU(p:V):cU p p=false:=by unfold cU;simp
theorem Wj{p q:V}(h1:cU p q=false)(h2:p≠q):cU q p=true:=by
 rw[eS];intro h;exact h2 (wG h ((fN _ _).1 h1))
theorem Nv(l:List V)(p:V)(h:l.Pairwise (fun a b=>cU a b=true)):(Ee l p).Pairwise (fun a b=>cU a b=true):=by
 induction l with
 |nil=>simp[Ee]
 |cons q r ih=>
  rw[List.pairwise_cons]at h;unfold Ee;split
  ·rename_i hq;rw[List.pairwise_cons];refine⟨?_,ih h.2⟩;intro x hx;rcases(Lz _ _ _).1 hx with rfl|hx
   ·exact hq
   ·exact h.1 x hx
  ·rename_i hq;split
   ·rw[List.pairwise_cons];exact h
   ·rename_i hne;have hpq:=Wj (by simpa using hq) hne
    rw[List.pairwise_cons,List.pairwise_cons];refine⟨?_,h⟩;intro x hx;rcases List.mem_cons.1 hx with rfl|hx
    ·exact hpq
    ·exact zK hpq (h.1 x hx)
theorem xA(l acc:List V)(h:acc.Pairwise (fun a b=>cU a b=true)):(l.foldl Ee acc).Pairwise (fun a b=>cU a b=true):=by
 induction l generalizing acc with
 |nil=>exact h
 |cons q r ih=>exact ih _ (Nv acc q h)
theorem rY(l:List V):(sH l).Pairwise (fun a b=>cU a b=true):=xA l [] List.Pairwise.nil
def ends(s t:S):List V:=[s.a,s.b,t.a,t.b]
def iQ(s t:S):List V:=sH ((ends s t).filter (fun p=>onS s p&&onS t p))
theorem rS(s t:S)(p:V):p∈iQ s t↔p∈ends s t/\cD s t p:=by
 unfold iQ cD;rw[Nr,List.mem_filter];simp
def Kp(s:S)(p:V):Int:=if !(bL s)|| !(bG p 4000)then 0 else cP s.a s.b p
def gQ(s t:S):Int:=
 if !(bL s&&bL t)then 0
 else if 1<(iQ s t).length then 3
 else if(iQ s t).length=1 then 1
 else if Kp s t.a*Kp s t.b<0/\Kp t s.a*Kp t s.b<0 then 2
 else 0
theorem sJ(s t:S):dF s t=gQ s t:=by
 have h:=vV s t;obtain⟨k,hk⟩:∃k,k=dF s t:=⟨_,rfl⟩;rw[<-hk]at h|-;clear hk;unfold gQ;cases hv:(bL s&&bL t)with
 |false=>simp[h.none hv]
 |true=>
  have hs:bL s=true:=by simp at hv;exact hv.1
  have ht:bL t=true:=by simp at hv;exact hv.2
  have ws:=hs;have wt:=ht;unfold bL at ws wt;simp only[Bool.and_eq_true]at ws wt;simp only[Bool.not_true,Bool.false_eq_true,if_false,Kp,hs,ht,ws,wt,Bool.or_self];have hp:=rY ((ends s t).filter (fun p=>onS s p&&onS t p))
  have hm:=rS s t;rw[show sH ((ends s t).filter (fun p=>onS s p&&onS t p))=iQ s t from rfl]at hp
  generalize iQ s t=l at hp hm;match l,hp,hm with
  |[],_,hm=>
   have hno:∀p,p∈[s.a,s.b,t.a,t.b]->¬cD s t p:=fun p hp ho=>by have:=(hm p).2 ⟨hp,ho⟩;cases this
   simp only[List.length_nil];rw[if_neg (by omega),if_neg (by omega)]
   by_cases hc:cP s.a s.b t.a*cP s.a s.b t.b<0/\cP t.a t.b s.a*cP t.a t.b s.b<0
   ·rw[if_pos hc];exact h.cross hv hno hc
   ·rw[if_neg hc];exact h.else_ hv hno hc
  |[z],_,hm=>
   simp only[List.length_singleton];rw[if_neg (by omega),if_pos trivial]
   have hz:=(hm z).1 (by simp)
   refine h.touch hv ?_ ⟨z,hz⟩;intro p q hp hq h1 h2;have e1:=(hm p).2 ⟨hp,h1⟩;have e2:=(hm q).2 ⟨hq,h2⟩;simp at e1 e2;rw[e1,e2]
  |z::y::r,hp,hm=>
   simp only[List.length_cons];rw[if_pos (by omega)]
   have hz:=(hm z).1 (by simp)
   have hy:=(hm y).1 (by simp)
   refine h.over z y hz.1 hy.1 ?_ hz.2 hy.2;intro e;rw[List.pairwise_cons]at hp;have:=hp.1 y (by simp)
   rw[e,wU]at this;cases this
end Go.Proofs.YtdaeofhdgabhjaaGreat.Geo
namespace Go.Proofs.YtdaeofhdgabhjaaGreat.Geo
abbrev aH:=List V
def nth(r:aH)(i:Nat):V:=r.getD i default
def nxt(r:aH)(i:Nat):V:=nth r ((i+1) % r.length)
def prv(r:aH)(i:Nat):V:=nth r ((i+r.length-1) % r.length)
def dB(r:aH)(i:Nat):S:=⟨nth r i,nxt r i⟩
def aD(r:aH):List S:=if r.length<2 then []else(List.range r.length).map (dB r)
def eL(r:aH):Int:=((List.range r.length).map fun i=>cross (nth r i) (nxt r i)).sum
def near(r:aH):Bool:=r.all fun v=>bG v 2000
def cI(r:aH):Bool:=
 decide (3<=r.length)&&decide (r.length<=40)&&near r&&decide (0<eL r)&&
 ((List.range r.length).all fun i=>cP (prv r i) (nth r i) (nxt r i) !=0)&&
 ((List.range r.length).all fun i=>(List.range r.length).all fun k=>decide (k<=i)||k==i+1||(i==0&&k==r.length-1)||dF (dB r i) (dB r k)==0)
def rB(r:aH):Bool:=
 decide (3<=r.length)&&decide (r.length<=40)&&near r&&
 ((List.range r.length).all fun i=>cP (nth r i) (nth r ((i+1) % r.length)) (nth r ((i+2) % r.length)) !=0)&&
 ((List.range r.length).all fun i=>(List.range r.length).all fun k=>decide (k<=i)||
   (if k=i+1\/(i=0/\k=r.length-1)then gQ (dB r i) (dB r k)==1 else gQ (dB r i) (dB r k)==0))&&
 decide (0<eL r)
theorem Ky(a b c:V):cP a b c=cP b c a:=by
 unfold cP;congr 1;simp only[cross,sub];grind
theorem Mb(s t:S)(hs:bL s=true)(ht:bL t=true)(he:s.b=t.a)(hn:cP s.a s.b t.b≠0):dF s t=1:=by
 have h:=vV s t;have hb:cD s t s.b:=⟨qE hs,by rw[he];exact jM ht⟩
 refine h.touch (by rw[hs,ht];rfl) ?_ ⟨s.b,by simp,hb⟩
 have key:∀p,p∈[s.a,s.b,t.a,t.b]->cD s t p->p=s.b:=by
  intro p hp ho;simp only[List.mem_cons,List.not_mem_nil,or_false]at hp;rcases hp with rfl|rfl|rfl|rfl
  ·exfalso;apply hn;have:=((eZ ht).1 ho.2).2;rw[Ky];unfold cP;rw[kT,he];exact this
  ·rfl
  ·exact he.symm
  ·exfalso;apply hn;have:=((eZ hs).1 ho.1).2;unfold cP;rw[kT];exact this
 intro p q hp hq h1 h2;rw[key p hp h1,key q hq h2]
theorem pF(s t:S):dF s t=dF t s:=by
 have h1:=vV s t;have h2:=vV t s;have hmem:∀p,p∈[s.a,s.b,t.a,t.b] ↔p∈[t.a,t.b,s.a,s.b] :=by intro p;simp only[List.mem_cons,List.not_mem_nil,or_false];grind
 have hob:∀p,cD s t p↔cD t s p:=fun p=>And.comm
 cases hv:(bL s&&bL t)with
 |false=>rw[h1.none hv,h2.none (by rw[Bool.and_comm];exact hv)]
 |true=>
  have hv':(bL t&&bL s)=true:=by rw[Bool.and_comm];exact hv
  by_cases hx:∃p,p∈[s.a,s.b,t.a,t.b]/\cD s t p
  ·by_cases hu:∀p q,p∈[s.a,s.b,t.a,t.b]->q∈[s.a,s.b,t.a,t.b]->cD s t p->cD s t q->p=q
   ·rw[h1.touch hv hu hx,h2.touch hv' (fun p q hp hq a b=>hu p q ((hmem p).2 hp) ((hmem q).2 hq) ((hob p).2 a) ((hob q).2 b))]
    obtain⟨p,hp,ho⟩:=hx;exact⟨p,(hmem p).1 hp,(hob p).1 ho⟩
   ·have:∃p q,p∈[s.a,s.b,t.a,t.b]/\q∈[s.a,s.b,t.a,t.b]/\p≠q/\cD s t p/\cD s t q:=by
     apply Classical.byContradiction;intro hno;apply hu;intro p q hp hq a b;apply Classical.byContradiction;intro hne;exact hno ⟨p,q,hp,hq,hne,a,b⟩
    obtain⟨p,q,hp,hq,hne,a,b⟩:=this;rw[h1.over p q hp hq hne a b,h2.over p q ((hmem p).1 hp) ((hmem q).1 hq) hne ((hob p).1 a) ((hob q).1 b)]
  ·have hno:∀p,p∈[s.a,s.b,t.a,t.b]->¬cD s t p:=fun p hp ho=>hx ⟨p,hp,ho⟩
   have hno':∀p,p∈[t.a,t.b,s.a,s.b]->¬cD t s p:=fun p hp ho=>hno p ((hmem p).2 hp) ((hob p).2 ho)
   by_cases hc:cP s.a s.b t.a*cP s.a s.b t.b<0/\cP t.a t.b s.a*cP t.a t.b s.b<0
   ·rw[h1.cross hv hno hc,h2.cross hv' hno' ⟨hc.2,hc.1⟩]
   ·rw[h1.else_ hv hno hc,h2.else_ hv' hno' (fun h=>hc ⟨h.2,h.1⟩)]
theorem kZ{v:V}{m n:Int}(h:bG v m=true)(hmn:m<=n):bG v n=true:=by
 unfold bG at*;simp only[Bool.and_eq_true,decide_eq_true_eq]at*;omega
theorem rJ{r:aH}(h:near r=true)(i:Nat)(hi:i<r.length):bG (nth r i) 2000=true:=by
 unfold near at h;rw[List.all_eq_true]at h;unfold nth;rw[List.getD_eq_getElem?_getD,List.getElem?_eq_getElem hi];exact h _ (List.getElem_mem hi)
theorem eR{r:aH}(h:near r=true)(i:Nat)(hi:i<r.length):bL (dB r i)=true:=by
 unfold bL dB nxt;have h2:(i+1) % r.length<r.length:=Nat.mod_lt _ (by omega)
 simp only[Bool.and_eq_true];exact⟨kZ (rJ h i hi) (by omega),kZ (rJ h _ h2) (by omega)⟩
theorem eK{i n:Nat}(h:i<n):i % n=i:=Nat.mod_eq_of_lt h
theorem nA{i n:Nat}(h1:n<=i)(h2:i<2*n):i % n=i-n:=by
 rw[Nat.mod_eq_sub_mod h1,Nat.mod_eq_of_lt (by omega)]
theorem Fq(r:aH)(hn:3<=r.length):
  ((List.range r.length).all fun i=>cP (prv r i) (nth r i) (nxt r i) !=0)=((List.range r.length).all fun i=>cP (nth r i) (nth r ((i+1) % r.length)) (nth r ((i+2) % r.length)) !=0):=by
 rw[Bool.eq_iff_iff,List.all_eq_true,List.all_eq_true];constructor
 ·intro h i hi;have hi:=List.mem_range.1 hi;have:=h ((i+1) % r.length) (List.mem_range.2 (Nat.mod_lt _ (by omega)))
  unfold prv nxt at this;by_cases h1:i+1<r.length
  ·rw[eK h1]at this|-;have e1:(i+1+r.length-1) % r.length=i:=by rw[show i+1+r.length-1=i+r.length from by omega,nA (by omega) (by omega)];omega
   rw[e1]at this;exact this
  ·have e0:i+1=r.length:=by omega
   rw[e0,Nat.mod_self]at this|-;have e1:(0+r.length-1) % r.length=i:=by rw[eK (by omega)];omega
   have e2:(i+2) % r.length=(0+1) % r.length:=by rw[nA (by omega) (by omega),eK (by omega)];omega
   rw[e1]at this;rw[e2];exact this
 ·intro h i hi;have hi:=List.mem_range.1 hi;have:=h ((i+r.length-1) % r.length) (List.mem_range.2 (Nat.mod_lt _ (by omega)))
  unfold prv nxt;by_cases h1:i=0
  ·subst h1;have e1:(0+r.length-1) % r.length=r.length-1:=by rw[eK (by omega)];omega
   rw[e1]at this|-;have e2:(r.length-1+1) % r.length=0:=by rw[show r.length-1+1=r.length from by omega,Nat.mod_self]
   have e3:(r.length-1+2) % r.length=(0+1) % r.length:=by rw[nA (by omega) (by omega),eK (by omega)];omega
   rw[e2,e3]at this;exact this
  ·have e1:(i+r.length-1) % r.length=i-1:=by rw[nA (by omega) (by omega)];omega
   rw[e1]at this|-;have e2:(i-1+1) % r.length=i:=by rw[show i-1+1=i from by omega];exact eK hi
   have e3:i-1+2=i+1:=by omega
   rw[e2,e3]at this;exact this
theorem oR(r:aH):cI r=rB r:=by
 unfold cI rB;by_cases h3:3<=r.length
 case neg=>simp[h3]
 by_cases hn:near r=true
 case neg=>simp[hn]
 rw[Fq r h3];cases ht:((List.range r.length).all fun i=>cP (nth r i) (nth r ((i+1) % r.length)) (nth r ((i+2) % r.length)) !=0)with
 |false=>simp
 |true=>
  have hpairs:((List.range r.length).all fun i=>(List.range r.length).all fun k=>decide (k<=i)||k==i+1||(i==0&&k==r.length-1)||dF (dB r i) (dB r k)==0)=
    ((List.range r.length).all fun i=>(List.range r.length).all fun k=>decide (k<=i)||
      (if k=i+1\/(i=0/\k=r.length-1)then gQ (dB r i) (dB r k)==1 else gQ (dB r i) (dB r k)==0)):=by
   have hturn:∀i,i<r.length->cP (nth r i) (nth r ((i+1) % r.length)) (nth r ((i+2) % r.length))≠0:=by
    intro i hi;rw[List.all_eq_true]at ht;have:=ht i (List.mem_range.2 hi);simpa using this
   have hpt:∀i k,i<r.length->k<r.length->(decide (k<=i)||k==i+1||(i==0&&k==r.length-1)||dF (dB r i) (dB r k)==0)=(decide (k<=i)||
     (if k=i+1\/(i=0/\k=r.length-1)then gQ (dB r i) (dB r k)==1 else gQ (dB r i) (dB r k)==0)):=by
    intro i k hi hk;rw[<-sJ];by_cases hki:k<=i
    ·simp[hki]
    ·by_cases h1:k=i+1
     ·subst h1;have:=Mb (dB r i) (dB r (i+1)) (eR hn i hi) (eR hn _ hk) (by unfold dB nxt;simp[eK hk]) (by
       have:=hturn i hi;unfold dB nxt;exact this)
      simp[this]
     ·by_cases h2:i=0/\k=r.length-1
      ·obtain⟨rfl,rfl⟩:=h2;have e1:(r.length-1+1) % r.length=0:=by rw[show r.length-1+1=r.length from by omega,Nat.mod_self]
       have:=Mb (dB r (r.length-1)) (dB r 0) (eR hn _ hk) (eR hn _ hi) (by unfold dB nxt;simp only[e1]) (by
        have:=hturn (r.length-1) hk;have e3:(r.length-1+2) % r.length=(0+1) % r.length:=by rw[nA (by omega) (by omega),eK (by omega)];omega
        rw[e1,e3]at this;unfold dB nxt;simp only[e1];exact this)
       rw[pF]at this;simp[this]
      ·have h3:(i==0&&k==r.length-1)=false:=by
        rw[<-Bool.not_eq_true,Bool.and_eq_true,beq_iff_eq,beq_iff_eq];exact h2
       have h4:(k==i+1)=false:=by rw[beq_eq_false_iff_ne];exact h1
       rw[if_neg (by omega),h3,h4]
       simp
   rw[Bool.eq_iff_iff];simp only[List.all_eq_true,List.mem_range];constructor
   ·intro h i hi k hk;rw[<-hpt i k hi hk];exact h i hi k hk
   ·intro h i hi k hk;rw[hpt i k hi hk];exact h i hi k hk
  rw[hpairs];simp only[Bool.and_true];grind
structure Pt where
 x:Int
 y:Int
 den:Int
deriving DecidableEq,Inhabited
def toV(p:Pt)(v:V):V:=⟨p.x-v.x*p.den,p.y-v.y*p.den⟩
def nK(s:S)(p:Pt):Int:=cross (sub s.b s.a) (toV p s.a)
def onP(s:S)(p:Pt):Bool:=
 nK s p==0&&(decide (min (toV p s.a).x (toV p s.b).x<=0)&&decide (0<=max (toV p s.a).x (toV p s.b).x))&&(decide (min (toV p s.a).y (toV p s.b).y<=0)&&decide (0<=max (toV p s.a).y (toV p s.b).y))
def qO(s:S)(p:Pt):Bool:=
 (decide (0<=(toV p s.a).y) !=decide (0<=(toV p s.b).y))&&(decide (0<=(toV p s.a).y)==decide (0<nK s p))
def onR(s:S)(p:Pt):Bool:=
 (decide (min s.a.x s.b.x*p.den<=p.x)&&decide (p.x<=max s.a.x s.b.x*p.den)&&decide (min s.a.y s.b.y*p.den<=p.y)&&decide (p.y<=max s.a.y s.b.y*p.den))&&sgn (nK s p)==0
def aEI(s:S)(p:Pt):Bool:=
 ((decide (s.a.y*p.den<=p.y)&&decide (p.y<s.b.y*p.den))&&decide (0<sgn (nK s p)))||((decide (s.b.y*p.den<=p.y)&&decide (p.y<s.a.y*p.den))&&decide (sgn (nK s p)<0))
theorem Tv(a b d:Int)(h:0<=d):min a b*d=min (a*d) (b*d):=by
 rcases Int.le_total a b with h1|h1
 ·rw[Int.min_eq_left h1,Int.min_eq_left (Int.mul_le_mul_of_nonneg_right h1 h)]
 ·rw[Int.min_eq_right h1,Int.min_eq_right (Int.mul_le_mul_of_nonneg_right h1 h)]
theorem Tw(a b d:Int)(h:0<=d):max a b*d=max (a*d) (b*d):=by
 rcases Int.le_total a b with h1|h1
 ·rw[Int.max_eq_right h1,Int.max_eq_right (Int.mul_le_mul_of_nonneg_right h1 h)]
 ·rw[Int.max_eq_left h1,Int.max_eq_left (Int.mul_le_mul_of_nonneg_right h1 h)]
theorem aJf(s:S)(p:Pt)(h:0<p.den):onP s p=onR s p:=by
 unfold onP onR toV;rw[Tv _ _ _ (by omega),Tw _ _ _ (by omega),Tv _ _ _ (by omega),Tw _ _ _ (by omega),Bool.eq_iff_iff]
 simp only[Bool.and_eq_true,decide_eq_true_eq,beq_iff_eq,kT];constructor
 ·rintro⟨⟨h1,h2,h3⟩,h4,h5⟩;exact⟨⟨⟨⟨by omega,by omega⟩,by omega⟩,by omega⟩,h1⟩
 ·rintro⟨⟨⟨⟨h1,h2⟩,h3⟩,h4⟩,h5⟩;exact⟨⟨h5,by omega,by omega⟩,by omega,by omega⟩
theorem Qp(s:S)(p:Pt)(h0:nK s p=0)(ha:(toV p s.a).y<0)(hb:0<=(toV p s.b).y)(_hd:0<p.den):onP s p=true:=by
 have e:nK s p*p.den=(toV p s.a).x*(toV p s.b).y-(toV p s.a).y*(toV p s.b).x:=by unfold nK toV cross sub;grind
 rw[h0,Int.zero_mul]at e;unfold onP;rw[h0];generalize (toV p s.a).x=ax at*;generalize (toV p s.a).y=ay at*;generalize (toV p s.b).x=bx at*;generalize (toV p s.b).y=b_y at*;simp only[BEq.rfl,Bool.true_and,Bool.and_eq_true,decide_eq_true_eq];have hx:(min ax bx<=0/\0<=max ax bx):=by
  rcases Int.lt_or_le 0 ax with h1|h1
  ·have h2:bx<=0:=by
    rcases Int.lt_or_le 0 bx with h2|h2
    ·have p1:=Int.mul_neg_of_neg_of_pos ha h2;have p2:=Int.mul_nonneg (show 0<=ax by omega) hb
     omega
    ·exact h2
   omega
  ·rcases Int.lt_or_le ax 0 with h1|h1
   ·have h2:0<=bx:=by
     rcases Int.lt_or_le bx 0 with h2|h2
     ·have p1:=Int.mul_pos_of_neg_of_neg ha h2;have p2:=Int.mul_nonneg (show 0<= -ax by omega) hb
      rw[Int.neg_mul]at p2;omega
     ·exact h2
    omega
   ·omega
 refine⟨hx,by omega,by omega⟩
theorem aFq(s:S)(p:Pt)(h:0<p.den)(ho:onP s p=false):qO s p=aEI s p:=by
 have key:(toV p s.a).y<0->0<=(toV p s.b).y->nK s p≠0:=by
  intro h1 h2 h3;rw[Qp s p h3 h1 h2 h]at ho;cases ho
 unfold qO aEI;rw[Bool.eq_iff_iff];simp only[Bool.and_eq_true,Bool.or_eq_true,decide_eq_true_eq,bne_iff_ne,ne_eq,beq_iff_eq,Ik,aB0,decide_eq_decide];have ey1:(toV p s.a).y=p.y-s.a.y*p.den:=rfl;have ey2:(toV p s.b).y=p.y-s.b.y*p.den:=rfl;generalize (toV p s.a).y=ay at*;generalize (toV p s.b).y=b_y at*;generalize s.a.y*p.den=u at*;generalize s.b.y*p.den=v at*;generalize nK s p=q at*;by_cases h1:0<=ay
 ·by_cases h2:0<=b_y
  ·simp only[h1,h2];constructor
   ·intro h;exact absurd trivial h.1
   ·rintro(h|h)<;>omega
  ·constructor
   ·rintro⟨_,h3⟩;left;exact⟨⟨by omega,by omega⟩,h3.1 h1⟩
   ·rintro(⟨_,h3⟩|h3)
    ·exact⟨by omega,by omega⟩
    ·omega
 ·by_cases h2:0<=b_y
  ·have:=key (by omega) h2
   constructor
   ·rintro⟨_,h3⟩;right;refine⟨⟨by omega,by omega⟩,by omega⟩
   ·rintro(h3|⟨_,h3⟩)
    ·omega
    ·exact⟨by omega,by omega⟩
  ·simp only[h1,h2];constructor
   ·intro h;exact absurd trivial h.1
   ·rintro(h|h)<;>omega
def eX(p:Pt)(m:Int):Bool:=decide (1<=p.den)&&decide (p.den<=134217728)&&bG ⟨p.x,p.y⟩ (m*p.den)
def eH(p:Pt):Bool:=eX p 4000&&(Nat.gcd (Nat.gcd p.x.natAbs p.y.natAbs) p.den.natAbs==1)
def jA(p:Pt):List S->Bool->Int
 |[],ins=>if ins then 2 else 0
 |s::l,ins=>if onP s p then 1 else jA p l (ins !=qO s p)
def Se(p:Pt):List S->Bool->Int
 |[],ins=>if ins then 2 else 0
 |s::l,ins=>if onR s p then 1 else Se p l (ins !=aEI s p)
theorem aB1(p:Pt)(h:0<p.den)(l:List S)(ins:Bool):jA p l ins=Se p l ins:=by
 induction l generalizing ins with
 |nil=>rfl
 |cons s l ih=>
  unfold jA Se;rw[<-aJf s p h];cases ho:onP s p with
  |true=>rfl
  |false=>rw[ih,aFq s p h ho]
def cC(r:aH)(p:Pt):Int:=if !(cI r)|| !(eH p)then 0 else jA p (aD r) false
def oF(r:aH)(p:Pt):Int:=if !(rB r)|| !(eH p)then 0 else Se p (aD r) false
theorem Bo(r:aH)(p:Pt):cC r p=oF r p:=by
 unfold cC oF;rw[oR];cases hp:eH p with
 |false=>simp
 |true=>
  have:0<p.den:=by
   unfold eH eX at hp;simp only[Bool.and_eq_true,decide_eq_true_eq]at hp;omega
  rw[aB1 p this]
def tU(v:V):Pt:=⟨v.x,v.y,1⟩
def dH(r:aH)(v:V):Int:=if !(bG v 4000)then 0 else cC r (tU v)
def Ae(r:aH)(v:V):Int:=if !(bG v 8000)then 0 else oF r (tU v)
theorem Jm(v:V):eH (tU v)=bG v 4000:=by
 unfold eH eX tU bG;simp
theorem sT(r:aH)(v:V):dH r v=Ae r v:=by
 unfold dH Ae;rw[Bo];cases h:bG v 4000 with
 |true=>rw[kZ h (by omega)]
 |false=>
  unfold oF;rw[Jm,h];simp
end Go.Proofs.YtdaeofhdgabhjaaGreat.Geo
namespace Go.Proofs.YtdaeofhdgabhjaaGreat.Geo
structure Shape where
 outer:aH
 holes:List aH
deriving DecidableEq,Inhabited
def aA(s:Shape):List aH:=s.outer::s.holes
def aB(l:List aH)(i:Nat):aH:=l.getD i []
def dY(a b:aH):Bool:=(aD a).all fun x=>(aD b).all fun y=>dF x y==0
def cK(r q:aH)(place:Int):Bool:=r.all fun v=>dH q v==place
def eW(s:Shape):Nat:=((aA s).map List.length).sum
def aM(s:Shape):Bool:=
 decide (s.holes.length<=6)&&(aA s).all cI&&decide (eW s<=80)&&
 ((List.range s.holes.length).all fun i=>cK (aB s.holes i) s.outer 2&&dY (aB s.holes i) s.outer&&
   ((List.range i).all fun k=>dY (aB s.holes i) (aB s.holes k)&&cK (aB s.holes i) (aB s.holes k) 0&&cK (aB s.holes k) (aB s.holes i) 0))
def Hs(a b:aH):Bool:=(aD a).any fun x=>(aD b).any fun y=>gQ x y !=0
def vE(a b:aH):Bool:=a.all fun v=>Ae b v==2
def pY(a b:aH):Bool:=a.any fun v=>Ae b v==2
def fK(s:Shape):Bool:=
 decide (s.holes.length<=6)&&rB s.outer&&
 ((List.range s.holes.length).all fun i=>rB (aB s.holes i)&& !Hs (aB s.holes i) s.outer&&vE (aB s.holes i) s.outer&&
   ((List.range i).all fun k=> !Hs (aB s.holes i) (aB s.holes k)&& !pY (aB s.holes i) (aB s.holes k)&& !pY (aB s.holes k) (aB s.holes i)))&&
 decide (eW s<=80)
theorem Ol(a b:aH):dY a b= !Hs a b:=by
 unfold dY Hs;rw[List.not_any_eq_all_not]
 congr 1;funext x
 rw[List.not_any_eq_all_not]
 congr 1;funext y
 rw[sJ];cases h:(gQ x y==0)<;>simp_all
theorem mE{s t:S}{p:V}(hp:p∈[s.a,s.b,t.a,t.b])(ho:cD s t p):dF s t≠0:=by
 have h:=vV s t;have hv:(bL s&&bL t)=true:=by
  obtain⟨h1,h2⟩:=ho;unfold onS at h1 h2;simp only[Bool.and_eq_true]at h1 h2|-;exact⟨h1.1.1,h2.1.1⟩
 by_cases hu:∀p q,p∈[s.a,s.b,t.a,t.b]->q∈[s.a,s.b,t.a,t.b]->cD s t p->cD s t q->p=q
 ·rw[h.touch hv hu ⟨p,hp,ho⟩];decide
 ·have:∃p q,p∈[s.a,s.b,t.a,t.b]/\q∈[s.a,s.b,t.a,t.b]/\p≠q/\cD s t p/\cD s t q:=by
   apply Classical.byContradiction;intro hno;apply hu;intro p q hp hq a b;apply Classical.byContradiction;intro hne;exact hno ⟨p,q,hp,hq,hne,a,b⟩
  obtain⟨p,q,hp,hq,hne,a,b⟩:=this;rw[h.over p q hp hq hne a b];decide
theorem pD{r:aH}{s:S}:s∈aD r↔2<=r.length/\∃i,i<r.length/\s=dB r i:=by
 unfold aD;split
 ·simp;omega
 ·simp only[List.mem_map,List.mem_range];constructor
  ·rintro⟨i,hi,rfl⟩;exact⟨by omega,i,hi,rfl⟩
  ·rintro⟨_,i,hi,rfl⟩;exact⟨i,hi,rfl⟩
theorem fA{r:aH}{v:V}:v∈r↔∃i,i<r.length/\v=nth r i:=by
 unfold nth;constructor
 ·intro h;obtain⟨i,hi,e⟩:=List.getElem_of_mem h;exact⟨i,hi,by rw[List.getD_eq_getElem?_getD,List.getElem?_eq_getElem hi];exact e.symm⟩
 ·rintro⟨i,hi,rfl⟩;rw[List.getD_eq_getElem?_getD,List.getElem?_eq_getElem hi];exact List.getElem_mem hi
structure VR(r:aH):Prop where
 three:3<=r.length
 most:r.length<=40
 near:near r=true
 eL:0<eL r
 cP:∀i,i<r.length->cP (prv r i) (nth r i) (nxt r i)≠0
 turn':∀i,i<r.length->Geo.cP (nth r i) (nth r ((i+1) % r.length)) (nth r ((i+2) % r.length))≠0
 apart:∀i k,i<k->k<r.length->k≠i+1->¬(i=0/\k=r.length-1)->dF (dB r i) (dB r k)=0
theorem eM(r:aH):cI r=true↔VR r:=by
 constructor
 ·intro h;unfold cI at h;simp only[Bool.and_eq_true,decide_eq_true_eq,List.all_eq_true,List.mem_range]at h;obtain⟨⟨⟨⟨⟨h1,h2⟩,h3⟩,h4⟩,h5⟩,h6⟩:=h;refine⟨h1,h2,h3,h4,fun i hi=>by simpa using h5 i hi,fun i hi=> ?_,fun i k hik hk h7 h8=> ?_⟩
  ·have:=Fq r h1;have e:((List.range r.length).all fun i=>Geo.cP (prv r i) (nth r i) (nxt r i) !=0)=true:=by
    rw[List.all_eq_true];intro i hi;exact h5 i (List.mem_range.1 hi)
   rw[this,List.all_eq_true]at e;simpa using e i (List.mem_range.2 hi)
  ·have:=h6 i (by omega) k hk
   simp only[Bool.or_eq_true,decide_eq_true_eq,beq_iff_eq,Bool.and_eq_true]at this;omega
 ·rintro⟨h1,h2,h3,h4,h5,_,h6⟩;unfold cI;simp only[Bool.and_eq_true,decide_eq_true_eq,List.all_eq_true,List.mem_range];refine⟨⟨⟨⟨⟨h1,h2⟩,h3⟩,h4⟩,fun i hi=>by simpa using h5 i hi⟩,fun i _ k hk=> ?_⟩
  simp only[Bool.or_eq_true,decide_eq_true_eq,beq_iff_eq,Bool.and_eq_true];by_cases c1:k<=i
  ·exact .inl (.inl (.inl c1))
  ·by_cases c2:k=i+1
   ·exact .inl (.inl (.inr c2))
   ·by_cases c3:i=0/\k=r.length-1
    ·exact .inl (.inr c3)
    ·exact .inr (h6 i k (by omega) hk c2 c3)
theorem aAG{p:Pt}{l:List S}{ins:Bool}(h:jA p l ins=1):∃s∈l,onP s p=true:=by
 induction l generalizing ins with
 |nil=>unfold jA at h;split at h<;>omega
 |cons s l ih=>
  unfold jA at h;cases ho:onP s p with
  |true=>exact⟨s,by simp,ho⟩
  |false=>
   rw[ho]at h;obtain⟨x,hx,h2⟩:=ih h;exact⟨x,List.mem_cons_of_mem _ hx,h2⟩
theorem Qf(p:Pt)(l:List S)(ins:Bool):jA p l ins=0\/jA p l ins=1\/jA p l ins=2:=by
 induction l generalizing ins with
 |nil=>unfold jA;split<;>simp
 |cons s l ih=>unfold jA;split;simp;exact ih _
theorem Ek(r:aH)(v:V):dH r v=0\/dH r v=1\/dH r v=2:=by
 unfold dH cC;split
 ·simp
 ·split
  ·simp
  ·exact Qf _ _ _
theorem aAU(s:S)(v:V):onP s (tU v)=true↔(lO s v=true/\cross (sub s.b s.a) (sub v s.a)=0):=by
 unfold onP nK toV tU lO;simp only[Int.mul_one,Bool.and_eq_true,beq_iff_eq,decide_eq_true_eq];rw[show(⟨v.x-s.a.x,v.y-s.a.y⟩:V)=sub v s.a from rfl]
 constructor
 ·rintro⟨⟨h1,h2,h3⟩,h4,h5⟩;exact⟨⟨⟨⟨by omega,by omega⟩,by omega⟩,by omega⟩,h1⟩
 ·rintro⟨⟨⟨⟨h1,h2⟩,h3⟩,h4⟩,h5⟩;exact⟨⟨h5,by omega,by omega⟩,by omega,by omega⟩
theorem Nd{r:aH}{v:V}(h:dH r v=1):∃s∈aD r,onS s v=true:=by
 unfold dH cC at h;split at h
 ·omega
 ·split at h
  ·omega
  ·rename_i h2;obtain⟨s,hs,ho⟩:=aAG h;refine⟨s,hs,?_⟩;have hv:VR r:=by rw[<-eM];simp at h2;exact h2.1
   obtain⟨_,i,hi,rfl⟩:=pD.1 hs;rw[eZ (eR hv.near i hi)];exact(aAU _ _).1 ho
theorem kC{a b:aH}(ha:VR a)(h:dY a b=true){v:V}(hv:v∈a){s:S}(hs:s∈aD b)(ho:onS s v=true):False:=by
 obtain⟨i,hi,rfl⟩:=fA.1 hv;have hm:dB a i∈aD a:=pD.2 ⟨by have:=ha.three;omega,i,hi,rfl⟩
 unfold dY at h;rw[List.all_eq_true]at h;have h1:=h _ hm;rw[List.all_eq_true]at h1;have h2:=h1 _ hs;refine mE (s:=dB a i) (t:=s) (p:=nth a i) (by simp[dB]) ⟨?_,ho⟩ (by simpa using h2)
 exact jM (s:=dB a i) (eR ha.near i hi)
theorem lI(a b:aH):dY a b=dY b a:=by
 unfold dY;rw[Bool.eq_iff_iff];simp only[List.all_eq_true,beq_iff_eq];constructor
 ·intro h y hy x hx;rw[pF];exact h x hx y hy
 ·intro h x hx y hy;rw[pF];exact h y hy x hx
theorem jZ{a b:aH}(ha:VR a)(h:dY a b=true):cK a b 0= !pY a b:=by
 unfold cK pY;rw[List.not_any_eq_all_not,Bool.eq_iff_iff];simp only[List.all_eq_true];constructor
 ·intro h1 v hv;have:=h1 v hv;rw[<-sT];simp only[beq_iff_eq]at this;rw[this];rfl
 ·intro h1 v hv;have:=h1 v hv;rw[<-sT]at this;rcases Ek b v with e|e|e
  ·rw[e];rfl
  ·exfalso;obtain⟨s,hs,ho⟩:=Nd e;exact kC ha h hv hs ho
  ·rw[e]at this;cases this
theorem eI{l:List aH}{i:Nat}(h:i<l.length):aB l i∈l:=by
 unfold aB;rw[List.getD_eq_getElem?_getD,List.getElem?_eq_getElem h];exact List.getElem_mem h
theorem wD{l:List aH}{r:aH}(h:r∈l):∃i,i<l.length/\r=aB l i:=by
 obtain⟨i,hi,e⟩:=List.getElem_of_mem h;exact⟨i,hi,by unfold aB;rw[List.getD_eq_getElem?_getD,List.getElem?_eq_getElem hi];exact e.symm⟩
structure VS(s:Shape):Prop where
 few:s.holes.length<=6
 outer:VR s.outer
 hole:∀i,i<s.holes.length->VR (aB s.holes i)
 corners:eW s<=80
 ins:∀i,i<s.holes.length->cK (aB s.holes i) s.outer 2=true
 apo:∀i,i<s.holes.length->dY (aB s.holes i) s.outer=true
 aph:∀i k,k<i->i<s.holes.length->dY (aB s.holes i) (aB s.holes k)=true
 out1:∀i k,k<i->i<s.holes.length->cK (aB s.holes i) (aB s.holes k) 0=true
 out2:∀i k,k<i->i<s.holes.length->cK (aB s.holes k) (aB s.holes i) 0=true
theorem gX(s:Shape):aM s=true↔VS s:=by
 unfold aM;simp only[Bool.and_eq_true,decide_eq_true_eq,List.all_eq_true,List.mem_range];constructor
 ·rintro⟨⟨⟨h1,h2⟩,h3⟩,h4⟩;exact⟨h1,(eM _).1 (h2 _ (by simp[aA])),fun i hi=>(eM _).1 (h2 _ (by simp[aA];exact .inr (eI hi))),h3,fun i hi=>(h4 i hi).1.1,fun i hi=>(h4 i hi).1.2,fun i k hk hi=>((h4 i hi).2 k hk).1.1,fun i k hk hi=>((h4 i hi).2 k hk).1.2,fun i k hk hi=>((h4 i hi).2 k hk).2⟩
 ·rintro⟨h1,h2,h3,h4,h5,h6,h7,h8,h9⟩;refine⟨⟨⟨h1,?_⟩,h4⟩,fun i hi=>⟨⟨h5 i hi,h6 i hi⟩,fun k hk=>⟨⟨h7 i k hk hi,h8 i k hk hi⟩,h9 i k hk hi⟩⟩⟩
  intro r hr;unfold aA at hr;rcases List.mem_cons.1 hr with rfl|hr
  ·exact(eM _).2 h2
  ·obtain⟨i,hi,rfl⟩:=wD hr;exact(eM _).2 (h3 i hi)
theorem jE(s:Shape):aM s=fK s:=by
 rw[Bool.eq_iff_iff,gX];unfold fK;simp only[Bool.and_eq_true,decide_eq_true_eq,List.all_eq_true,List.mem_range,<-Ol];constructor
 ·rintro⟨h1,h2,h3,h4,h5,h6,h7,h8,h9⟩;refine⟨⟨⟨h1,by rw[<-oR];exact(eM _).2 h2⟩,fun i hi=>⟨⟨⟨by rw[<-oR];exact(eM _).2 (h3 i hi),h6 i hi⟩,?_⟩,fun k hk=>⟨⟨h7 i k hk hi,?_⟩,?_⟩⟩⟩,h4⟩
  ·have:=h5 i hi;unfold cK at this;unfold vE;rw[List.all_eq_true]at this|-;intro v hv;rw[<-sT];exact this v hv
  ·rw[<-jZ (h3 i hi) (h7 i k hk hi)];exact h8 i k hk hi
  ·rw[<-jZ (h3 k (by omega)) (by rw[lI];exact h7 i k hk hi)];exact h9 i k hk hi
 ·rintro⟨⟨⟨h1,h2⟩,h3⟩,h4⟩;have hr:∀i,i<s.holes.length->VR (aB s.holes i):=fun i hi=>by have:=(h3 i hi).1.1.1;rw[<-oR]at this;exact(eM _).1 this
  refine⟨h1,by rw[<-oR]at h2;exact(eM _).1 h2,hr,h4,fun i hi=> ?_,fun i hi=>(h3 i hi).1.1.2,fun i k hk hi=>((h3 i hi).2 k hk).1.1,fun i k hk hi=> ?_,fun i k hk hi=> ?_⟩
  ·have:=(h3 i hi).1.2;unfold vE at this;unfold cK;rw[List.all_eq_true]at this|-;intro v hv;rw[sT];exact this v hv
  ·rw[jZ (hr i hi) ((h3 i hi).2 k hk).1.1];exact((h3 i hi).2 k hk).1.2
  ·rw[jZ (hr k (by omega)) (by rw[lI];exact((h3 i hi).2 k hk).1.1)];exact((h3 i hi).2 k hk).2
end Go.Proofs.YtdaeofhdgabhjaaGreat.Geo
namespace Go.Proofs.YtdaeofhdgabhjaaGreat.Geo
def cN(r:aH):Nat->Nat
 |0=>0
 |n+1=>if cU (nth r n) (nth r (cN r n))then n else cN r n
def bY(r:aH):Nat:=cN r r.length
def fR(r:aH):aH:=r.drop (bY r)++r.take (bY r)
theorem uZ(r:aH)(n:Nat)(h:0<n):cN r n<n:=by
 induction n with
 |zero=>omega
 |succ n ih=>
  unfold cN;split
  ·omega
  ·rcases Nat.eq_zero_or_pos n with rfl|h0
   ·simp[cN]
   ·have:=ih h0;omega
theorem vA(r:aH)(n i:Nat)(hi:i<n):leV (nth r (cN r n)) (nth r i):=by
 induction n with
 |zero=>omega
 |succ n ih=>
  unfold cN;split
  ·rename_i h;have h:=(eS _ _).1 h;have h':leV (nth r n) (nth r (cN r n)):=(mN _ _).elim id (fun x=>absurd x h)
   by_cases e:i=n
   ·subst e;exact gR _
   ·exact jH h' (ih (by omega))
  ·rename_i h;have h:=(fN _ _).1 (by simpa using h)
   by_cases e:i=n
   ·subst e;exact h
   ·exact ih (by omega)
theorem uJ(r:aH)(n i:Nat)(hi:i<cN r n):cU (nth r (cN r n)) (nth r i)=true:=by
 induction n with
 |zero=>simp[cN]at hi
 |succ n ih=>
  unfold cN at hi|-;split
  ·rename_i h;rw[if_pos h]at hi;rw[eS];have h1:=(eS _ _).1 h;intro h2;exact h1 (jH (vA r n i hi) h2)
  ·rename_i h;rw[if_neg h]at hi;exact ih hi
theorem vB{r:aH}(h:0<r.length):bY r<r.length:=uZ r _ h
theorem vK(r:aH):(fR r).Perm r:=by
 unfold fR;refine List.perm_append_comm.trans ?_;rw[List.take_append_drop]
theorem gC(r:aH):(fR r).length=r.length:=(vK r).length_eq
theorem VR.touch{r:aH}(h:VR r){i k:Nat}(hi:i<r.length)(hk:k<r.length)(ho:onS (dB r k) (nth r i)=true):i=k\/i=(k+1) % r.length:=by
 have h3:=h.three;have hb:onS (dB r i) (nth r i)=true:=jM (s:=dB r i) (eR h.near i hi);have hj:(i+r.length-1) % r.length<r.length:=Nat.mod_lt _ (by omega)
 have hje:((i+r.length-1) % r.length+1) % r.length=i:=by
  rw[Nat.mod_add_mod,show i+r.length-1+1=i+r.length from by omega,Nat.add_mod_right,eK hi]
 have hb2:onS (dB r ((i+r.length-1) % r.length)) (nth r i)=true:=by
  have:=qE (s:=dB r ((i+r.length-1) % r.length)) (eR h.near _ hj);unfold dB nxt at this;simp only[hje]at this;unfold dB nxt;rw[hje];exact this
 have meetsE:∀j,j<r.length->onS (dB r j) (nth r i)=true->(nth r i=nth r j\/nth r i=nxt r j)->j=k\/(j+1) % r.length=k\/(k+1) % r.length=j:=by
  intro j hj hoj hend;rcases Nat.lt_trichotomy j k with hlt|he|hgt
  ·by_cases h1:k=j+1
   ·right;left;rw[eK (by omega)];exact h1.symm
   ·by_cases h2:j=0/\k=r.length-1
    ·right;right;rw[h2.2,h2.1,show r.length-1+1=r.length from by omega,Nat.mod_self]
    ·exfalso;have:=h.apart j k hlt hk h1 h2;exact mE (s:=dB r j) (t:=dB r k) (p:=nth r i) (by rcases hend with e|e<;>simp[dB,e]) ⟨hoj,ho⟩ this
  ·exact .inl he
  ·by_cases h1:j=k+1
   ·right;right;rw[eK (by omega)];exact h1.symm
   ·by_cases h2:k=0/\j=r.length-1
    ·right;left;rw[h2.2,h2.1,show r.length-1+1=r.length from by omega,Nat.mod_self]
    ·exfalso;have:=h.apart k j hgt hj h1 h2;exact mE (s:=dB r k) (t:=dB r j) (p:=nth r i) (by rcases hend with e|e<;>simp[dB,e]) ⟨ho,hoj⟩ this
 have c1:=meetsE i hi hb (.inl rfl);rcases c1 with e|e|e
 ·exact .inl e
 ·
  have c2:=meetsE _ hj hb2 (.inr (by unfold nxt;rw[hje]))
  rcases c2 with e2|e2|e2
  ·right;rw[<-e2,hje]
  ·left;rw[hje]at e2;exact e2
  ·
   exfalso;have hk1:(k+1) % r.length=(i+2) % r.length:=by rw[<-e,Nat.mod_add_mod]
   have hn3:r.length=3:=by
    rw[hk1]at e2;by_cases hz:i=0
    ·subst hz;rw[eK (show 0+r.length-1<r.length by omega),eK (show 0+2<r.length by omega)]at e2
     omega
    ·rw[nA (show r.length<=i+r.length-1 by omega) (by omega)]at e2
     by_cases hz2:i+2<r.length
     ·rw[eK hz2]at e2;omega
     ·rw[nA (by omega) (by omega)]at e2;omega
   apply h.turn' i hi;have:=((eZ (eR h.near k hk)).1 ho).2;rw[Ky];unfold Geo.cP;rw[kT];unfold dB nxt at this;simp only at this;rw[e,<-hk1];exact this
 ·exact .inr e.symm
theorem VR.inj{r:aH}(h:VR r){i k:Nat}(hi:i<r.length)(hk:k<r.length)(he:nth r i=nth r k):i=k:=by
 have h3:=h.three;have ho:onS (dB r k) (nth r i)=true:=by rw[he];exact jM (s:=dB r k) (eR h.near k hk)
 rcases h.touch hi hk ho with e|e
 ·exact e
 ·
  exfalso;have ho2:onS (dB r i) (nth r k)=true:=by rw[<-he];exact jM (s:=dB r i) (eR h.near i hi)
  have ht:=h.turn' k hk;apply ht;rw[<-e,he];unfold Geo.cP;rw[kT];simp[cross,sub]
theorem VR.nodup{r:aH}(h:VR r):r.Nodup:=by
 rw[List.nodup_iff_pairwise_ne,List.pairwise_iff_getElem];intro i j hi hj hij e;have:=h.inj hi hj (by unfold nth;rw[List.getD_eq_getElem?_getD,List.getD_eq_getElem?_getD,List.getElem?_eq_getElem hi,List.getElem?_eq_getElem hj];simpa using e)
 omega
theorem VR.Va{r:aH}(h:VR r){v:V}(hv:v∈r){s:S}(hs:s∈aD r)(ho:onS s v=true):v=s.a\/v=s.b:=by
 obtain⟨i,hi,rfl⟩:=fA.1 hv;obtain⟨_,k,hk,rfl⟩:=pD.1 hs;rcases h.touch hi hk ho with e|e
 ·left;rw[e];rfl
 ·right;rw[e];rfl
def eB(s:Shape):List V:=(aA s).flatten
def bX(s:Shape):List S:=(aA s).flatMap aD
theorem VS.ring{s:Shape}(h:VS s){r:aH}(hr:r∈aA s):VR r:=by
 unfold aA at hr;rcases List.mem_cons.1 hr with rfl|hr
 ·exact h.outer
 ·obtain⟨i,hi,rfl⟩:=wD hr;exact h.hole i hi
theorem VS.pair{s:Shape}(h:VS s):(aA s).Pairwise (fun a b=>dY a b=true):=by
 unfold aA;rw[List.pairwise_cons];refine⟨fun r hr=> ?_,?_⟩
 ·obtain⟨i,hi,rfl⟩:=wD hr;rw[lI];exact h.apo i hi
 ·rw[List.pairwise_iff_getElem];intro i k hi hk hik;have:=h.aph k i hik hk;unfold aB at this;rw[List.getD_eq_getElem?_getD,List.getD_eq_getElem?_getD,List.getElem?_eq_getElem hi,List.getElem?_eq_getElem hk]at this;rw[lI];exact this
theorem Da:∀(l:List aH),(∀r∈l,VR r)->l.Pairwise (fun a b=>dY a b=true)->∀v∈l.flatten,∀e∈l.flatMap aD,onS e v=true->v=e.a\/v=e.b
 |[],_,_,v,hv,_,_,_=>by simp at hv
 |r::l,hr,hp,v,hv,e,he,ho=>by
  rw[List.pairwise_cons]at hp;rw[List.flatten_cons,List.mem_append]at hv;rw[List.flatMap_cons,List.mem_append]at he;rcases hv with hv|hv<;>rcases he with he|he
  ·exact(hr r (by simp)).Va hv he ho
  ·rw[List.mem_flatMap]at he;obtain⟨q,hq,he⟩:=he;exact(kC (hr r (by simp)) (hp.1 q hq) hv he ho).elim
  ·rw[List.mem_flatten]at hv;obtain⟨q,hq,hv⟩:=hv;exact(kC (hr q (by simp[hq])) (by rw[lI];exact hp.1 q hq) hv he ho).elim
  ·exact Da l (fun x hx=>hr x (by simp[hx])) hp.2 v hv e he ho
theorem Db:∀(l:List aH),(∀r∈l,VR r)->l.Pairwise (fun a b=>dY a b=true)->l.flatten.Nodup
 |[],_,_=>by simp
 |r::l,hr,hp=>by
  rw[List.pairwise_cons]at hp;rw[List.flatten_cons,List.nodup_append];refine⟨(hr r (by simp)).nodup,Db l (fun x hx=>hr x (by simp[hx])) hp.2,?_⟩
  rintro a ha b hb rfl;rw[List.mem_flatten]at hb;obtain⟨q,hq,hb⟩:=hb;have hvq:=hr q (by simp[hq])
  obtain⟨i,hi,rfl⟩:=fA.1 hb;exact kC (hr r (by simp)) (hp.1 q hq) ha (pD.2 ⟨by have:=hvq.three;omega,i,hi,rfl⟩) (jM (s:=dB q i) (eR hvq.near i hi))
theorem VS.touch{s:Shape}(h:VS s){v:V}(hv:v∈eB s){e:S}(he:e∈bX s)(ho:onS e v=true):v=e.a\/v=e.b:=
 Da _ (fun _ hr=>h.ring hr) h.pair v hv e he ho
theorem VS.nodup{s:Shape}(h:VS s):(eB s).Nodup:=Db _ (fun _ hr=>h.ring hr) h.pair
end Go.Proofs.YtdaeofhdgabhjaaGreat.Geo
namespace Go.Proofs.YtdaeofhdgabhjaaGreat.Geo
def Hj:List aH->aH->List aH
 |[],h=>[h]
 |q::l,h=>if cU (nth q 0) (nth h 0)then q::Hj l h else h::q::l
def yT(l:List aH):List aH:=l.foldl Hj []
def gJ(s:Shape):Shape:=⟨fR s.outer,yT (s.holes.map fR)⟩
theorem Gn(l:List aH)(h:aH):(Hj l h).Perm (h::l):=by
 induction l with
 |nil=>exact List.Perm.refl _
 |cons q l ih=>
  unfold Hj;split
  ·exact(List.Perm.cons q ih).trans (List.Perm.swap h q l)
  ·exact List.Perm.refl _
theorem zZ(l acc:List aH):(l.foldl Hj acc).Perm (acc++l):=by
 induction l generalizing acc with
 |nil=>simp
 |cons q l ih=>
  rw[List.foldl_cons];refine(ih _).trans ?_;refine((Gn acc q).append_right l).trans ?_;rw[List.cons_append];exact List.perm_middle.symm
theorem iV(l:List aH):(yT l).Perm l:=by
 unfold yT;have:=zZ l [];rwa[List.nil_append]at this
def leH(a b:aH):Prop:=leV (nth a 0) (nth b 0)
theorem Nx(l:List aH)(h:aH)(hl:l.Pairwise leH):(Hj l h).Pairwise leH:=by
 induction l with
 |nil=>simp[Hj]
 |cons q l ih=>
  rw[List.pairwise_cons]at hl;unfold Hj;split
  ·rename_i hq;rw[List.pairwise_cons];refine⟨fun x hx=> ?_,ih hl.2⟩
   have hx:=(Gn l h).subset hx;rcases List.mem_cons.1 hx with rfl|hx
   ·exact(mN _ _).elim id (fun e=>absurd e ((eS _ _).1 hq))
   ·exact hl.1 x hx
  ·rename_i hq;have hq:=(fN _ _).1 (by simpa using hq)
   rw[List.pairwise_cons,List.pairwise_cons];refine⟨fun x hx=> ?_,hl⟩
   rcases List.mem_cons.1 hx with rfl|hx
   ·exact hq
   ·exact jH hq (hl.1 x hx)
theorem xD(l acc:List aH)(h:acc.Pairwise leH):(l.foldl Hj acc).Pairwise leH:=by
 induction l generalizing acc with
 |nil=>exact h
 |cons q l ih=>exact ih _ (Nx acc q h)
theorem Jq(l:List aH):(yT l).Pairwise leH:=xD l [] List.Pairwise.nil
theorem sC:∀(l:List aH),l.flatten.Nodup->∀a∈l,∀b∈l,∀x,x∈a->x∈b->a=b
 |[],_,a,ha,_,_,_,_,_=>by cases ha
 |r::l,h,a,ha,b,hb,x,hxa,hxb=>by
  rw[List.flatten_cons,List.nodup_append]at h;obtain⟨h1,h2,h3⟩:=h;rcases List.mem_cons.1 ha with ea|ha'<;>rcases List.mem_cons.1 hb with eb|hb'
  ·rw[ea,eb]
  ·rw[ea]at hxa;exact(h3 x hxa x (List.mem_flatten.2 ⟨_,hb',hxb⟩) rfl).elim
  ·rw[eb]at hxb;exact(h3 x hxb x (List.mem_flatten.2 ⟨_,ha',hxa⟩) rfl).elim
  ·exact sC l h2 a ha' b hb' x hxa hxb
theorem nZ(l:List aH):((l.map fR).flatten).Perm l.flatten:=by
 induction l with
 |nil=>exact List.Perm.refl _
 |cons r l ih=>
  rw[List.map_cons,List.flatten_cons,List.flatten_cons];exact(vK r).append ih
theorem jK(s:Shape):(eB (gJ s)).Perm (eB s):=by
 unfold eB aA gJ;simp only[List.flatten_cons];refine(vK _).append ?_;exact((iV _).flatten).trans (nZ _)
def jT(p:Pt):List aH->Int->Int
 |[],w=>w
 |h::l,w=>if cC h p=2 then 0 else if cC h p=1 then 1 else jT p l w
def dL(s:Shape)(p:Pt):Int:=
 if !(aM s)then 0 else if cC s.outer p≠2 then cC s.outer p else jT p s.holes 2
def xK(p:Pt):List aH->Int->Int
 |[],w=>w
 |h::l,w=>if oF h p=2 then 0 else if oF h p=1 then 1 else xK p l w
def Ie(s:Shape)(p:Pt):Int:=if !(fK s)then 0 else xK p s.holes (oF s.outer p)
theorem aA6(p:Pt)(l:List aH)(w:Int):jT p l w=xK p l w:=by
 induction l with
 |nil=>rfl
 |cons h l ih=>unfold jT xK;rw[Bo,ih]
theorem Qx(p:Pt)(l:List aH)(w:Int):xK p l w=2->w=2:=by
 induction l with
 |nil=>exact id
 |cons h l ih=>unfold xK;split;omega;split;omega;exact ih
theorem Pw(s:Shape)(p:Pt):(dL s p==2)=(Ie s p==2):=by
 unfold dL Ie;rw[jE,Bo];cases fK s with
 |false=>rfl
 |true=>
  simp only[Bool.not_true,Bool.false_eq_true,if_false];by_cases h:oF s.outer p=2
  ·rw[if_neg (by omega),h,aA6]
  ·rw[if_pos h,Bool.eq_iff_iff,beq_iff_eq,beq_iff_eq];exact⟨fun e=>absurd e h,fun e=>absurd (Qx _ _ _ e) h⟩
def eJ(c:S):Pt:=
 if(c.a.x+c.b.x).tmod 2=0/\(c.a.y+c.b.y).tmod 2=0 then⟨(c.a.x+c.b.x).tdiv 2,(c.a.y+c.b.y).tdiv 2,1⟩else⟨c.a.x+c.b.x,c.a.y+c.b.y,2⟩
def aEw(l:List V):Int:=(l.map V.x).sum
def aEv(l:List V):Int:=(l.map V.y).sum
def It(l:List V):Pt:=
 let g:Int:=Nat.gcd (Nat.gcd (aEw l).natAbs (aEv l).natAbs) l.length
 ⟨(aEw l).tdiv g,(aEv l).tdiv g,(l.length:Int).tdiv g⟩
theorem wB(x:Int)(k:Nat):x.tmod k=0↔k∣x.natAbs:=by
 rw[<-Int.dvd_iff_tmod_eq_zero,Int.ofNat_dvd_left]
theorem Qr(a b:V):It [a,b] =eJ ⟨a,b⟩:=by
 unfold It eJ aEw aEv;simp only[List.map_cons,List.map_nil,List.sum_cons,List.sum_nil,Int.add_zero,List.length_cons,List.length_nil];generalize a.x+b.x=x;generalize a.y+b.y=y;have hd:Nat.gcd (Nat.gcd x.natAbs y.natAbs) 2∣2:=Nat.gcd_dvd_right _ _;have hle:=Nat.le_of_dvd (by omega) hd
 have hpos:0<Nat.gcd (Nat.gcd x.natAbs y.natAbs) 2:=Nat.gcd_pos_of_pos_right _ (by omega)
 by_cases h:x.tmod 2=0/\y.tmod 2=0
 ·have e:Nat.gcd (Nat.gcd x.natAbs y.natAbs) 2=2:=Nat.gcd_eq_right (Nat.dvd_gcd ((wB x 2).1 h.1) ((wB y 2).1 h.2));rw[if_pos h,show(0+1+1:Nat)=2 from rfl,e]
  rfl
 ·have e:Nat.gcd (Nat.gcd x.natAbs y.natAbs) 2=1:=by
   rcases Nat.lt_or_ge (Nat.gcd (Nat.gcd x.natAbs y.natAbs) 2) 2 with h1|h1
   ·omega
   ·exfalso;have e2:Nat.gcd (Nat.gcd x.natAbs y.natAbs) 2=2:=by omega
    have d1:2∣Nat.gcd x.natAbs y.natAbs:=by
     have:=Nat.gcd_dvd_left (Nat.gcd x.natAbs y.natAbs) 2;rwa[e2]at this
    exact h ⟨(wB x 2).2 (Nat.dvd_trans d1 (Nat.gcd_dvd_left _ _)),(wB y 2).2 (Nat.dvd_trans d1 (Nat.gcd_dvd_right _ _))⟩
  rw[if_neg h,show(0+1+1:Nat)=2 from rfl,e]
  simp
def nQ(a b c:V):Pt:=
 if(a.x+b.x+c.x).tmod 3=0/\(a.y+b.y+c.y).tmod 3=0 then⟨(a.x+b.x+c.x).tdiv 3,(a.y+b.y+c.y).tdiv 3,1⟩else⟨a.x+b.x+c.x,a.y+b.y+c.y,3⟩
end Go.Proofs.YtdaeofhdgabhjaaGreat.Geo
namespace Go.Proofs.YtdaeofhdgabhjaaGreat.Geo
def Bd(s t:S):Bool:=s.a==t.a||s.a==t.b||s.b==t.a||s.b==t.b
def cG(s t:S):Bool:=dF s t==0||(dF s t==1&&Bd s t)
def mW(s:Shape)(c:S):Bool:=(bX s).all (fun e=>cG e c)&&dL s (eJ c)==2
def Hz(d e:S):Bool:=
 if gQ d e=2\/gQ d e=3 then false
 else if gQ d e=1 then(nth (iQ d e) 0==d.a||nth (iQ d e) 0==d.b)else true
def Pr(s:Shape)(c:S):Bool:=(bX s).all (fun e=>Hz c e)&&(c.a !=c.b&&Ie s (It [c.a,c.b])==2)
theorem zH(s t:S):dF s t=0\/dF s t=1\/dF s t=2\/dF s t=3:=by
 unfold dF oI;simp only
 repeat' split
 all_goals simp
theorem xP{s t:S}(h:dF s t=1):(bL s=true/\bL t=true)/\∃z,z∈ends s t/\cD s t z/\(∀p,p∈ends s t->cD s t p->p=z)/\iQ s t=[z] :=by
 rw[sJ]at h;have hm:=rS s t;unfold gQ at h;split at h
 ·omega
 ·rename_i hv;split at h
  ·omega
  ·split at h
   ·rename_i h1;refine⟨by simp at hv;exact hv,?_⟩
    match hc:iQ s t,h1 with
    |[z],_=>
     rw[hc]at hm;have hz:=(hm z).1 (by simp)
     exact⟨z,hz.1,hz.2,fun p hp ho=>by have:=(hm p).2 ⟨hp,ho⟩;simpa using this,rfl⟩
   ·split at h<;>omega
theorem aAR{s t:S}(h:dF s t=3):∃p q,p≠q/\p∈ends s t/\q∈ends s t/\cD s t p/\cD s t q:=by
 rw[sJ]at h;have hm:=rS s t;have hs:=rY ((ends s t).filter (fun p=>onS s p&&onS t p))
 rw[show sH ((ends s t).filter (fun p=>onS s p&&onS t p))=iQ s t from rfl]at hs
 unfold gQ at h;split at h
 ·omega
 ·split at h
  ·rename_i h1;match hc:iQ s t,h1 with
   |z::y::r,_=>
    rw[hc]at hm hs;have hz:=(hm z).1 (by simp)
    have hy:=(hm y).1 (by simp)
    refine⟨z,y,?_,hz.1,hy.1,hz.2,hy.2⟩;rintro rfl;rw[List.pairwise_cons]at hs;have:=hs.1 z (by simp)
    rw[wU]at this;cases this
  ·split at h
   ·omega
   ·split at h<;>omega
theorem iM(s t:S)(p:V):p∈ends s t↔p=s.a\/p=s.b\/p=t.a\/p=t.b:=by unfold ends;simp
theorem uV(s t:S):Bd s t=true↔(s.a=t.a\/s.a=t.b\/s.b=t.a\/s.b=t.b):=by unfold Bd;simp[or_assoc]
theorem Gx{s:Shape}(h:VS s){c e:S}(ha:c.a∈eB s)(hb:c.b∈eB s)(he:e∈bX s):cG e c=Hz c e:=by
 unfold cG Hz;rw[pF e c,<-sJ];rcases zH c e with hk|hk|hk|hk
 ·rw[hk];simp
 ·rw[if_neg (by omega),if_pos hk,hk]
  obtain⟨⟨vc,ve⟩,z,hz,ho,hu,hcom⟩:=xP hk;rw[hcom];rw[show nth [z] 0=z from rfl]
  rw[Bool.eq_iff_iff];simp only[Bool.or_eq_true,beq_iff_eq,Bool.and_eq_true,uV];constructor
  ·rintro(h1|⟨_,h1⟩)
   ·omega
   ·rcases h1 with h1|h1|h1|h1
    ·left;exact(hu c.a (by rw[iM];simp) ⟨jM vc,by rw[<-h1];exact jM ve⟩).symm
    ·right;exact(hu c.b (by rw[iM];simp) ⟨qE vc,by rw[<-h1];exact jM ve⟩).symm
    ·left;exact(hu c.a (by rw[iM];simp) ⟨jM vc,by rw[<-h1];exact qE ve⟩).symm
    ·right;exact(hu c.b (by rw[iM];simp) ⟨qE vc,by rw[<-h1];exact qE ve⟩).symm
  ·rintro(h1|h1)
   ·right;refine⟨trivial,?_⟩;have:=h.touch ha he (by rw[<-h1];exact ho.2)
    rcases this with e1|e1
    ·exact .inl e1.symm
    ·exact .inr (.inr (.inl e1.symm))
   ·right;refine⟨trivial,?_⟩;have:=h.touch hb he (by rw[<-h1];exact ho.2)
    rcases this with e1|e1
    ·exact .inr (.inl e1.symm)
    ·exact .inr (.inr (.inr e1.symm))
 ·rw[hk];simp
 ·rw[hk];simp
theorem aBo{s:Shape}(h:VS s){c:S}(ha:c.a∈eB s)(hb:c.b∈eB s)(hne:c.a≠c.b):mW s c=Pr s c:=by
 unfold mW Pr;rw[Qr,Pw];have e1:((bX s).all fun e=>cG e c)=((bX s).all fun e=>Hz c e):=by
  rw[Bool.eq_iff_iff,List.all_eq_true,List.all_eq_true];constructor
  ·intro h1 e he;rw[<-Gx h ha hb he];exact h1 e he
  ·intro h1 e he;rw[Gx h ha hb he];exact h1 e he
 rw[e1];have e2:(c.a !=c.b)=true:=by simpa using hne
 rw[e2,Bool.true_and]
theorem zR{s:Shape}(h:VS s){c:S}(hc:mW s c=true){p:V}(hp:p∈eB s)(ho:onS c p=true):p=c.a\/p=c.b:=by
 unfold eB at hp;rw[List.mem_flatten]at hp;obtain⟨r,hr,hpr⟩:=hp;have hvr:=h.ring hr;obtain⟨i,hi,rfl⟩:=fA.1 hpr;have he:dB r i∈bX s:=List.mem_flatMap.2 ⟨r,hr,pD.2 ⟨by have:=hvr.three;omega,i,hi,rfl⟩⟩
 have ve:=eR hvr.near i hi;unfold mW at hc;rw[Bool.and_eq_true,List.all_eq_true]at hc;have ht:=hc.1 _ he;have hob:cD (dB r i) c (nth r i):=⟨jM (s:=dB r i) ve,ho⟩;have hnz:=mE (s:=dB r i) (t:=c) (p:=nth r i) (by simp[dB]) hob
 unfold cG at ht;simp only[Bool.or_eq_true,beq_iff_eq,Bool.and_eq_true,uV]at ht;rcases ht with ht|⟨ht,hsh⟩
 ·exact absurd ht hnz
 ·obtain⟨⟨_,vc⟩,z,_,_,hu,_⟩:=xP ht;have e1:=hu (nth r i) (by rw[iM];simp[dB]) hob
  rw[e1];rcases hsh with h1|h1|h1|h1
  ·left;exact(hu c.a (by rw[iM];simp) ⟨by rw[<-h1];exact jM ve,jM vc⟩).symm
  ·right;exact(hu c.b (by rw[iM];simp) ⟨by rw[<-h1];exact jM ve,qE vc⟩).symm
  ·left;exact(hu c.a (by rw[iM];simp) ⟨by rw[<-h1];exact qE ve,jM vc⟩).symm
  ·right;exact(hu c.b (by rw[iM];simp) ⟨by rw[<-h1];exact qE ve,qE vc⟩).symm
theorem Oh{s:Shape}(h:VS s){c d:S}(hc:mW s c=true)(hd:mW s d=true)(c1:c.a∈eB s)(c2:c.b∈eB s)(d1:d.a∈eB s)(d2:d.b∈eB s)
  (hne:¬((c.a=d.a/\c.b=d.b)\/(c.a=d.b/\c.b=d.a))):cG c d=(gQ d c !=2):=by
 rw[<-sJ,pF d c];unfold cG;have hends:∀p,p∈ends c d->cD c d p->(p=c.a\/p=c.b)/\(p=d.a\/p=d.b):=by
  intro p hp ho;have hpv:p∈eB s:=by rcases(iM _ _ _).1 hp with rfl|rfl|rfl|rfl<;>assumption
  exact⟨zR h hc hpv ho.1,zR h hd hpv ho.2⟩
 rcases zH c d with hk|hk|hk|hk
 ·rw[hk];rfl
 ·rw[hk];have:Bd c d=true:=by
   obtain⟨_,z,hz,ho,_,_⟩:=xP hk;obtain⟨h1,h2⟩:=hends z hz ho;rw[uV];grind
  rw[this];rfl
 ·rw[hk];rfl
 ·exfalso;obtain⟨p,q,hpq,hp,hq,op,oq⟩:=aAR hk;have h1:=hends p hp op;have h2:=hends q hq oq;grind
end Go.Proofs.YtdaeofhdgabhjaaGreat.Geo
namespace Go.Proofs.YtdaeofhdgabhjaaGreat.Geo
def eF(v:List V)(p:Nat×Nat):S:=⟨nth v p.1,nth v p.2⟩
def At(s:Shape)(v:List V)(acc:List (Nat×Nat))(i k:Nat):List (Nat×Nat):=
 if !(acc.any fun d=> !(cG ⟨nth v i,nth v k⟩ (eF v d)))&&mW s ⟨nth v i,nth v k⟩then acc++[(i,k)]else acc
def rowP(s:Shape)(v:List V)(acc:List (Nat×Nat))(i:Nat):Nat->List (Nat×Nat)
 |0=>acc
 |m+1=>At s v (rowP s v acc i m) i (i+1+m)
def cQ(s:Shape)(v:List V):Nat->List (Nat×Nat)
 |0=>[]
 |i+1=>rowP s v (cQ s v i) i (v.length-(i+1))
def cZ(s:Shape)(v:List V):List (Nat×Nat):=cQ s v v.length
def Ye(s:Shape)(v:List V)(acc:List S)(i k:Nat):List S:=
 if Pr s ⟨nth v i,nth v k⟩&&(acc.all fun d=>gQ d ⟨nth v i,nth v k⟩ !=2)then acc++[⟨nth v i,nth v k⟩]else acc
def aBB(s:Shape)(v:List V)(acc:List S)(i:Nat):Nat->List S
 |0=>acc
 |m+1=>Ye s v (aBB s v acc i m) i (i+1+m)
def Ia(s:Shape)(v:List V):Nat->List S
 |0=>[]
 |i+1=>aBB s v (Ia s v i) i (v.length-(i+1))
def Za(s:Shape)(v:List V):List S:=Ia s v v.length
theorem dW{v:List V}{i:Nat}(h:i<v.length):nth v i∈v:=fA.2 ⟨i,h,rfl⟩
theorem vU{v:List V}(hn:v.Nodup){i k:Nat}(hi:i<v.length)(hk:k<v.length)(e:nth v i=nth v k):i=k:=by
 unfold nth at e;rw[List.getD_eq_getElem?_getD,List.getD_eq_getElem?_getD,List.getElem?_eq_getElem hi,List.getElem?_eq_getElem hk]at e;simp only[Option.getD_some]at e;rw[List.nodup_iff_pairwise_ne,List.pairwise_iff_getElem]at hn;rcases Nat.lt_trichotomy i k with h|h|h
 ·exact absurd e (hn i k hi hk h)
 ·exact h
 ·exact absurd e.symm (hn k i hk hi h)
structure Found(s:Shape)(v:List V)(acc:List (Nat×Nat))(i k:Nat):Prop where
 lt:∀p∈acc,p.1<p.2/\p.2<v.length
 ahead:∀p∈acc,p.1<i\/(p.1=i/\p.2<k)
 chord:∀p∈acc,mW s (eF v p)=true
 apart:acc.Pairwise fun p q=>gQ (eF v p) (eF v q)≠2
theorem Rq{s:Shape}(h:VS s){v:List V}(hv:∀x∈v,x∈eB s)(hn:v.Nodup){acc:List (Nat×Nat)}{i k:Nat}(hF:Found s v acc i k)(hik:i<k)(hk:k<v.length)(hc:mW s ⟨nth v i,nth v k⟩=true):
  (!(acc.any fun d=> !(cG ⟨nth v i,nth v k⟩ (eF v d))))=((acc.map (eF v)).all fun d=>gQ d ⟨nth v i,nth v k⟩ !=2):=by
 rw[List.any_eq_not_all_not,Bool.not_not,List.all_map,Bool.eq_iff_iff,List.all_eq_true,List.all_eq_true];have key:∀d∈acc,cG ⟨nth v i,nth v k⟩ (eF v d)=(gQ (eF v d) ⟨nth v i,nth v k⟩ !=2):=by
  intro d hd;obtain⟨h1,h2⟩:=hF.lt d hd;refine Oh h hc (hF.chord d hd) (hv _ (dW (by omega))) (hv _ (dW hk)) (hv _ (dW (by omega))) (hv _ (dW (by omega))) ?_
  rintro(⟨e1,e2⟩|⟨e1,e2⟩)
  ·have a1:=vU hn (by omega) (by omega) e1
   have a2:=vU hn (by omega) (by omega) e2
   rcases hF.ahead d hd with h3|h3<;>omega
  ·have a1:=vU hn (by omega) (by omega) e1
   have a2:=vU hn (by omega) (by omega) e2
   omega
 constructor
 ·intro hh d hd;have:=hh d hd;rw[Bool.not_not,key d hd]at this;exact this
 ·intro hh d hd;rw[Bool.not_not,key d hd];exact hh d hd
theorem aBU{s:Shape}(h:VS s){v:List V}(hv:∀x∈v,x∈eB s)(hn:v.Nodup){acc:List (Nat×Nat)}{i k:Nat}(hF:Found s v acc i k)(hik:i<k)(hk:k<v.length):
  (At s v acc i k).map (eF v)=Ye s v (acc.map (eF v)) i k/\Found s v (At s v acc i k) i (k+1):=by
 have hne:nth v i≠nth v k:=fun e=>by have:=vU hn (by omega) hk e;omega
 have hce:=aBo h (c:=⟨nth v i,nth v k⟩) (hv _ (dW (by omega))) (hv _ (dW hk)) hne
 unfold At Ye;cases hc:mW s ⟨nth v i,nth v k⟩with
 |false=>
  rw[hc]at hce;rw[<-hce];simp only[Bool.and_false,Bool.false_and,Bool.false_eq_true,if_false];exact⟨by trivial,hF.lt,fun p hp=>by have:=hF.ahead p hp;omega,hF.chord,hF.apart⟩
 |true=>
  rw[hc]at hce;rw[<-hce,Rq h hv hn hF hik hk hc,Bool.and_true,Bool.true_and];by_cases hx:((acc.map (eF v)).all fun d=>gQ d ⟨nth v i,nth v k⟩ !=2)=true
  ·rw[if_pos hx,if_pos hx];refine⟨by rw[List.map_append];rfl,?_,?_,?_,?_⟩
   ·intro p hp;rcases List.mem_append.1 hp with hp|hp
    ·exact hF.lt p hp
    ·obtain rfl:=List.mem_singleton.1 hp;exact⟨hik,hk⟩
   ·intro p hp;rcases List.mem_append.1 hp with hp|hp
    ·have:=hF.ahead p hp;omega
    ·obtain rfl:=List.mem_singleton.1 hp;right;exact⟨rfl,by simp⟩
   ·intro p hp;rcases List.mem_append.1 hp with hp|hp
    ·exact hF.chord p hp
    ·obtain rfl:=List.mem_singleton.1 hp;exact hc
   ·rw[List.pairwise_append];refine⟨hF.apart,List.pairwise_singleton _ _,?_⟩;intro p hp q hq;obtain rfl:=List.mem_singleton.1 hq;rw[List.all_map,List.all_eq_true]at hx;have:=hx p hp;simp only[Function.comp,bne_iff_ne]at this;exact this
  ·rw[if_neg hx,if_neg hx];exact⟨rfl,hF.lt,fun p hp=>by have:=hF.ahead p hp;omega,hF.chord,hF.apart⟩
theorem aFd{s:Shape}(h:VS s){v:List V}(hv:∀x∈v,x∈eB s)(hn:v.Nodup){acc:List (Nat×Nat)}{i:Nat}(hF:Found s v acc i (i+1))(m:Nat)(hm:i+1+m<=v.length):
  (rowP s v acc i m).map (eF v)=aBB s v (acc.map (eF v)) i m/\Found s v (rowP s v acc i m) i (i+1+m):=by
 induction m with
 |zero=>exact⟨rfl,hF⟩
 |succ m ih=>
  obtain⟨h1,h2⟩:=ih (by omega)
  unfold rowP aBB;rw[<-h1];exact aBU h hv hn h2 (by omega) (by omega)
theorem aIN{s:Shape}(h:VS s){v:List V}(hv:∀x∈v,x∈eB s)(hn:v.Nodup)(i:Nat)(hi:i<=v.length):
  (cQ s v i).map (eF v)=Ia s v i/\Found s v (cQ s v i) i (i+1):=by
 induction i with
 |zero=>exact⟨rfl,⟨by simp[cQ],by simp[cQ],by simp[cQ],by simp[cQ]⟩⟩
 |succ i ih=>
  obtain⟨h1,h2⟩:=ih (by omega)
  unfold cQ Ia;rw[<-h1];obtain⟨h3,h4⟩:=aFd h hv hn h2 (v.length-(i+1)) (by omega)
  exact⟨h3,h4.lt,fun p hp=>by have:=h4.ahead p hp;omega,h4.chord,h4.apart⟩
theorem Ug{s:Shape}(h:VS s){v:List V}(hv:∀x∈v,x∈eB s)(hn:v.Nodup):(cZ s v).map (eF v)=Za s v/\Found s v (cZ s v) v.length (v.length+1):=
 aIN h hv hn _ (Nat.le_refl _)
end Go.Proofs.YtdaeofhdgabhjaaGreat.Geo
namespace Go.Proofs.YtdaeofhdgabhjaaGreat.Geo
abbrev Tab:=Nat->Nat->Bool
end Go.Proofs.YtdaeofhdgabhjaaGreat.Geo
namespace Go.Proofs.YtdaeofhdgabhjaaGreat.Geo
def bV:aH->aH->Int
 |[],[] =>0
 |[],_::_=> -1
 |_::_,[] =>1
 |a::l,b::m=>if dJ a b≠0 then dJ a b else bV l m
theorem Gy(x y:Int):eO x y= -eO y x:=by unfold eO;grind
theorem Xd(p q:V):dJ p q= -dJ q p:=by
 unfold dJ;rw[Gy p.y,Gy p.x];grind
theorem fP:∀(l m:aH),bV l m= -bV m l
 |[],[] =>rfl
 |[],_::_=>rfl
 |_::_,[] =>rfl
 |a::l,b::m=>by
  unfold bV;have:=Xd a b;by_cases h:dJ a b=0
  ·rw[if_neg (by omega),if_neg (by omega)];exact fP l m
  ·rw[if_pos h,if_pos (by omega)];exact this
theorem mH:∀(l m:aH),bV l m=0->l=m
 |[],[],_=>rfl
 |[],_::_,h=>by unfold bV at h;omega
 |_::_,[],h=>by unfold bV at h;omega
 |a::l,b::m,h=>by
  unfold bV at h;by_cases h0:dJ a b=0
  ·rw[if_neg (by omega)]at h
   rw[(mP a b).1 h0,mH l m h]
  ·rw[if_pos h0]at h;exact absurd h h0
theorem Jz(l:aH):bV l l=0:=by have:=fP l l;omega
theorem Rr{p q r:V}(h1:dJ p q<0)(h2:dJ q r<0):dJ p r<0:=by
 rw[vY]at*;exact zK h1 h2
theorem oL:∀(l m n:aH),bV l m<0->bV m n<0->bV l n<0
 |[],[],_,h,_=>by unfold bV at h;omega
 |[],_::_,[],_,h=>by unfold bV at h;omega
 |[],_::_,_::_,_,_=>by unfold bV;omega
 |_::_,[],_,h,_=>by unfold bV at h;omega
 |_::_,_::_,[],_,h=>by unfold bV at h;omega
 |a::l,b::m,c::n,h1,h2=>by
  unfold bV at*;by_cases e1:dJ a b=0
  ·rw[if_neg (by omega)]at h1
   have:=(mP a b).1 e1;subst this;by_cases e2:dJ a c=0
   ·rw[if_neg (by omega)]at h2|-;exact oL l m n h1 h2
   ·rw[if_pos e2]at h2|-;exact h2
  ·rw[if_pos e1]at h1;by_cases e2:dJ b c=0
   ·have:=(mP b c).1 e2;subst this;rw[if_pos (by omega)];exact h1
   ·rw[if_pos e2]at h2;have:=Rr h1 h2;rw[if_pos (by omega)];exact this
def gI(a b:aH):Prop:=bV a b<=0
theorem Nu{a b:aH}(h1:gI a b)(h2:gI b a):a=b:=by
 unfold gI at*;apply mH;have:=fP a b;omega
theorem wV{a b c:aH}(h1:gI a b)(h2:gI b c):gI a c:=by
 unfold gI at*;by_cases e1:bV a b=0
 ·rw[mH _ _ e1];exact h2
 ·by_cases e2:bV b c=0
  ·rw[<-mH _ _ e2];exact h1
  ·have:=oL a b c (by omega) (by omega);omega
def Hi:List aH->aH->List aH
 |[],r=>[r]
 |q::l,r=>if bV q r<0 then q::Hi l r else r::q::l
theorem Gm(l:List aH)(r:aH):(Hi l r).Perm (r::l):=by
 induction l with
 |nil=>exact List.Perm.refl _
 |cons q l ih=>
  unfold Hi;split
  ·exact(List.Perm.cons q ih).trans (List.Perm.swap r q l)
  ·exact List.Perm.refl _
theorem Nw(l:List aH)(r:aH)(hl:l.Pairwise gI):(Hi l r).Pairwise gI:=by
 induction l with
 |nil=>simp[Hi]
 |cons q l ih=>
  rw[List.pairwise_cons]at hl;unfold Hi;split
  ·rename_i hq;rw[List.pairwise_cons];refine⟨fun x hx=> ?_,ih hl.2⟩
   have hx:=(Gm l r).subset hx;rcases List.mem_cons.1 hx with rfl|hx
   ·unfold gI;omega
   ·exact hl.1 x hx
  ·rename_i hq;have hq':gI r q:=by unfold gI;have:=fP r q;omega
   rw[List.pairwise_cons,List.pairwise_cons];refine⟨fun x hx=> ?_,hl⟩
   rcases List.mem_cons.1 hx with rfl|hx
   ·exact hq'
   ·exact wV hq' (hl.1 x hx)
theorem zY(l acc:List aH):(l.foldl Hi acc).Perm (acc++l):=by
 induction l generalizing acc with
 |nil=>simp
 |cons q l ih=>
  rw[List.foldl_cons];refine(ih _).trans ?_;refine((Gm acc q).append_right l).trans ?_;rw[List.cons_append];exact List.perm_middle.symm
theorem xC(l acc:List aH)(h:acc.Pairwise gI):(l.foldl Hi acc).Pairwise gI:=by
 induction l generalizing acc with
 |nil=>exact h
 |cons q l ih=>exact ih _ (Nw acc q h)
def Au(l:List aH):List aH:=l.foldl Hi []
theorem uU(l:List aH):(Au l).Perm l:=by
 unfold Au;have:=zY l [];rwa[List.nil_append]at this
theorem Jo{l m:List aH}(hp:m.Perm l)(hs:m.Pairwise gI):m=Au l:=
 List.Perm.eq_of_pairwise (fun _ _ _ _ h1 h2=>Nu h1 h2) hs (xC l [] List.Pairwise.nil) (hp.trans (uU l).symm)
def dA(r:aH):aH:=if cI r then fR r else []
end Go.Proofs.YtdaeofhdgabhjaaGreat.Geo
namespace Go.Proofs.YtdaeofhdgabhjaaGreat
open Go.RowKit
def lL(r:List Geo.V):List PV:=r.flatMap fun v=>[.int .i64 v.x,.int .i64 v.y]
def aBO(l:List Geo.S):List PV:=l.flatMap fun s=>[.int .i64 s.a.x,.int .i64 s.a.y,.int .i64 s.b.x,.int .i64 s.b.y]
def gF(r:List Geo.V):PV:= .sl r.length (lL r)
def Yo(l:List Geo.S):PV:= .sl l.length (aBO l)
def iS(l:List Geo.aH):PV:= .sl l.length (l.map gF)
def mU(s:Geo.Shape):PV:= .agg [gF s.outer,iS s.holes]
def qS{α:Type}(m:Nat)(enc:List α->List PV)(e:α->List PV):Prop:=∀l,enc l=l.flatMap e/\∀x,(e x).length=m
section
variable {α:Type} {m:Nat} {enc:List α->List PV} {e:α->List PV}
theorem qS.length(h:qS m enc e)(l:List α):(enc l).length=l.length*m:=by
 rw[(h l).1];induction l with
 |nil=>simp
 |cons x l ih=>simp only[List.flatMap_cons,List.length_append,ih,(h []).2 x,List.length_cons,Nat.add_mul];omega
theorem qS.append(h:qS m enc e)(l k:List α):enc (l++k)=enc l++enc k:=by rw[(h _).1,(h l).1,(h k).1,List.flatMap_append]
theorem qS.at(h:qS m enc e)(l:List α)(i:Nat)(hi:i<l.length):((enc l).drop (i*m)).take m=e l[i] :=by
 have h1:l=l.take i++l[i] ::l.drop (i+1):=by rw[List.getElem_cons_drop];simp
 have h2:enc l=enc (l.take i)++(e l[i] ++enc (l.drop (i+1))):=by
  conv=>lhs;rw[h1]
  rw[h.append,(h (l[i] ::_)).1,List.flatMap_cons,<-(h _).1]
 have h3:=h.length (l.take i);rw[List.length_take,Nat.min_eq_left (by omega)]at h3
 rw[h2,<-h3,List.drop_left,<-(h []).2 l[i],List.take_left]
theorem qS.take(h:qS m enc e)(l:List α)(k:Nat):(enc l).take (k*m)=enc (l.take k):=by
 by_cases hk:k<=l.length
 ·have h3:=h.length (l.take k);rw[List.length_take,Nat.min_eq_left hk]at h3
  conv=>lhs;rw[<-List.take_append_drop k l,h.append,<-h3,List.take_left]
 ·rw[List.take_of_length_le (by rw[h.length];exact Nat.mul_le_mul_right _ (by omega)),List.take_of_length_le (by omega)]
theorem qS.drop(h:qS m enc e)(l:List α)(k:Nat):(enc l).drop (k*m)=enc (l.drop k):=by
 by_cases hk:k<=l.length
 ·have h3:=h.length (l.take k);rw[List.length_take,Nat.min_eq_left hk]at h3
  conv=>lhs;rw[<-List.take_append_drop k l,h.append,<-h3,List.drop_left]
 ·have e1:l.drop k=[] :=List.drop_eq_nil_of_le (by omega)
  rw[e1,List.drop_eq_nil_of_le (by rw[h.length];exact Nat.mul_le_mul_right _ (by omega)),(h []).1];rfl
end
theorem Ex:qS 2 lL fun v=>[.int .i64 v.x,.int .i64 v.y] :=fun _=>⟨rfl,fun _=>rfl⟩
theorem aIM:qS 4 aBO fun s=>[.int .i64 s.a.x,.int .i64 s.a.y,.int .i64 s.b.x,.int .i64 s.b.y] :=fun _=>⟨rfl,fun _=>rfl⟩
theorem nth_eq{v:List Geo.V}{i:Nat}(h:i<v.length):Geo.nth v i=v[i] :=by
 unfold Geo.nth;rw[List.getD_eq_getElem?_getD,List.getElem?_eq_getElem h];rfl
theorem aCx{v:List Geo.V}{i:Nat}(h:i<v.length):((lL v).drop (i*2)).take 2=[.int .i64 (Geo.nth v i).x,.int .i64 (Geo.nth v i).y] :=by
 rw[nth_eq h];exact Ex.at v i h
theorem aBh:Bn Tryz.prog 44 2:=by
 intro xs ys x y w hx hy;match xs,ys,hx,hy with
 |[a,b],[c,d],_,_=>
  have h1:=aJq a b c d w;refine⟨?_,?_⟩
  ·simp only[List.map_cons,List.map_nil];simp[eqGuard,h1]
  ·simp only[List.map_cons,List.map_nil];simp[eqGuard];rw[run_neq_struct];rw[run_eql_struct]at h1;revert h1;generalize Sem.run Tryz.prog (Op.equalIn 10000 44 (Value.agg #[Value.int IntKind.i64 a,Value.int IntKind.i64 b]) (Value.agg #[Value.int IntKind.i64 c,Value.int IntKind.i64 d])) w=R;intro h1;cases R with
   |ok q w'=>
    simp[Result.andThen]at h1;obtain⟨rfl,rfl⟩:=h1;simp[Result.andThen];cases h2:(a==c)<;>cases h3:(b==d)<;>simp_all
   |_=>simp[Result.andThen]at h1
def bK(l:List Geo.S)(i:Nat):Geo.S:=l.getD i default
def aY(l:List (Nat×Nat))(i:Nat):Nat×Nat:=l.getD i default
def gH(l:List Int)(i:Nat):Int:=l.getD i 0
def aJ8(l:List Bool)(i:Nat):Bool:=l.getD i false
theorem nP{α:Type}{l:List α}{i:Nat}{d:α}(h:i<l.length):l.getD i d=l[i] :=by rw[List.getD_eq_getElem?_getD,List.getElem?_eq_getElem h];rfl
theorem lW{l:List Geo.S}{i:Nat}(h:i<l.length):bK l i=l[i] :=nP h
theorem lZ{l:List Geo.aH}{i:Nat}(h:i<l.length):Geo.aB l i=l[i] :=nP h
theorem sI{l:List (Nat×Nat)}{i:Nat}(h:i<l.length):aY l i=l[i] :=nP h
section
variable {α:Type} {m:Nat} {enc:List α->List PV} {e:α->List PV}
theorem qS.sub(h:qS m enc e)(l:List α){k:Nat}(hk:k<l.length)(j n:Nat)(hj:j+n<=m):((enc l).drop (k*m+j)).take n=((e l[k]).drop j).take n:=by
 have h1:=h.at l k hk;have h2:(((enc l).drop (k*m)).drop j).take n=((((enc l).drop (k*m)).take m).drop j).take n:=by
  rw[List.drop_take,List.take_take]
  congr 1;omega
 rw[List.drop_drop]at h2;rw[h2,h1]
theorem qS.get(h:qS m enc e)(l:List α){k:Nat}(hk:k<l.length)(j:Nat)(hj:j<m):(enc l)[k*m+j]? =(e l[k])[j]? :=by
 have h1:=h.at l k hk;rw[<-h1,List.getElem?_take,if_pos hj,List.getElem?_drop]
end
section
variable {α:Type} {m:Nat} {enc:List α->List PV} {e:α->List PV}
end
end Go.Proofs.YtdaeofhdgabhjaaGreat
namespace Go.Proofs.YtdaeofhdgabhjaaGreat
open Go.RowKit
noncomputable section
inductive Fm:Type 1
 |tt
 |stuck (n:Nat)
 |need (p:Prop) (f:Fm)
 |imp (p:Prop) (f:Fm)
 |both (f g:Fm)
 |all (X:Type) (f:X->Fm)
 |ex (X:Type) (f:X->Fm)
def Fm.isTT:Fm->Bool
 | .tt=>true
 |_=>false
def Fm.holds:Fm->Prop
 | .tt=>True
 | .stuck _=>False
 | .need p f=>(match f.isTT with|true=>p|false=>p/\f.holds)
 | .imp p f=>p->f.holds
 | .both f g=>(match f.isTT,g.isTT with|true,_=>g.holds|false,true=>f.holds|false,false=>f.holds/\g.holds)
 | .all X f=>∀x:X,(f x).holds
 | .ex X f=>∃x:X,(f x).holds
theorem Fm.Xz{f:Fm}(h:f.isTT=true):f.holds:=by cases f<;>first|trivial|cases h
theorem Fm.Qq{p:Prop}{f:Fm}(h:(Fm.need p f).holds):p/\f.holds:=by
 unfold Fm.holds at h;split at h
 ·rename_i e;exact⟨h,Fm.Xz e⟩
 ·exact h
theorem Fm.kL{f g:Fm}(h:(Fm.both f g).holds):f.holds/\g.holds:=by
 unfold Fm.holds at h;split at h
 ·rename_i e;exact⟨Fm.Xz e,h⟩
 ·rename_i e;exact⟨h,Fm.Xz e⟩
 ·exact h
def yU:List Prop->Fm->Fm
 |[],f=>f
 |p::l,f=> .need p (yU l f)
theorem gY:∀{l:List Prop} {f:Fm},(yU l f).holds->(∀p∈l,p)/\f.holds
 |[],f,h=>⟨fun p hp=>(by cases hp),h⟩
 |q::l,f,h=>by
  obtain⟨h1,h2⟩:=Fm.Qq h;obtain⟨h3,h4⟩:=gY h2;exact⟨fun p hp=>by rcases List.mem_cons.1 hp with rfl|hp;exact h1;exact h3 p hp,h4⟩
def Hl:List Prop->Prop
 |[] =>True
 |[p] =>p
 |p::l=>p/\Hl l
theorem fM:∀{l:List Prop},Hl l↔∀p∈l,p
 |[] =>⟨fun _ p hp=>(by cases hp),fun _=>trivial⟩
 |[p] =>⟨fun h q hq=>(by rw[List.mem_singleton.1 hq];exact h),fun h=>h p List.mem_cons_self⟩
 |p::q::l=>by
  show p/\Hl (q::l)↔_;rw[fM];exact⟨fun h r hr=>by rcases List.mem_cons.1 hr with rfl|hr;exact h.1;exact h.2 r hr,fun h=>⟨h p List.mem_cons_self,fun r hr=>h r (List.mem_cons_of_mem _ hr)⟩⟩
def aEH(l:List Prop)(f:Fm):Fm:=match l with
 |[] =>f
 |p::l=> .imp (Hl (p::l)) f
theorem Di{l:List Prop}{f:Fm}(h:(aEH l f).holds)(hl:∀p∈l,p):f.holds:=by
 cases l with
 |nil=>exact h
 |cons p l=>exact(h:Hl (p::l)->_) (fM.2 hl)
inductive LT where
 |V|S|R|I|B|P|Q
deriving DecidableEq
@[reducible] def LT.ty : LT → Type
  | .V => Geo.V
  | .S => Geo.S
  | .R => Geo.aH
  | .I => Int
  | .B => Bool
  | .P => Nat × Nat
  | .Q => List Int
def LT.w:LT->Nat
 | .V=>2
 | .S=>4
 | .R=>1
 | .I=>1
 | .B=>1
 | .P=>2
 | .Q=>1
def aBP(l:List Int):List PV:=l.flatMap fun n=>[.int .i64 n]
def cV(l:List (List Int))(i:Nat):List Int:=l.getD i []
def LT.rowP:(t:LT)->t.ty->List PV
 | .V=>fun v=>[.int .i64 v.x,.int .i64 v.y]
 | .S=>fun s=>[.int .i64 s.a.x,.int .i64 s.a.y,.int .i64 s.b.x,.int .i64 s.b.y]
 | .R=>fun r=>[.sl r.length (lL r)]
 | .I=>fun n=>[.int .i64 n]
 | .B=>fun b=>[.bool b]
 | .P=>fun p=>[.int .i64 p.1,.int .i64 p.2]
 | .Q=>fun r=>[.sl r.length (aBP r)]
def LT.enc(t:LT)(l:List t.ty):List PV:=l.flatMap t.rowP
theorem LT.wide(t:LT):qS t.w t.enc t.rowP:=fun _=>⟨rfl,fun x=>by cases t<;>rfl⟩
theorem LT.mR(t:LT):0<t.w:=by cases t<;>decide
def LT.nth:(t:LT)->List t.ty->Nat->t.ty
 | .V=>Geo.nth
 | .S=>bK
 | .R=>Geo.aB
 | .I=>gH
 | .B=>aJ8
 | .P=>aY
 | .Q=>cV
theorem LT.nth_eq(t:LT)(l:List t.ty){i:Nat}(h:i<l.length):t.nth l i=l[i] :=by
 cases t
 ·exact Go.Proofs.YtdaeofhdgabhjaaGreat.nth_eq h
 ·exact lW h
 ·exact lZ h
 ·exact nP h
 ·exact nP h
 ·exact sI h
 ·exact nP h
inductive SV where
 |any|undef|nil
 |int (k:IntKind) (n:Int)
 |bool (b:Bool)
 |lit (b:Bool)
 |prop (p:Prop) (d:Decidable p)
 |str (s:ByteArray)
 |agg (l:List SV)
 |tup (l:List SV)
 |lst (t:LT) (l:List t.ty)
 |sl (n:Nat) (cells:List SV)
 |pe (t:LT) (l:List t.ty) (i off:Nat)
 |pro (cells:List SV) (off:Nat)
 |fn (f:Nat) (first caps:List SV)
 |fnp (f:Nat) (first caps:List SV)
 |clo1 (pv:PV) (t:LT) (q:t.ty->Bool) (dom:t.ty->Prop)
 |clo2 (pv:PV) (t:LT) (q:t.ty->t.ty->Int) (dom:t.ty->t.ty->Prop)
 |ptr (s off:Nat)
 |pte (s:Nat) (t:LT) (i off:Nat)
 |own (s:Nat) (t:LT) (n:Nat)
 |owns (s:Nat) (t:LT) (o n:Nat)
 |ownx (s n:Nat)
 |ptb (F:Nat->Bool) (n off:Nat)
 |ownf (x:Nat) (t:LT) (a n:Nat)
 |ptef (x:Nat) (t:LT) (a i off:Nat)
 |ptf (x a:Nat)
 |owF (x n:Nat)
 |junk
 |mp (s:Nat)
def NM:Nat:=1000000
def ncl(x:Nat):Nat:=x % NM
def idx(s:Nat):Nat:=(s/2^cls s-1)/2
theorem Iv(n i:Nat):idx (sit n i)=i:=by
 unfold idx;rw[dM];unfold sit;rw[Nat.mul_div_cancel_left _ (Nat.two_pow_pos n)];omega
theorem Tb(n i:Nat):0<sit n i:=Nat.mul_pos (Nat.two_pow_pos n) (by omega)
structure Sites where
 inn:Nat->Nat->Nat
 nm:Nat->Nat
 sub:Nat->Nat
 h1:∀x a,nm (inn x a)=x
 h2:∀x a,sub (inn x a)=a
 h3:∀x a,cls (inn x a)=ncl x
 h4:∀x,x<NM->inn x 0=sit x 0
theorem Qe:Nonempty Sites:=⟨⟨fun x a=>sit (x % NM) (sit (x/NM) a-1),fun s=>cls (idx s+1)*NM+cls s,fun s=>idx (idx s+1),
 fun x a=>by
  rw[Iv,dM,Nat.sub_add_cancel (Tb _ _),dM];exact Nat.div_add_mod' x NM,
 fun x a=>by
  rw[Iv,Nat.sub_add_cancel (Tb _ _),Iv],
 fun x a=>dM _ _,
 fun x h=>by
  rw[Nat.mod_eq_of_lt h,Nat.div_eq_of_lt h];rfl⟩⟩
def sites:Sites:=Classical.choice Qe
def inn(x a:Nat):Nat:=sites.inn x a
def aW(x:Nat):Nat:=inn x 0
def nm(s:Nat):Nat:=sites.nm s
def sub(s:Nat):Nat:=sites.sub s
theorem uN(x a:Nat):nm (inn x a)=x:=sites.h1 x a
theorem pS(x a:Nat):sub (inn x a)=a:=sites.h2 x a
theorem dI(x a:Nat):cls (inn x a)=ncl x:=sites.h3 x a
theorem dC{x y a b:Nat}(h:inn x a=inn y b):x=y/\a=b:=⟨by rw[<-uN x a,h,uN],by rw[<-pS x a,h,pS]⟩
theorem fW{x y:Nat}(h:aW x=aW y):x=y:=(dC h).1
theorem pW{x:Nat}(h:x<NM):aW x=sit x 0:=sites.h4 x h
def aBy(n:Nat)(F:Nat->Bool):List PV:=(List.range n).map fun k=> .bool (F k)
theorem aAq(F:Nat->Bool){n k:Nat}(h:k<n):(aBy n F)[k]? =some (.bool (F k)):=by
 unfold aBy;rw[List.getElem?_map,List.getElem?_range h];rfl
def lN(l:List AV):AV:=match cK l with|some q=> .p (.tup q)|none=> .tup l
mutual
def SV.av:SV->AV
 | .any=> .any
 | .undef=> .undef
 | .nil=> .nil
 | .int k n=> .p (.int k n)
 | .bool b=> .p (.bool b)
 | .lit b=> .p (.bool b)
 | .prop p d=> .p (.bool (@decide p d))
 | .str s=> .p (.str s)
 | .agg l=>eN (avs l)
 | .tup l=>lN (avs l)
 | .lst t l=> .p (.sl l.length (t.enc l))
 | .sl n cs=>(match cK (avs cs)with|some q=> .p (.sl n q)|none=> .any)
 | .pe t l i off=> .p (.pro (t.enc l) (i*t.w+off))
 | .pro cs off=>(match cK (avs cs)with|some q=> .p (.pro q off)|none=> .any)
 | .fn f a b=> .fn (.func f) (avs a) (avs b)
 | .fnp f a b=>(match cK (avs a),cK (avs b)with|some x,some y=> .p (.fn (.func f) x y)|_,_=> .any)
 | .clo1 pv _ _ _=> .p pv
 | .clo2 pv _ _ _=> .p pv
 | .ptr s off=> .ptr (aW s) off
 | .pte s t i off=> .ptr (aW s) (i*t.w+off)
 | .own s _ n=> .own (aW s) 0 n
 | .owns s t o n=> .own (aW s) (o*t.w) n
 | .ownx s n=> .own (aW s) 0 n
 | .ptb F n off=> .p (.pro (aBy n F) off)
 | .ownf x _ a n=> .own (inn x (a+1)) 0 n
 | .ptef x t a i off=> .ptr (inn x (a+1)) (i*t.w+off)
 | .ptf x a=> .ptr (aW x) a
 | .owF x n=> .own (aW x) 0 n
 | .junk=> .p .junk
 | .mp s=> .mp (aW s)
def avs:List SV->List AV
 |[] =>[]
 |x::l=>x.av::avs l
end
theorem eP:∀l:List SV,avs l=l.map SV.av
 |[] =>rfl
 |x::l=>by rw[avs,eP l];rfl
theorem dG(l:List SV):(avs l).length=l.length:=by rw[eP,List.length_map]
theorem iZ(l m:List SV):avs (l++m)=avs l++avs m:=by rw[eP,eP,eP,List.map_append]
theorem Cl(l:List SV)(k:Nat):avs (l.drop k)=(avs l).drop k:=by rw[eP,eP,List.map_drop]
theorem Ck(l:List SV)(k:Nat):avs (l.take k)=(avs l).take k:=by rw[eP,eP,List.map_take]
theorem vZ(l:List SV)(k:Nat):(avs l)[k]? =(l[k]?).map SV.av:=by rw[eP,List.getElem?_map]
theorem Un(l:List SV)(k:Nat)(x:SV):avs (l.set k x)=(avs l).set k x.av:=by rw[eP,eP,List.map_set]
def LT.row:(t:LT)->t.ty->List SV
 | .V=>fun v=>[.int .i64 v.x,.int .i64 v.y]
 | .S=>fun s=>[.int .i64 s.a.x,.int .i64 s.a.y,.int .i64 s.b.x,.int .i64 s.b.y]
 | .R=>fun r=>[.lst .V r]
 | .I=>fun n=>[.int .i64 n]
 | .B=>fun b=>[.bool b]
 | .P=>fun p=>[.int .i64 p.1,.int .i64 p.2]
 | .Q=>fun r=>[.lst .I r]
theorem LT.Hq(t:LT)(x:t.ty):avs (t.row x)=(t.rowP x).map .p:=by
 cases t<;>rfl
def LT.dec:(t:LT)->List SV->Option t.ty
 | .V,[.int .i64 x,.int .i64 y] =>some ⟨x,y⟩
 | .S,[.int .i64 a,.int .i64 b,.int .i64 c,.int .i64 d] =>some ⟨⟨a,b⟩,⟨c,d⟩⟩
 | .R,[.lst .V r] =>some r
 | .R,[.nil] =>none
 | .I,[.int .i64 n] =>some n
 | .Q,[.lst .I r] =>some r
 | .B,[.bool b] =>some b
 | .B,[.lit b] =>some b
 | .B,[.prop p d] =>some (@decide p d)
 | .P,[.int .i64 (.ofNat a),.int .i64 (.ofNat b)] =>some (a,b)
 |_,_=>none
theorem LT.Bk{t:LT}{cs:List SV}{x:t.ty}(h:t.dec cs=some x):avs cs=(t.rowP x).map .p:=by
 unfold LT.dec at h;split at h<;>first|(cases h;done)|(cases h;rfl)
def LT.decs(t:LT):Nat->List SV->Option (List t.ty)
 |0,[] =>some []
 |0,_=>none
 |n+1,cs=>match t.dec (cs.take t.w),t.decs n (cs.drop t.w)with
  |some x,some l=>some (x::l)
  |_,_=>none
theorem LT.sP{t:LT}:∀{n:Nat} {cs:List SV} {l:List t.ty},t.decs n cs=some l->l.length=n/\avs cs=(t.enc l).map .p
 |0,[],l,h=>by simp only[LT.decs,Option.some.injEq]at h;subst h;exact⟨rfl,rfl⟩
 |0,_::_,l,h=>by simp[LT.decs]at h
 |n+1,cs,l,h=>by
  unfold LT.decs at h;split at h
  ·rename_i x l' h1 h2;cases h;obtain⟨h3,h4⟩:=LT.sP h2;have h5:=LT.Bk h1;refine⟨by simp[h3],?_⟩
   have h6:avs cs=avs (cs.take t.w)++avs (cs.drop t.w):=by rw[<-iZ,List.take_append_drop]
   rw[h6,h5,h4];simp only[LT.enc,List.flatMap_cons,List.map_append]
  ·cases h
theorem bT:∀l:List PV,cK (l.map .p)=some l
 |[] =>rfl
 |x::l=>by simp only[List.map_cons,cK,bT l,Option.map_some]
theorem iX(l:List PV):eN (l.map .p)= .p (.agg l):=by unfold eN;rw[bT]
theorem LT.sub(t:LT)(l:List t.ty){i:Nat}(h:i<l.length)(off m:Nat)(hm:off+m<=t.w):
  ((t.enc l).drop (i*t.w+off)).take m=((t.rowP (t.nth l i)).drop off).take m:=by
 rw[LT.nth_eq t l h];exact t.wide.sub l h off m hm
theorem LT.get(t:LT)(l:List t.ty){i:Nat}(h:i<l.length)(off:Nat)(hm:off<t.w):
  (t.enc l)[i*t.w+off]? =(t.rowP (t.nth l i))[off]? :=by
 have h1:=congrArg (fun l=>l[0]?) (LT.sub t l h off 1 (by omega))
 simpa[List.getElem?_take,List.getElem?_drop]using h1
def svK:Value->SV
 | .int k n=> .int k n
 | .bool b=> .lit b
 | .string s=> .str s
 | .slice none 0 0=> .nil
 |_=> .any
theorem Zm(v:Value):(svK v).av=iU v:=by
 unfold svK;split<;>simp only[SV.av,iU]
theorem Ii:∀vs:List Value,avs (vs.map svK)=vs.map iU
 |[] =>rfl
 |v::vs=>by simp only[List.map_cons,avs,Zm,Ii vs]
def svC:Value->SV
 | .agg cs=>if cs.toList.all (·.oneCell')=true then .agg (cs.toList.map svK)else .any
 | .tuple vs=>if vs.toList=[]then .undef else .any
 |v=>svK v
theorem aE2(v:Value):(svC v).av=pT v:=by
 unfold svC;split
 ·split<;>rename_i h<;>simp only[pT,SV.av,Ii,h] <;>rfl
 ·split<;>rename_i h<;>simp only[pT,SV.av,h,if_true,if_false]
 ·rename_i h1 h2;rw[Zm];unfold pT;split<;>simp_all
abbrev Frm:=List (Nat×SV)
def Frm.at:Frm->Nat->SV
 |[],_=> .undef
 |(d,v)::F,t=>match Nat.beq t d with|true=>v|false=>Frm.at F t
theorem Frm.iA(d:Nat)(v:SV)(F:Frm)(t:Nat):Frm.at ((d,v)::F) t=if t=d then v else Frm.at F t:=by
 conv=>lhs;unfold Frm.at
 split
 ·rename_i h;rw[if_pos (Nat.eq_of_beq_eq_true h)]
 ·rename_i h;rw[if_neg (Nat.ne_of_beq_eq_false h)]
def Frm.av(n:Nat)(F:Frm):List AV:=(List.range n).map fun t=>(F.at t).av
theorem Frm.dQ(n:Nat)(F:Frm):(F.av n).length=n:=by simp[Frm.av]
theorem Frm.iR{n:Nat}{F:Frm}{t:Nat}(h:t<n):(F.av n).getD t .any=(F.at t).av:=by
 unfold Frm.av;rw[List.getD_eq_getElem?_getD,List.getElem?_map,List.getElem?_range h];rfl
theorem Frm.aFy{n:Nat}{F:Frm}{d:Nat}{v:SV}(h:d<n):hU (F.av n) (some d) v.av=Frm.av n ((d,v)::F):=by
 unfold hU;apply List.ext_getElem?;intro i;rw[List.getElem?_set];by_cases hi:i<n
 ·by_cases e:d=i
  ·subst e;rw[if_pos rfl,if_pos (by rw[Frm.dQ];exact h)]
   unfold Frm.av;rw[List.getElem?_map,List.getElem?_range h,Option.map_some,Frm.iA,if_pos rfl]
  ·rw[if_neg e];unfold Frm.av;rw[List.getElem?_map,List.getElem?_map,List.getElem?_range hi,Option.map_some,Option.map_some,Frm.iA,if_neg (fun h=>e h.symm)]
 ·have h1:(Frm.av n ((d,v)::F))[i]? =none:=List.getElem?_eq_none (by rw[Frm.dQ];omega)
  have h2:(F.av n)[i]? =none:=List.getElem?_eq_none (by rw[Frm.dQ];omega)
  rw[h1];by_cases e:d=i
  ·omega
  ·rw[if_neg e,h2]
def Ay(n:Nat)(F:Frm):Operand->SV
 | .tmp t=>(match Nat.blt t n with|true=>F.at t|false=> .any)
 | .const v=>svC v
 | .func f=> .fnp f [] []
 | .global _=> .any
theorem Ci{n:Nat}{F:Frm}(x:Operand):(Ay n F x).av=kF (F.av n) x:=by
 cases x with
 |tmp t=>
  show(match Nat.blt t n with|true=>F.at t|false=>SV.any).av=(F.av n).getD t .any
  cases h:Nat.blt t n with
  |true=>rw[Frm.iR (by simp[Nat.blt]at h;omega)]
  |false=>
   have h2:¬(t+1<=n):=fun hh=>by
    have:=Nat.ble_eq_true_of_le hh;rw[show Nat.blt t n=Nat.ble (t+1) n from rfl]at h
    rw[h]at this;cases this
   rw[List.getD_eq_getElem?_getD,List.getElem?_eq_none (by rw[Frm.dQ];exact Nat.le_of_not_lt h2)];rfl
 |const v=>exact aE2 v
 |func f=>rfl
 |global g=>rfl
inductive SOb where
 |box (ty:TypeId) (cells:List SV)
 |row (ty:TypeId) (t:LT) (l:List t.ty)
 |arr (ty esz:Nat) (cells:List SV)
 |fam (ty ity:TypeId) (t:LT) (L:List (List t.ty)) (ov:List (Nat×SV))
 |mp (ks:List (Nat×Nat))
def oO(x:Nat){α:Type}(L:List (List α))(ov:List (Nat×SV))(i:Nat):AV:=match ov.lookup i with
 |some v=>v.av
 |none=> .own (inn x (i+1)) 0 (L.getD i []).length
def lQ(ks:List (Nat×Nat)):List (List Int×AV):=ks.map fun k=>([(k.1:Int),(k.2:Int)],.p (.bool true))
theorem kJ:∀ks:List (Nat×Nat),kD (lQ ks)=(ks.flatMap fun k=>[PV.agg (qN [(k.1:Int),(k.2:Int)]),.bool true]).map .p
 |[] =>rfl
 |k::ks=>by
  have:=kJ ks;unfold kD lQ at*;simp only[List.map_cons,List.flatMap_cons,List.map_append,this];rfl
def SOb.ob(x:Nat):SOb->Ob
 | .box ty cs=>⟨ty,0,avs cs⟩
 | .row ty t l=>⟨ty,t.w,(t.enc l).map .p⟩
 | .arr ty esz cs=>⟨ty,esz,avs cs⟩
 | .fam ty _ _ L ov=>⟨ty,1,(List.range L.length).map (oO x L ov)⟩
 | .mp ks=>⟨1,0,kD (lQ ks)⟩
def SOb.inner(a:Nat):SOb->Option Ob
 | .fam _ ity t L ov=>(match ov.lookup a with|some _=>none|none=>(L[a]?).map fun l=>⟨ity,t.w,(t.enc l).map .p⟩)
 |_=>none
def SOb.flat:SOb->Bool
 | .fam .. =>false
 |_=>true
theorem SOb.pZ{ob:SOb}(h:ob.flat=true)(a:Nat):ob.inner a=none:=by cases ob<;>first|rfl|cases h
abbrev bD:=List (Nat×Option SOb)
def bD.at:bD->Nat->Option SOb
 |[],_=>none
 |(k,x)::L,s=>match Nat.beq s k with|true=>x|false=>bD.at L s
abbrev Sg:=Nat->Option SOb
open Classical in
def Sg.a(σ:Sg):Sto:=fun s=>if inn (nm s) (sub s)=s then(match sub s with
 |0=>(σ (nm s)).map (SOb.ob (nm s))
 |a+1=>(σ (nm s)).bind (SOb.inner a))else none
theorem Sg.cE(σ:Sg)(x:Nat):σ.a (aW x)=(σ x).map (SOb.ob x):=by
 unfold Sg.a aW;rw[pS,uN,if_pos rfl]
theorem Sg.fS(σ:Sg)(x a:Nat):σ.a (inn x (a+1))=(σ x).bind (SOb.inner a):=by
 unfold Sg.a;rw[pS,uN,if_pos rfl]
theorem Sg.qQ(σ:Sg){s:Nat}(h:∀x a,s≠inn x a):σ.a s=none:=by
 unfold Sg.a;exact if_neg fun e=>h _ _ e.symm
theorem dV(s:Nat):(∃x,s=aW x)\/(∃x a,s=inn x (a+1))\/∀x a,s≠inn x a:=by
 by_cases h:∃x a,s=inn x a
 ·obtain⟨x,a,rfl⟩:=h;cases a with
  |zero=>exact .inl ⟨x,rfl⟩
  |succ a=>exact .inr (.inl ⟨x,a,rfl⟩)
 ·exact .inr (.inr fun x a e=>h ⟨x,a,e⟩)
def bD.up(W:bD)(σ:Sg):Sg:=fun s=>match W.lookup s with|some x=>x|none=>σ s
theorem bD.Rz(W L:bD):W.up L.at=(W++L).at:=by
 funext s
 unfold bD.up;induction W with
 |nil=>rfl
 |cons q W ih=>
  obtain⟨k,x⟩:=q;rw[List.cons_append];show _=(match Nat.beq s k with|true=>x|false=>bD.at (W++L) s)
  rw[List.lookup_cons];cases h:Nat.beq s k with
  |true=>rw[beq_iff_eq.2 (Nat.eq_of_beq_eq_true h)]
  |false=>rw[beq_eq_false_iff_ne.2 (Nat.ne_of_beq_eq_false h)];exact ih
def cR(σ:Sg)(rd:List Nat)(W:bD)(R':List Nat)(W':List (Nat×Option Ob)):Prop:=
 inC R' (rd.map ncl)/\inC (W'.map (·.1)) (W.map fun q=>ncl q.1)/\cB σ.a W'=(W.up σ).a
theorem cR.read(σ:Sg)(rd:List Nat):cR σ rd [] (rd.map aW) [] :=by
 refine⟨fun s hs=> ?_,fun s hs=>(List.not_mem_nil hs).elim,rfl⟩
 obtain⟨x,hx,rfl⟩:=List.mem_map.1 hs;rw[show cls (aW x)=ncl x from dI x 0]
 exact List.mem_map_of_mem hx
def frs(σ:Sg)(n:Nat):Bool:=match Nat.blt n NM,σ n with
 |true,none=>true
 |_,_=>false
theorem iP{σ:Sg}{n:Nat}(h:frs σ n=true):aW n=sit n 0/\σ n=none:=by
 unfold frs at h;split at h
 ·rename_i h1 h2;exact⟨pW (by unfold Nat.blt at h1;exact Nat.le_of_ble_eq_true h1),h2⟩
 ·cases h
def vP:Option SOb->Bool
 |some ob=>ob.flat
 |none=>true
def bD.sto(W:bD):List (Nat×Option Ob):=W.map fun q=>(aW q.1,q.2.map (SOb.ob q.1))
theorem Qs(W:bD)(x:Nat):W.sto.lookup (aW x)=(W.lookup x).map fun o=>o.map (SOb.ob x):=by
 induction W with
 |nil=>rfl
 |cons q W ih=>
  obtain⟨k,o⟩:=q;show((aW k,o.map (SOb.ob k))::bD.sto W).lookup (aW x)=_;rw[List.lookup_cons,List.lookup_cons];by_cases h:x=k
  ·subst h;simp
  ·rw[beq_eq_false_iff_ne.2 h,beq_eq_false_iff_ne.2 fun e=>h (fW e)];exact ih
theorem Co{W:bD}{s:Nat}(h:∀x,s≠aW x):W.sto.lookup s=none:=by
 induction W with
 |nil=>rfl
 |cons q W ih=>
  show((aW q.1,q.2.map (SOb.ob q.1))::bD.sto W).lookup s=_;rw[List.lookup_cons,beq_eq_false_iff_ne.2 (h q.1)];exact ih
theorem cR.flat{σ:Sg}{rd:List Nat}{W:bD}(h:∀q∈W,vP (σ q.1)=true/\vP q.2=true):cR σ rd W (rd.map aW) W.sto:=by
 refine⟨(cR.read σ rd).1,fun s hs=> ?_,?_⟩
 ·unfold bD.sto at hs;rw[List.map_map]at hs;obtain⟨q,hq,rfl⟩:=List.mem_map.1 hs;show cls (aW q.1)∈_;rw[show cls (aW q.1)=ncl q.1 from dI q.1 0]
  exact List.mem_map_of_mem (f:=fun q:Nat×Option SOb=>ncl q.1) hq
 ·funext s
  unfold cB;rcases dV s with⟨x,rfl⟩|⟨x,a,rfl⟩|hno
  ·rw[Qs,Sg.cE,Sg.cE];unfold bD.up;cases W.lookup x<;>rfl
  ·rw[Co fun y e=>by have:=(dC e).2;omega,Sg.fS,Sg.fS]
   unfold bD.up;cases hl:W.lookup x with
   |none=>rfl
   |some o=>
    have hm:(x,o)∈W:=by
     clear h;induction W with
     |nil=>cases hl
     |cons q W ih=>
      obtain⟨k,p⟩:=q;rw[List.lookup_cons]at hl;by_cases e:x=k
      ·subst e;simp at hl;subst hl;exact List.mem_cons_self
      ·rw[beq_eq_false_iff_ne.2 e]at hl;exact List.mem_cons_of_mem _ (ih hl)
    obtain⟨h1,h2⟩:=h _ hm;dsimp only at h1 h2|-;have nofam:∀p:Option SOb,vP p=true->p.bind (SOb.inner a)=none:=fun p hp=>by
     cases p with
     |none=>rfl
     |some ob=>exact SOb.pZ hp a
    rw[nofam _ h1,nofam _ h2]
  ·rw[Co fun y e=>hno y 0 e,Sg.qQ σ hno,Sg.qQ _ hno]
end
end Go.Proofs.YtdaeofhdgabhjaaGreat
namespace Go.Proofs.YtdaeofhdgabhjaaGreat
open Go.RowKit
noncomputable section
def aK(x:Int):Prop:= -9223372036854775808<=x/\x<=9223372036854775807
theorem mJ{x:Int}(h:aK x):IntKind.i64.wrap x=x:=by
 unfold aK at h;exact IntWalk.i64_in _ (by omega)
def ix(a:Int)(n:Nat):Prop:=0<=a/\a<(n:Int)
theorem eC{k n:Nat}(h:k<n):ix k n:=⟨by omega,by omega⟩
theorem dU{k n:Nat}(h:0<n):ix (((k % n:Nat):Int)) n:=eC (Nat.mod_lt _ h)
abbrev SR:=Option (List Prop×SV×List Nat×bD)
abbrev SE:=Operand->SV
def SE.a(E:SE):Operand->AV:=fun x=>(E x).av
def yY(P:Program)(n:Nat)(o:Oper)(E:SE)(σ:Sg)(R:SR):Prop:=
 ∀ps r rd W,R=some (ps,r,rd,W)->(∀p∈ps,p)->AOp P n o E.a σ.a fun r' R' W'=>r'=r.av/\cR σ rd W R' W'
def SV.ok:SV->Prop
 | .pe _ l i _=>i<l.length
 |_=>True
def SV.ape:SV->Bool
 | .pe .. =>true
 |_=>false
theorem SV.qX{v:SV}(h:v.ape=false):v.ok:=by cases v<;>first|trivial|cases h
def Bl(x:SV):Option (List SV):=match x with
 | .agg l=>some l
 | .tup _=>none
 | .any=>none
 | .undef=>none
 | .sl n cs=>(match cK (avs cs)with|some _=>some [.sl n cs] |none=>none)
 | .pro cs o=>(match cK (avs cs)with|some _=>some [.pro cs o] |none=>none)
 | .fnp f a b=>(match cK (avs a),cK (avs b)with|some _,some _=>some [.fnp f a b] |_,_=>none)
 | .clo1 .. =>none
 | .clo2 .. =>none
 | .junk=>none
 |x=>some [x]
theorem Kb(l:List AV):kH (eN l)=some l:=by
 unfold eN;cases h:cK l with
 |some q=>rw[show kH (.p (.agg q))=some (q.map .p)from rfl,<-eD h]
 |none=>rfl
theorem yO{x:SV}{l:List SV}(h:Bl x=some l):kH x.av=some (avs l):=by
 cases x<;>simp only[Bl,reduceCtorEq,Option.some.injEq]at h<;>first|(subst h;rfl)|skip
 ·subst h;exact Kb _
 ·rename_i n cs;cases hq:cK (avs cs)with
  |none=>rw[hq]at h;cases h
  |some q=>rw[hq]at h;cases h;simp only[avs,SV.av,hq,kH]
 ·rename_i cs o;cases hq:cK (avs cs)with
  |none=>rw[hq]at h;cases h
  |some q=>rw[hq]at h;cases h;simp only[avs,SV.av,hq,kH]
 ·rename_i f a b;cases ha:cK (avs a)<;>cases hb:cK (avs b)<;>rw[ha,hb]at h<;>simp only[reduceCtorEq,Option.some.injEq]at h;subst h;simp only[avs,SV.av,ha,hb,kH]
def Hg(cs:List SV)(off:Nat):List SV->List SV
 |[] =>cs
 |x::l=>Hg (cs.set off x) (off+1) l
theorem vT:∀(l cs:List SV) (off:Nat),avs (Hg cs off l)=kG (avs cs) off (avs l)
 |[],cs,off=>rfl
 |x::l,cs,off=>by rw[Hg,vT l,Un];rfl
def Fg(place:Nat->Option (Nat×Nat))(cells:List SV):List (Nat×SV)->Option (List SV)
 |[] =>some cells
 |(i,v)::rest=>match place i,Bl v with
  |some (off,size),some l=>(match Nat.beq l.length size,Nat.ble (off+size) cells.length with
   |true,true=>Fg place (Hg cells off l) rest
   |_,_=>none)
  |_,_=>none
theorem Ch{place:Nat->Option (Nat×Nat)}:∀(parts:List (Nat×SV)) {cells l:List SV},Fg place cells parts=some l->qZ place (avs cells) (parts.map fun q=>(q.1,q.2.av))=some (avs l)
 |[],cells,l,h=>by simp only[Fg,Option.some.injEq]at h;subst h;rfl
 |(i,v)::rest,cells,l,h=>by
  unfold Fg at h;split at h
  ·rename_i off size m h1 h2;split at h
   ·rename_i h3 h4;have:=Ch rest h;show(match place i,kH v.av with|some (off,size),some l=>if l.length=size/\off+size<=(avs cells).length then qZ place (kG (avs cells) off l) (rest.map fun(q:Nat×SV)=>(q.1,q.2.av))else none|_,_=>none)=_
    rw[h1,yO h2];dsimp only;rw[if_pos ⟨by rw[dG];exact Nat.eq_of_beq_eq_true h3,by rw[dG];exact Nat.le_of_ble_eq_true h4⟩,<-vT]
    exact this
   ·cases h
  ·cases h
def uA(P:Program)(t:TypeId)(cs:List SV)(off:Nat):Option SV:=match tok P t,oA P t with
 |true,true=>(match Nat.beq ((cs.drop off).take (aZ P t)).length (aZ P t)with|true=>some (.agg ((cs.drop off).take (aZ P t)))|false=>none)
 |true,false=>cs[off]?
 |false,_=>none
theorem kU{P:Program}{t:TypeId}{cs:List SV}{off:Nat}{r:SV}(h:uA P t cs off=some r){K:AV->Prop}(hK:K r.av):yV P t (avs cs) off K:=by
 unfold uA at h;split at h
 ·rename_i h1 h2;split at h
  ·rename_i h3;cases h;refine⟨h1,?_⟩;rw[if_pos h2];refine⟨_,rfl,?_,?_⟩
   ·rw[<-Cl,<-Ck,dG];exact Nat.eq_of_beq_eq_true h3
   ·rw[<-Cl,<-Ck];exact hK
  ·cases h
 ·rename_i h1 h2;refine⟨h1,?_⟩;rw[if_neg (by rw[h2];simp)]
  exact⟨r.av,by rw[vZ,h];rfl,hK⟩
 ·cases h
theorem Cd{P:Program}{t:TypeId}{cs:List PV}{off:Nat}{K:AV->Prop}(h:yV P t (cs.map .p) off K):Yv P t cs off fun r=>K (.p r):=by
 obtain⟨h1,h2⟩:=h;refine⟨h1,?_⟩;split at h2
 ·rename_i hg;rw[if_pos hg];obtain⟨l,h3,h4,h5⟩:=h2;refine⟨(cs.drop off).take (aZ P t),rfl,?_,?_⟩
  ·rw[<-h3]at h4;simpa using h4
  ·rw[<-h3,<-List.map_drop,<-List.map_take,iX]at h5;exact h5
 ·rename_i hg;rw[if_neg hg];obtain⟨x,h3,h4⟩:=h2;rw[List.getElem?_map]at h3;cases hc:cs[off]? with
  |none=>rw[hc]at h3;cases h3
  |some y=>rw[hc]at h3;cases h3;exact⟨y,rfl,h4⟩
theorem xY{P:Program}{t:TypeId}{lt:LT}{l:List lt.ty}{i off:Nat}(hi:i<l.length)(hoff:off+(match oA P t with|true=>aZ P t|false=>1)<=lt.w){f:List PV->List AV}(hf:f=List.map .p){K:AV->Prop}
  (h:yV P t (f (lt.rowP (lt.nth l i))) off K):yV P t (f (lt.enc l)) (i*lt.w+off) K:=by
 subst hf;obtain⟨h1,h2⟩:=h;refine⟨h1,?_⟩;split at h2
 ·rename_i hg;rw[hg]at hoff;rw[if_pos hg];obtain⟨m,h3,h4,h5⟩:=h2;refine⟨m,?_,h4,h5⟩;rw[<-List.map_drop,<-List.map_take,LT.sub lt l hi off _ hoff,<-h3,List.map_take,List.map_drop]
 ·rename_i hg;have hg':oA P t=false:=by simpa using hg
  rw[hg']at hoff;rw[if_neg hg];obtain⟨x,h3,h4⟩:=h2;refine⟨x,?_,h4⟩;rw[List.getElem?_map]at h3|-;rw[LT.get lt l hi off (by dsimp only at hoff;omega)];exact h3
def zS:List (Nat×SV)->Nat->List Prop
 |[],_=>[]
 |q::l,a=>(a≠q.1)::zS l a
theorem kI:∀{ov:List (Nat×SV)} {a:Nat},(∀p∈zS ov a,p)->ov.lookup a=none
 |[],_,_=>rfl
 |q::l,a,h=>by
  rw[List.lookup_cons,beq_eq_false_iff_ne.2 (h _ List.mem_cons_self)];exact kI fun p hp=>h p (List.mem_cons_of_mem _ hp)
theorem cR.readI(σ:Sg)(x a:Nat):cR σ [x] [] [inn x (a+1)] [] :=by
 refine⟨fun s hs=> ?_,fun s hs=>(List.not_mem_nil hs).elim,rfl⟩
 rw[List.mem_singleton.1 hs,dI];exact List.mem_singleton.2 rfl
theorem aBc(x:Nat){α:Type}(L:List (List α))(ov:List (Nat×SV)){a:Nat}(h:a<L.length):((List.range L.length).map (oO x L ov))[a]? =some (oO x L ov a):=by
 rw[List.getElem?_map,List.getElem?_range h];rfl
theorem yC{σ:Sg}{x a:Nat}{ty ity:TypeId}{lt:LT}{L:List (List lt.ty)}{ov:List (Nat×SV)}(hs:σ x=some (.fam ty ity lt L ov))(ha:a<L.length)(ho:ov.lookup a=none):σ.a (inn x (a+1))=some ⟨ity,lt.w,(lt.enc (L.getD a [])).map .p⟩:=by
 rw[Sg.fS,hs];show(match ov.lookup a with|some _=>none|none=>(L[a]?).map fun l=>(⟨ity,lt.w,(lt.enc l).map .p⟩:Ob))=_
 rw[ho,List.getD_eq_getElem?_getD,List.getElem?_eq_getElem ha];rfl
theorem cR.cell{σ:Sg}{x:Nat}{ty ity:TypeId}{lt:LT}{L:List (List lt.ty)}{q:Nat×SV}{ov:List (Nat×SV)}{v:SV}(hs:σ x=some (.fam ty ity lt L (q::ov))):
  cR σ [x] [(x,some (.fam ty ity lt L ((q.1,v)::ov)))] [aW x] [(aW x,some ⟨ty,1,((List.range L.length).map (oO x L (q::ov))).set q.1 v.av⟩)] :=by
 refine⟨(cR.read σ [x]).1,fun s hs=> ?_,?_⟩
 ·rw[List.mem_singleton.1 hs];show cls (aW x)∈_;rw[show cls (aW x)=ncl x from dI x 0]
  exact List.mem_singleton.2 rfl
 ·funext s
  unfold cB;rcases dV s with⟨y,rfl⟩|⟨y,b,rfl⟩|hno
  ·rw[Sg.cE,Sg.cE,List.lookup_cons];unfold bD.up;rw[List.lookup_cons];by_cases e:y=x
   ·subst e;rw[beq_iff_eq.2 rfl,beq_iff_eq.2 rfl];dsimp only[Option.map_some]
    congr 1
    show(⟨ty,1,_⟩:Ob)=⟨ty,1,_⟩
    congr 1
    refine List.ext_getElem (by simp) fun i h1 h2=> ?_
    rw[List.getElem_set];rw[List.getElem_map,List.getElem_map,List.getElem_range];unfold oO;rw[List.lookup_cons,List.lookup_cons];by_cases hi:q.1=i
    ·subst hi;rw[if_pos rfl,beq_iff_eq.2 rfl]
    ·rw[if_neg hi,beq_eq_false_iff_ne.2 fun e=>hi e.symm]
   ·rw[beq_eq_false_iff_ne.2 e,beq_eq_false_iff_ne.2 fun h=>e (fW h)];rfl
  ·rw[Sg.fS,Sg.fS,List.lookup_cons,beq_eq_false_iff_ne.2 fun h=>by have:=(dC h).2;omega]
   unfold bD.up;rw[List.lookup_cons];by_cases e:y=x
   ·subst e;rw[beq_iff_eq.2 rfl,hs];show SOb.inner b (.fam ty ity lt L (q::ov))=SOb.inner b (.fam ty ity lt L ((q.1,v)::ov));unfold SOb.inner;dsimp only;rw[List.lookup_cons,List.lookup_cons];by_cases hi:b=q.1
    ·subst hi;rw[beq_iff_eq.2 rfl]
    ·rw[beq_eq_false_iff_ne.2 hi]
   ·rw[beq_eq_false_iff_ne.2 e];rfl
  ·rw[Sg.qQ _ hno,Sg.qQ _ hno,List.lookup_cons,beq_eq_false_iff_ne.2 (show s≠aW x from fun h=>hno x 0 h)];rfl
def Ym(P:Program)(t:TypeId)(x:SV)(σ:Sg):SR:=match x with
 | .pe lt l i off=>(match Nat.ble (off+(match oA P t with|true=>aZ P t|false=>1)) lt.w,uA P t (lt.row (lt.nth l i)) off with
   |true,some r=>some ([],r,[],[])
   |_,_=>none)
 | .pro cs off=>(match cK (avs cs),uA P t cs off with
   |some _,some r=>some ([],r,[],[])
   |_,_=>none)
 | .ptb F n off=>(match tok P t,oA P t with
   |true,false=>some ([off<n],.bool (F off),[],[])
   |_,_=>none)
 | .ptr s off=>(match σ s with
   |some (.box _ cs)=>(match uA P t cs off with|some r=>some ([],r,[s],[])|none=>none)
   |some (.arr _ _ cs)=>(match uA P t cs off with|some r=>some ([],r,[s],[])|none=>none)
   |_=>none)
 | .pte s lt i off=>(match σ s with
   |some (.row _ lt' l)=>(match decEq lt' lt,Nat.ble (off+(match oA P t with|true=>aZ P t|false=>1)) lt'.w,uA P t (lt'.row (lt'.nth l i)) off with
    | .isTrue _,true,some r=>some ([i<l.length],r,[s],[])
    |_,_,_=>none)
   |_=>none)
 | .ptf x a=>(match σ x with
   |some (.fam _ _ lt L ov)=>(match tok P t,oA P t with
    |true,false=>some ((a<L.length)::zS ov a,.ownf x lt a (L.getD a []).length,[x],[])
    |_,_=>none)
   |_=>none)
 | .ptef x lt a i off=>(match σ x with
   |some (.fam _ _ lt' L ov)=>(match decEq lt' lt,Nat.ble (off+(match oA P t with|true=>aZ P t|false=>1)) lt'.w,uA P t (lt'.row (lt'.nth (L.getD a []) i)) off with
    | .isTrue _,true,some r=>some ((a<L.length)::(i<(L.getD a []).length)::zS ov a,r,[x],[])
    |_,_,_=>none)
   |_=>none)
 |_=>none
theorem aAC{P:Program}{n:Nat}{o:Oper}{E:SE}{σ:Sg}{t:TypeId}{x:Operand}(ho:o.op= .load t x)(hx:(E x).ok):yY P n o E σ (Ym P t (E x) σ):=by
 intro ps r rd W h hp;unfold AOp;rw[ho];dsimp only;unfold Ym at h;split at h
 ·rename_i lt l i off e;split at h<;>cases h;rename_i h1 h2;rw[e]at hx;rw[show E.a x= .p (.pro (lt.enc l) (i*lt.w+off)) by unfold SE.a;rw[e];rfl]
  dsimp only;refine Cd (K:=fun r'=>r'=r.av/\_) ?_
  refine xY hx (Nat.le_of_ble_eq_true h1) rfl ?_;rw[<-LT.Hq];exact kU h2 ⟨rfl,cR.read σ []⟩
 ·rename_i cs off e;split at h<;>cases h;rename_i q h1 h2;rw[show E.a x= .p (.pro q off) by unfold SE.a;rw[e];simp only[SV.av,h1]]
  dsimp only;refine Cd (K:=fun r'=>r'=r.av/\_) ?_
  rw[<-eD h1];exact kU h2 ⟨rfl,cR.read σ []⟩
 ·rename_i F m off e;split at h<;>cases h;rename_i h1 h2;have hlt:off<m:=hp _ (List.mem_singleton.2 rfl);rw[show E.a x= .p (.pro (aBy m F) off) by unfold SE.a;rw[e];rfl]
  dsimp only;refine Cd (K:=fun r'=>r'=(SV.bool (F off)).av/\_) ?_
  exact⟨h1,by rw[if_neg (by rw[h2];simp)];exact⟨.p (.bool (F off)),by rw[List.getElem?_map,aAq F hlt];rfl,rfl,cR.read σ []⟩⟩
 ·rename_i s off e;rw[show E.a x= .ptr (aW s) off by unfold SE.a;rw[e];rfl]
  dsimp only;split at h
  ·rename_i ty cs hs;split at h<;>cases h;rename_i h2;refine⟨_,by rw[Sg.cE,hs];rfl,?_⟩
   exact kU h2 ⟨rfl,cR.read σ [s]⟩
  ·rename_i ty ez cs hs;split at h<;>cases h;rename_i h2;refine⟨_,by rw[Sg.cE,hs];rfl,?_⟩
   exact kU h2 ⟨rfl,cR.read σ [s]⟩
  ·cases h
 ·rename_i s lt i off e;rw[show E.a x= .ptr (aW s) (i*lt.w+off) by unfold SE.a;rw[e];rfl]
  dsimp only;split at h
  ·rename_i ty lt' l hs;split at h<;>cases h;rename_i he h1 h2 h3;subst he;refine⟨_,by rw[Sg.cE,hs];rfl,?_⟩
   refine xY (hp _ (by simp)) (Nat.le_of_ble_eq_true h2) rfl ?_
   rw[<-LT.Hq];exact kU h3 ⟨rfl,cR.read σ [s]⟩
  ·cases h
 ·rename_i y a e;rw[show E.a x= .ptr (aW y) a by unfold SE.a;rw[e];rfl]
  dsimp only;split at h
  ·rename_i ty ity lt L ov hs;split at h<;>cases h;rename_i h1 h2;have ha:a<L.length:=hp _ List.mem_cons_self;have ho:ov.lookup a=none:=kI fun p hq=>hp p (List.mem_cons_of_mem _ hq)
   refine⟨_,by rw[Sg.cE,hs];rfl,h1,?_⟩
   rw[if_neg (by rw[h2];simp)]
   refine⟨_,aBc y L ov ha,?_,cR.read σ [y]⟩;unfold oO;rw[ho];rfl
  ·cases h
 ·rename_i y lt a i off e;rw[show E.a x= .ptr (inn y (a+1)) (i*lt.w+off) by unfold SE.a;rw[e];rfl]
  dsimp only;split at h
  ·rename_i ty ity lt' L ov hs;split at h<;>cases h;rename_i he h1 h2 h3;subst he;have ha:a<L.length:=hp _ List.mem_cons_self;have hi:i<(L.getD a []).length:=hp _ (List.mem_cons_of_mem _ List.mem_cons_self);have ho:ov.lookup a=none:=kI fun p hq=>hp p (List.mem_cons_of_mem _ (List.mem_cons_of_mem _ hq))
   refine⟨_,yC hs ha ho,?_⟩;refine xY hi (Nat.le_of_ble_eq_true h2) rfl ?_;rw[<-LT.Hq];exact kU h3 ⟨rfl,cR.readI σ y a⟩
  ·cases h
 ·cases h
def Hn(P:Program)(t:TypeId)(a v:SV)(σ:Sg):SR:=match Bl v,(P.info? t).isSome with
 |some l,true=>(match Nat.beq l.length (aZ P t)with
  |true=>(match a with
   | .ptr s off=>(match σ s with
     |some (.box ty cs)=>(match Nat.ble (off+l.length) cs.length with|true=>some ([],.undef,[s],[(s,some (.box ty (Hg cs off l)))])|false=>none)
     |some (.arr ty ez cs)=>(match Nat.ble (off+l.length) cs.length with|true=>some ([],.undef,[s],[(s,some (.arr ty ez (Hg cs off l)))])|false=>none)
     |_=>none)
   | .pte s lt i off=>(match σ s with
     |some (.row ty lt' m)=>(match decEq lt' lt,Nat.ble (off+l.length) lt'.w,lt'.dec (Hg (lt'.row (lt'.nth m i)) off l)with
      | .isTrue _,true,some e=>some ([i<m.length],.undef,[s],[(s,some (.row ty lt' (m.set i e)))])
      |_,_,_=>none)
     |_=>none)
   | .ptf x a=>(match l,σ x with
     |[v],some (.fam ty ity lt L (q::ov))=>some ([a=q.1,a<L.length],.undef,[x],[(x,some (.fam ty ity lt L ((q.1,v)::ov)))])
     |_,_=>none)
   |_=>none)
  |false=>none)
 |_,_=>none
theorem Nk{a b c l:List AV}{k off:Nat}(hk:k=a.length)(hoff:off+l.length<=b.length):kG (a++b++c) (k+off) l=a++kG b off l++c:=by
 induction l generalizing b off with
 |nil=>rfl
 |cons x l ih=>
  simp only[List.length_cons]at hoff;rw[kG,kG,List.append_assoc,List.set_append_right _ _ (by omega),show k+off-a.length=off by omega,List.set_append_left _ _ (by omega),<-List.append_assoc,show k+off+1=k+(off+1) by omega,ih (by simp;omega)]
theorem aCw(t:LT)(l:List t.ty){i:Nat}(h:i<l.length)(e:t.ty):t.enc l=t.enc (l.take i)++t.rowP l[i] ++t.enc (l.drop (i+1))/\t.enc (l.set i e)=t.enc (l.take i)++t.rowP e++t.enc (l.drop (i+1)):=by
 constructor
 ·conv=>lhs;rw[<-List.take_append_drop i l,<-List.getElem_cons_drop h]
  unfold LT.enc;rw[List.flatMap_append,List.flatMap_cons,List.append_assoc]
 ·rw[List.set_eq_take_append_cons_drop,if_pos h];unfold LT.enc;rw[List.flatMap_append,List.flatMap_cons,List.append_assoc]
theorem Vd{P:Program}{n:Nat}{o:Oper}{E:SE}{σ:Sg}{t:TypeId}{a x:Operand}(ho:o.op= .store t a x):yY P n o E σ (Hn P t (E a) (E x) σ):=by
 intro ps r rd W h hp;unfold AOp;rw[ho];dsimp only;unfold Hn at h;split at h
 case h_2=>cases h
 rename_i l hl ht;split at h
 case h_2=>cases h
 rename_i hsz;have hl':kH (E.a x)=some (avs l):=yO hl;have hsz':(avs l).length=aZ P t:=by rw[dG];exact Nat.eq_of_beq_eq_true hsz
 split at h
 ·rename_i s off e;rw[show E.a a= .ptr (aW s) off by unfold SE.a;rw[e];rfl]
  unfold xG;dsimp only;split at h
  ·rename_i ty cs hs;split at h<;>cases h;rename_i h2;refine⟨_,_,by rw[Sg.cE,hs];rfl,hl',hsz',ht,?_,rfl,?_⟩
   ·show off+(avs l).length<=(avs cs).length;rw[dG,dG];exact Nat.le_of_ble_eq_true h2
   ·show cR _ _ _ _ [(aW s,some (⟨ty,0,kG (avs cs) off (avs l)⟩:Ob))];rw[<-vT];exact cR.flat (W:=[(s,some (.box ty (Hg cs off l)))]) fun q hq=>by rw[List.mem_singleton.1 hq,hs];exact⟨rfl,rfl⟩
  ·rename_i ty ez cs hs;split at h<;>cases h;rename_i h2;refine⟨_,_,by rw[Sg.cE,hs];rfl,hl',hsz',ht,?_,rfl,?_⟩
   ·show off+(avs l).length<=(avs cs).length;rw[dG,dG];exact Nat.le_of_ble_eq_true h2
   ·show cR _ _ _ _ [(aW s,some (⟨ty,ez,kG (avs cs) off (avs l)⟩:Ob))];rw[<-vT];exact cR.flat (W:=[(s,some (.arr ty ez (Hg cs off l)))]) fun q hq=>by rw[List.mem_singleton.1 hq,hs];exact⟨rfl,rfl⟩
  ·cases h
 ·rename_i s lt i off e;rw[show E.a a= .ptr (aW s) (i*lt.w+off) by unfold SE.a;rw[e];rfl]
  unfold xG;dsimp only;split at h
  ·rename_i ty lt' m hs;split at h<;>cases h;rename_i he h1 _ h2 h3;subst he;have hi:i<m.length:=hp _ (by simp)
   obtain⟨e1,e2⟩:=aCw lt' m hi h1;have h2':=Nat.le_of_ble_eq_true h2;have hlen:(lt'.enc (m.take i)).length=i*lt'.w:=by rw[lt'.wide.length,List.length_take,Nat.min_eq_left (by omega)]
   refine⟨_,_,by rw[Sg.cE,hs];rfl,hl',hsz',ht,?_,rfl,?_⟩
   ·show i*lt'.w+off+(avs l).length<=((lt'.enc m).map AV.p).length;rw[dG,List.length_map,lt'.wide.length];have:(i+1)*lt'.w<=m.length*lt'.w:=Nat.mul_le_mul_right _ (by omega)
    rw[Nat.add_mul]at this;omega
   ·have e3:kG ((lt'.enc m).map AV.p) (i*lt'.w+off) (avs l)=(lt'.enc (m.set i h1)).map AV.p:=by
     rw[e2,List.map_append,List.map_append,<-LT.Bk h3,vT,LT.Hq,LT.nth_eq lt' m hi]
     conv=>lhs;rw[e1,List.map_append,List.map_append]
     rw[Nk (by rw[List.length_map,hlen]) (by rw[dG,List.length_map,(lt'.wide []).2];exact h2')]
    show cR _ _ _ _ [(aW s,some (⟨ty,lt'.w,kG ((lt'.enc m).map AV.p) (i*lt'.w+off) (avs l)⟩:Ob))];rw[e3];exact cR.flat (W:=[(s,some (.row ty lt' (m.set i h1)))]) fun q hq=>by rw[List.mem_singleton.1 hq,hs];exact⟨rfl,rfl⟩
  ·cases h
 ·rename_i y b e;rw[show E.a a= .ptr (aW y) b by unfold SE.a;rw[e];rfl]
  unfold xG;dsimp only;split at h<;>cases h;rename_i v ty ity lt L q ov hs;have hb:b=q.1:=hp _ List.mem_cons_self;have hL:b<L.length:=hp _ (List.mem_cons_of_mem _ (List.mem_singleton.2 rfl));refine⟨_,_,by rw[Sg.cE,hs];rfl,hl',hsz',ht,?_,rfl,?_⟩
  ·show b+1<=((List.range L.length).map (oO y L (q::ov))).length;rw[List.length_map,List.length_range];omega
  ·subst hb;exact cR.cell hs
 ·cases h
def Ez(P:Program)(t:TypeId):Option (List SV):=match vL P t with
 |true=>(match P.info? t with
  |some i=>(match i.zero with|some z=>some (z.cells.toList.map svK)|none=>none)
  |none=>none)
 |false=>none
theorem oS{P:Program}{t:TypeId}{z:List SV}(h:Ez P t=some z):vM P t=some (avs z)/\vL P t=true:=by
 unfold Ez at h;split at h
 ·rename_i hz;split at h
  ·rename_i i hi;split at h<;>cases h;rename_i zv hzv;refine⟨?_,hz⟩;unfold vM;rw[hi,Option.bind_some,hzv,Option.map_some,Ii]
  ·cases h
 ·cases h
theorem cR.new{σ:Sg}{n:Nat}{ob:SOb}(h:σ n=none)(hs:aW n=sit n 0)(hf:ob.flat=true):cR σ [] [(n,some ob)] [] [(sit n 0,some (ob.ob n))] :=by
 rw[<-hs];exact cR.flat (rd:=[]) (W:=[(n,some ob)]) fun q hq=>by rw[List.mem_singleton.1 hq,h];exact⟨rfl,hf⟩
def Hp(P:Program)(σ:Sg)(n:Nat)(t:TypeId):SR:=match Ez P t,frs σ n with
 |some z,true=>some ([],.ptr n 0,[],[(n,some (.box t z))])
 |_,_=>none
theorem Vp{P:Program}{n:Nat}{o:Oper}{E:SE}{σ:Sg}{t:TypeId}(ho:o.op= .alloc t):yY P n o E σ (Hp P σ n t):=by
 intro ps r rd W h hp;unfold AOp;rw[ho];dsimp only;unfold Hp at h;split at h<;>cases h;rename_i z hz hf;obtain⟨h1,h2⟩:=oS hz;obtain⟨f1,f2⟩:=iP hf;exact⟨_,h1,h2,by show _=AV.ptr (aW n) 0;rw[f1],cR.new f2 f1 rfl⟩
def aBz(σ:Sg)(n:Nat)(t:TypeId)(x:SV):SR:=match Bl x,frs σ n with
 |some l,true=>some ([],.ptr n 0,[],[(n,some (.box t l))])
 |_,_=>none
theorem aB2{P:Program}{n:Nat}{o:Oper}{E:SE}{σ:Sg}{t:TypeId}{x:Operand}(ho:o.op= .box t x):yY P n o E σ (aBz σ n t (E x)):=by
 intro ps r rd W h hp;unfold AOp;rw[ho];dsimp only;unfold aBz at h;split at h<;>cases h;rename_i l hl hf;obtain⟨f1,f2⟩:=iP hf;exact⟨_,yO hl,by show _=AV.ptr (aW n) 0;rw[f1],cR.new f2 f1 rfl⟩
def Ho(P:Program)(t:TypeId)(parts:List (Nat×SV)):SR:=match Ez P t,Ir P t with
 |some z,true=>(match Fg (Ph P t) z parts with|some l=>some ([],.agg l,[],[])|none=>none)
 |_,_=>none
theorem Vl{P:Program}{n:Nat}{o:Oper}{E:SE}{σ:Sg}{t:TypeId}{parts:Array (Nat×Operand)}(ho:o.op= .build t parts):yY P n o E σ (Ho P t (parts.toList.map fun q=>(q.1,E q.2))):=by
 intro ps r rd W h hp;unfold AOp;rw[ho];dsimp only;unfold Ho at h;split at h
 ·rename_i z hz hk;split at h<;>cases h;rename_i l hl;obtain⟨h1,h2⟩:=oS hz;have:=Ch _ hl;rw[List.map_map]at this;exact⟨_,h1,h2,hk,_,this,rfl,cR.read σ []⟩
 ·cases h
def aBE:Nat->List SV->List SV
 |0,_=>[]
 |m+1,z=>z++aBE m z
theorem Tg(z:List SV):∀m,avs (aBE m z)=xE m (avs z)
 |0=>rfl
 |m+1=>by rw[aBE,iZ,Tg z m];rfl
def Ag(P:Program)(σ:Sg)(n:Nat)(t:TypeId)(len:Nat)(parts:List (Nat×SV)):SR:=match dO P t with
 |some e=>(match Ez P e,Nat.ble (len*aZ P e) 1000000,frs σ n with
  |some (z0::zs),true,true=>(match Fg (fun i=>some (i*aZ P e,aZ P e)) (aBE len (z0::zs)) parts with
   |some l=>some ([],.ownx n len,[],[(n,some (.arr e (aZ P e) l))])
   |none=>none)
  |_,_,_=>none)
 |none=>none
theorem Qh{P:Program}{n:Nat}{o:Oper}{E:SE}{σ:Sg}{t:TypeId}{len:Nat}{parts:Array (Nat×Operand)}(ho:o.op= .buildSlice t len parts):yY P n o E σ (Ag P σ n t len (parts.toList.map fun q=>(q.1,E q.2))):=by
 intro ps r rd W h hp;unfold AOp;rw[ho];dsimp only;unfold Ag at h;split at h
 ·rename_i e he;split at h
  ·rename_i z0 zs hz hb hf;split at h<;>cases h;rename_i l hl;obtain⟨f1,f2⟩:=iP hf;obtain⟨h1,h2⟩:=oS hz;have:=Ch _ hl;rw[List.map_map,Tg]at this;exact⟨e,_,he,h1,h2,(by simp[avs]),Nat.le_of_ble_eq_true hb,_,this,by show _=AV.own (aW n) 0 len;rw[f1],cR.new f2 f1 rfl⟩
  ·cases h
 ·cases h
def Yi(c a b:SV):Option SV:=match c with
 | .lit true=>some a
 | .lit false=>some b
 | .prop p d=>(match a,b with
   | .int .i64 x,.int .i64 y=>some (.int .i64 (@ite _ p d x y))
   | .bool x,.bool y=>some (.bool (@ite _ p d x y))
   | .prop q e,.lit y=>some (.bool (@ite _ p d (@decide q e) y))
   | .lit x,.prop q e=>some (.bool (@ite _ p d x (@decide q e)))
   | .bool x,.lit y=>some (.bool (@ite _ p d x y))
   | .lit x,.bool y=>some (.bool (@ite _ p d x y))
   |_,_=>none)
 | .bool c=>(match a,b with
   | .int .i64 x,.int .i64 y=>some (.int .i64 (if c=true then x else y))
   | .bool x,.bool y=>some (.bool (if c=true then x else y))
   | .bool x,.lit y=>some (.bool (if c=true then x else y))
   | .lit x,.bool y=>some (.bool (if c=true then x else y))
   |_,_=>none)
 |_=>none
theorem aAw{c a b r:SV}(h:Yi c a b=some r){K:AV->Prop}(hK:K r.av):Fa c.av a.av b.av K:=by
 unfold Yi at h;split at h
 ·cases h;exact hK
 ·cases h;exact hK
 ·rename_i p d;split at h<;>cases h<;>(simp only[SV.av,Fa]at*;cases d<;>rename_i hp<;>simpa[hp]using hK)
 ·rename_i c;split at h<;>cases h<;>(simp only[SV.av,Fa]at*;cases c<;>simpa using hK)
 ·cases h
def Pf(P:Program)(t:TypeId)(x:SV)(f:Nat):Option SV:=match Ot P t f with
 |some q=>(match x with
  | .ptr s off=>some (.ptr s (off+q.1))
  | .pe lt l i off=>some (.pe lt l i (off+q.1))
  | .pte s lt i off=>some (.pte s lt i (off+q.1))
  | .pro cs off=>(match cK (avs cs)with|some _=>some (.pro cs (off+q.1))|none=>none)
  |_=>none)
 |none=>none
theorem Vk{P:Program}{t:TypeId}{x:SV}{f:Nat}{r:SV}(h:Pf P t x f=some r){K:AV->Prop}(hK:K r.av):Pp P t f x.av K/\(x.ok->r.ok):=by
 unfold Pf at h;split at h
 ·rename_i q hq;split at h
  ·cases h;exact⟨⟨q,hq,hK⟩,fun _=>trivial⟩
  ·cases h;exact⟨⟨q,hq,by simpa[SV.av,Nat.add_assoc]using hK⟩,fun h=>h⟩
  ·cases h;exact⟨⟨q,hq,by simpa[SV.av,Nat.add_assoc]using hK⟩,fun _=>trivial⟩
  ·rename_i cs off;split at h<;>cases h;rename_i m hm;refine⟨⟨q,hq,?_⟩,fun _=>trivial⟩
   simp only[SV.av,hm]at hK|-;exact hK
  ·cases h
 ·cases h
def Pe(P:Program)(t:TypeId)(x:SV)(f:Nat):Option SV:=match Ot P t f,x with
 |some q,.agg l=>(match tok P q.2,oA P q.2 with
  |true,true=>some (.agg ((l.drop q.1).take (aZ P q.2)))
  |true,false=>l[q.1]?
  |false,_=>none)
 |_,_=>none
theorem Vj{P:Program}{t:TypeId}{x:SV}{f:Nat}{r:SV}(h:Pe P t x f=some r){K:AV->Prop}(hK:K r.av):Pn P t f x.av K:=by
 unfold Pe at h;split at h
 ·rename_i q l hq;refine⟨q,hq,?_⟩;have key:Av P q.2 (avs l) q.1 K:=by
   split at h
   ·rename_i h1 h2;cases h;refine⟨h1,?_⟩;rw[if_pos h2];exact⟨_,rfl,by rw[<-Cl,<-Ck];exact hK⟩
   ·rename_i h1 h2;refine⟨h1,?_⟩;rw[if_neg (by rw[h2];simp)]
    exact⟨r.av,by rw[vZ,h];rfl,hK⟩
   ·cases h
  show(match eN (avs l)with| .agg l=>Av P q.2 l q.1 K| .p (.agg l)=>Av P q.2 (l.map .p) q.1 K|_=>False)
  unfold eN;cases hq:cK (avs l)with
  |none=>exact key
  |some m=>dsimp only;rw[<-eD hq];exact key
 ·cases h
def Pd(P:Program)(t:TypeId)(x i:SV):Option (List Prop×SV):=match i with
 | .int _ a=>(match x with
   | .lst lt l=>(match dO P t with
     |some e=>(match(P.info? e).isSome,Nat.beq (aZ P e) lt.w with|true,true=>some ([ix a l.length],.pe lt l a.toNat 0)|_,_=>none)
     |none=>none)
   | .own s lt n=>(match dO P t with
     |some e=>(match(P.info? e).isSome,Nat.beq (aZ P e) lt.w with|true,true=>some ([ix a n],.pte s lt a.toNat 0)|_,_=>none)
     |none=>none)
   | .owns s lt o n=>(match dO P t with
     |some e=>(match(P.info? e).isSome,Nat.beq (aZ P e) lt.w with|true,true=>some ([ix a n],.pte s lt (o+a.toNat) 0)|_,_=>none)
     |none=>none)
   | .ownx s n=>(match dO P t with
     |some e=>(match(P.info? e).isSome with|true=>some ([ix a n],.ptr s (a.toNat*aZ P e))|_=>none)
     |none=>none)
   | .owF x n=>(match dO P t with
     |some e=>(match(P.info? e).isSome,Nat.beq (aZ P e) 1 with|true,true=>some ([ix a n],.ptf x a.toNat)|_,_=>none)
     |none=>none)
   | .ownf x lt b n=>(match dO P t with
     |some e=>(match(P.info? e).isSome,Nat.beq (aZ P e) lt.w with|true,true=>some ([ix a n],.ptef x lt b a.toNat 0)|_,_=>none)
     |none=>none)
   | .sl n cs=>(match dO P t,cK (avs cs)with
     |some e,some _=>(match(P.info? e).isSome with|true=>some ([ix a n],.pro cs (a.toNat*aZ P e))|_=>none)
     |_,_=>none)
   | .ptr s off=>(match Ki P t with
     |some q=>(match(P.info? q.2).isSome with|true=>some ([ix a q.1],.ptr s (off+a.toNat*aZ P q.2))|_=>none)
     |none=>none)
   | .pe lt l j off=>(match Ki P t with
     |some q=>(match(P.info? q.2).isSome with|true=>some ([ix a q.1,j<l.length],.pe lt l j (off+a.toNat*aZ P q.2))|_=>none)
     |none=>none)
   | .ptb F m off=>(match Ki P t with
     |some q=>(match(P.info? q.2).isSome with|true=>some ([ix a q.1],.ptb F m (off+a.toNat*aZ P q.2))|_=>none)
     |none=>none)
   | .pro cs off=>(match Ki P t,cK (avs cs)with
     |some q,some _=>(match(P.info? q.2).isSome with|true=>some ([ix a q.1],.pro cs (off+a.toNat*aZ P q.2))|_=>none)
     |_,_=>none)
   |_=>none)
 |_=>none
theorem Vi{P:Program}{t:TypeId}{x i:SV}{ps:List Prop}{r:SV}(h:Pd P t x i=some (ps,r))(hp:∀p∈ps,p){K:AV->Prop}(hK:K r.av):Hx P t x.av i.av K/\r.ok:=by
 unfold Pd at h;split at h
 case h_2=>cases h
 rename_i k a;split at h
 ·rename_i lt l;split at h
  ·rename_i e he;split at h<;>cases h;rename_i h1 h2;have hb:=hp _ (List.mem_singleton.2 rfl);unfold ix at hb;refine⟨⟨e,he,h1,hb.1,hb.2,?_⟩,show a.toNat<l.length by omega⟩
   rw[Nat.eq_of_beq_eq_true h2];exact hK
  ·cases h
 ·rename_i s lt n;split at h
  ·rename_i e he;split at h<;>cases h;rename_i h1 h2;have hb:=hp _ (List.mem_singleton.2 rfl);unfold ix at hb;refine⟨⟨e,he,h1,hb.1,hb.2,?_⟩,trivial⟩;rw[Nat.eq_of_beq_eq_true h2,Nat.zero_add];exact hK
  ·cases h
 ·rename_i s lt o n;split at h
  ·rename_i e he;split at h<;>cases h;rename_i h1 h2;have hb:=hp _ (List.mem_singleton.2 rfl);unfold ix at hb;refine⟨⟨e,he,h1,hb.1,hb.2,?_⟩,trivial⟩;rw[Nat.eq_of_beq_eq_true h2,<-Nat.add_mul];exact hK
  ·cases h
 ·rename_i s n;split at h
  ·rename_i e he;split at h<;>cases h;rename_i h1;have hb:=hp _ (List.mem_singleton.2 rfl);unfold ix at hb;refine⟨⟨e,he,h1,hb.1,hb.2,?_⟩,trivial⟩;rw[Nat.zero_add];exact hK
  ·cases h
 ·rename_i x n;split at h
  ·rename_i e he;split at h<;>cases h;rename_i h1 h2;have hb:=hp _ (List.mem_singleton.2 rfl);unfold ix at hb;refine⟨⟨e,he,h1,hb.1,hb.2,?_⟩,trivial⟩;rw[Nat.eq_of_beq_eq_true h2,Nat.zero_add,Nat.mul_one];exact hK
  ·cases h
 ·rename_i x lt b n;split at h
  ·rename_i e he;split at h<;>cases h;rename_i h1 h2;have hb:=hp _ (List.mem_singleton.2 rfl);unfold ix at hb;refine⟨⟨e,he,h1,hb.1,hb.2,?_⟩,trivial⟩;rw[Nat.eq_of_beq_eq_true h2,Nat.zero_add];exact hK
  ·cases h
 ·rename_i n cs;split at h
  ·rename_i e m he hm;split at h<;>cases h;rename_i h1;have hb:=hp _ (List.mem_singleton.2 rfl);unfold ix at hb;refine⟨?_,trivial⟩;simp only[SV.av,hm]at hK|-;exact⟨e,he,h1,hb.1,hb.2,hK⟩
  ·cases h
 ·rename_i s off;split at h
  ·rename_i q hq;split at h<;>cases h;rename_i h1;have hb:=hp _ (List.mem_singleton.2 rfl);unfold ix at hb;exact⟨⟨q,hq,h1,hb.1,hb.2,hK⟩,trivial⟩
  ·cases h
 ·rename_i lt l j off;split at h
  ·rename_i q hq;split at h<;>cases h;rename_i h1;have hb:=hp _ (List.mem_cons_self);unfold ix at hb;refine⟨⟨q,hq,h1,hb.1,hb.2,?_⟩,hp (j<l.length) (List.mem_cons_of_mem _ (List.mem_singleton.2 rfl))⟩;rw[Nat.add_assoc];exact hK
  ·cases h
 ·rename_i F m off;split at h
  ·rename_i q hq;split at h<;>cases h;rename_i h1;have hb:=hp _ (List.mem_singleton.2 rfl);unfold ix at hb;exact⟨⟨q,hq,h1,hb.1,hb.2,hK⟩,trivial⟩
  ·cases h
 ·rename_i cs off;split at h
  ·rename_i q m hq hm;split at h<;>cases h;rename_i h1;have hb:=hp _ (List.mem_singleton.2 rfl);unfold ix at hb;refine⟨?_,trivial⟩;simp only[SV.av,hm]at hK|-;exact⟨q,hq,h1,hb.1,hb.2,hK⟩
  ·cases h
 ·cases h
theorem cR.newF{σ:Sg}{n m:Nat}{e ie:TypeId}{lt:LT}(h:σ n=none)(hs:aW n=sit n 0):
  cR σ [] [(n,some (.fam e ie lt (List.replicate m []) []))] [] ((sit n 0,some ⟨e,1,(List.range m).map fun j=> .own (inn n (j+1)) 0 0⟩)::(List.range m).map fun j=>(inn n (j+1),some ⟨ie,lt.w,[]⟩)):=by
 rw[<-hs];refine⟨fun s hm=>(List.not_mem_nil hm).elim,fun s hm=> ?_,?_⟩
 ·have hc:cls s=ncl n:=by
   rcases List.mem_cons.1 hm with rfl|hm
   ·exact dI n 0
   ·rw[List.map_map]at hm;obtain⟨j,_,rfl⟩:=List.mem_map.1 hm;exact dI n (j+1)
  rw[hc];exact List.mem_singleton.2 rfl
 ·funext s
  unfold cB;rw[List.lookup_cons,qC (fun j=>inn n (j+1))]
  rcases dV s with⟨y,rfl⟩|⟨y,b,rfl⟩|hno
  ·rw[if_neg (show¬aW y∈(List.range m).map fun j=>inn n (j+1)from fun hm=>by
    obtain⟨j,_,hj⟩:=List.mem_map.1 hm;have:=(dC hj).2;omega)]
   rw[Sg.cE,Sg.cE];unfold bD.up;rw[List.lookup_cons];by_cases e1:y=n
   ·subst e1;rw[beq_iff_eq.2 rfl,beq_iff_eq.2 rfl];show some (⟨e,1,_⟩:Ob)=some ⟨e,1,(List.range (List.replicate m ([] :List lt.ty)).length).map (oO y (List.replicate m ([] :List lt.ty)) [])⟩;rw[List.length_replicate]
    congr 2
    refine List.map_congr_left fun i hi=> ?_
    show _=AV.own (inn y (i+1)) 0 ((List.replicate m ([] :List lt.ty)).getD i []).length;rw[List.getD_eq_getElem?_getD,List.getElem?_replicate,if_pos (List.mem_range.1 hi)];rfl
   ·rw[beq_eq_false_iff_ne.2 e1,beq_eq_false_iff_ne.2 (show aW y≠aW n from fun h=>e1 (fW h))];rfl
  ·rw[beq_eq_false_iff_ne.2 (show inn y (b+1)≠aW n from fun h=>by have:=(dC h).2;omega),Sg.fS,Sg.fS]
   unfold bD.up;rw[List.lookup_cons];by_cases e1:y=n
   ·subst e1;rw[beq_iff_eq.2 rfl];show _=(((List.replicate m ([] :List lt.ty))[b]?).map fun l=>(⟨ie,lt.w,(lt.enc l).map .p⟩:Ob))
    rw[List.getElem?_replicate];by_cases hb:b<m
    ·rw[if_pos (show inn y (b+1)∈(List.range m).map fun j=>inn y (j+1)from List.mem_map_of_mem (f:=fun j=>inn y (j+1)) (List.mem_range.2 hb)),if_pos hb];rfl
    ·rw[if_neg (show¬inn y (b+1)∈(List.range m).map fun j=>inn y (j+1)from fun hm=>by
      obtain⟨j,h1,hj⟩:=List.mem_map.1 hm;have:=(dC hj).2;have:=List.mem_range.1 h1;omega),if_neg hb,h];rfl
   ·rw[if_neg (show¬inn y (b+1)∈(List.range m).map fun j=>inn n (j+1)from fun hm=>by
     obtain⟨j,h1,hj⟩:=List.mem_map.1 hm;exact e1 (dC hj).1.symm),beq_eq_false_iff_ne.2 e1];rfl
  ·rw[if_neg (show¬s∈(List.range m).map fun j=>inn n (j+1)from fun hm=>by
    obtain⟨j,h1,hj⟩:=List.mem_map.1 hm;exact hno _ _ hj.symm),beq_eq_false_iff_ne.2 (show s≠aW n from fun h=>hno n 0 h),Sg.qQ _ hno,Sg.qQ _ hno]
theorem Bx(x:PV):∀m,xE m [.p x] =(List.replicate m x).map .p
 |0=>rfl
 |m+1=>by rw[xE,Bx x m,List.replicate_succ];rfl
theorem Mr:∀m,LT.I.enc (List.replicate m (0:Int))=List.replicate m (.int .i64 0)
 |0=>rfl
 |m+1=>by rw[List.replicate_succ,List.replicate_succ,<-Mr m];rfl
theorem Ms:∀m,LT.B.enc (List.replicate m false)=List.replicate m (.bool false)
 |0=>rfl
 |m+1=>by rw[List.replicate_succ,List.replicate_succ,<-Ms m];rfl
def Yk(P:Program)(ltOf:TypeId->Option LT)(σ:Sg)(n:Nat)(t:TypeId)(x y:SV):SR:=match x,y with
 | .int _ a,.int _ b=>(match dO P t,frs σ n with
   |some e,true=>(match P.info? e,Ez P e,Nat.beq (aZ P e) 1 with
    |some i,some [.int .i64 (.ofNat 0)],true=>some ([0<=a,b=a,a<=1000000,a.toNat*i.bytes<=1000000000],.own n .I a.toNat,[],[(n,some (.row e .I (List.replicate a.toNat (0:Int))))])
    |some i,some [.bool false],true=>some ([0<=a,b=a,a<=1000000,a.toNat*i.bytes<=1000000000],.own n .B a.toNat,[],[(n,some (.row e .B (List.replicate a.toNat false)))])
    |some i,some [.nil],true=>(match dO P e with
     |some ie=>(match ltOf ie with
      |some lt=>some ([0<=a,b=a,a<=1000000,a.toNat*i.bytes<=1000000000],.owF n a.toNat,[],[(n,some (.fam e ie lt (List.replicate a.toNat []) []))])
      |none=>none)
     |none=>none)
    |_,_,_=>none)
   |_,_=>none)
 |_,_=>none
theorem aAA{P:Program}{ltOf:TypeId->Option LT}{n:Nat}{o:Oper}{E:SE}{σ:Sg}{t:TypeId}{x y:Operand}(ho:o.op= .makeSlice t x y):yY P n o E σ (Yk P ltOf σ n t (E x) (E y)):=by
 intro ps r rd W h hp;unfold AOp;rw[ho];dsimp only;unfold Yk at h;split at h
 case h_2=>cases h
 rename_i k1 a k2 b ea eb;rw[show E.a x= .p (.int k1 a) by unfold SE.a;rw[ea];rfl,show E.a y= .p (.int k2 b) by unfold SE.a;rw[eb];rfl]
 split at h
 case h_2=>cases h
 rename_i e he hf;obtain⟨f1,f2⟩:=iP hf;split at h
 ·cases h;rename_i i hi hz hw;obtain⟨z1,z2⟩:=oS hz;have q1:0<=a:=hp _ (by simp)
  have q2:b=a:=hp _ (by simp)
  have q3:a<=1000000:=hp _ (by simp)
  have q4:a.toNat*i.bytes<=1000000000:=hp _ (by simp)
  have hw:=Nat.eq_of_beq_eq_true hw;subst q2;refine .inl ⟨k1,k2,b.toNat,e,_,i,by rw[Int.toNat_of_nonneg q1],by rw[Int.toNat_of_nonneg q1],he,hi,z1,z2,by simp[avs],by rw[hw];omega,q4,?_,?_⟩
  ·show _=AV.own (aW n) 0 _;rw[f1]
  ·rw[hw,show avs [SV.int .i64 (.ofNat 0)] =[.p (.int .i64 0)]from rfl,Bx,<-Mr]
   exact cR.new (ob:= .row e .I (List.replicate b.toNat (0:Int))) f2 f1 rfl
 ·cases h;rename_i i hi hz hw;obtain⟨z1,z2⟩:=oS hz;have q1:0<=a:=hp _ (by simp)
  have q2:b=a:=hp _ (by simp)
  have q3:a<=1000000:=hp _ (by simp)
  have q4:a.toNat*i.bytes<=1000000000:=hp _ (by simp)
  have hw:=Nat.eq_of_beq_eq_true hw;subst q2;refine .inl ⟨k1,k2,b.toNat,e,_,i,by rw[Int.toNat_of_nonneg q1],by rw[Int.toNat_of_nonneg q1],he,hi,z1,z2,by simp[avs],by rw[hw];omega,q4,?_,?_⟩
  ·show _=AV.own (aW n) 0 _;rw[f1]
  ·rw[hw,show avs [SV.bool false] =[.p (.bool false)]from rfl,Bx,<-Ms]
   exact cR.new (ob:= .row e .B (List.replicate b.toNat false)) f2 f1 rfl
 ·rename_i i hi hz hw;split at h
  case h_2=>cases h
  rename_i ie hie;split at h<;>cases h;rename_i lt hlt;obtain⟨z1,z2⟩:=oS hz;have q1:0<=a:=hp _ (by simp)
  have q2:b=a:=hp _ (by simp)
  have q3:a<=1000000:=hp _ (by simp)
  have q4:a.toNat*i.bytes<=1000000000:=hp _ (by simp)
  subst q2;have hcl:ncl n=n:=by
   have h1:cls (aW n)=ncl n:=dI n 0;rw[f1,dM]at h1;exact h1.symm
  refine .inr ⟨fun j=>inn n (j+1),ie,lt.w,k1,k2,b.toNat,e,i,by rw[Int.toNat_of_nonneg q1],by rw[Int.toNat_of_nonneg q1],he,hi,z1,z2,by have:=lt.mR;omega,fun j=>(dI n (j+1)).trans hcl,fun j hj=> ?_,by omega,q4,?_,cR.newF f2 f1⟩
  ·rw[<-f1]at hj;have:=(dC hj).2;omega
  ·show _=AV.own (aW n) 0 _;rw[f1]
 ·cases h
def Yn(x:SV)(i:Nat):Option SV:=match x with
 | .tup l=>l[i]?
 |_=>none
theorem aAD{x:SV}{i:Nat}{r:SV}(h:Yn x i=some r){K:AV->Prop}(hK:K r.av):Ku x.av i K:=by
 unfold Yn at h;split at h
 ·rename_i l;have h1:(avs l)[i]? =some r.av:=by rw[vZ,h];rfl
  show Ku (lN (avs l)) i K;unfold lN;cases hq:cK (avs l)with
  |none=>exact⟨_,h1,hK⟩
  |some q=>
   rw[eD hq,List.getElem?_map]at h1;cases hc:q[i]? with
   |none=>rw[hc]at h1;cases h1
   |some y=>rw[hc,Option.map_some,Option.some.injEq]at h1;exact⟨y,hc,by rw[h1];exact hK⟩
 ·cases h
end
end Go.Proofs.YtdaeofhdgabhjaaGreat
namespace Go.Proofs.YtdaeofhdgabhjaaGreat
open Go.RowKit
noncomputable section
def Ef(raw:Bool)(k:IntKind)(x:Int):List Prop×SV:=match raw,k with
 |false,.i64=>([aK x],.int .i64 x)
 |_,k=>([],.int k (k.wrap x))
theorem sL{raw:Bool}{k:IntKind}{x:Int}(h:∀p∈(Ef raw k x).1,p):(Ef raw k x).2.av= .p (.int k (k.wrap x)):=by
 unfold Ef at h|-;split
 ·rename_i e;rw[mJ (h _ (List.mem_singleton.2 rfl))];rfl
 ·rfl
def Ss:SV->Option Bool
 | .bool b=>some b
 | .lit b=>some b
 | .prop p d=>some (@decide p d)
 |_=>none
theorem wM{x:SV}{b:Bool}(h:Ss x=some b):x.av= .p (.bool b):=by
 cases x<;>simp only[Ss,reduceCtorEq,Option.some.injEq]at h<;>subst h<;>rfl
def Pg(raw:Bool)(op:BinOp)(k:IntKind)(a b:Int):Option (List Prop×SV):=match op with
 | .add=>some (Ef raw k (a+b))
 | .sub=>some (Ef raw k (a-b))
 | .mul=>some (Ef raw k (a*b))
 | .quo=>some ((b≠0)::(Ef raw k (a.tdiv b)).1,(Ef raw k (a.tdiv b)).2)
 | .rem=>some ([b≠0],.int k (a.tmod b))
 | .eql=>some ([],.prop (a=b) inferInstance)
 | .neq=>some ([],.prop (¬a=b) inferInstance)
 | .lss=>some ([],.prop (a<b) inferInstance)
 | .leq=>some ([],.prop (a<=b) inferInstance)
 | .gtr=>some ([],.prop (b<a) inferInstance)
 | .geq=>some ([],.prop (b<=a) inferInstance)
 |_=>none
theorem Vo{raw:Bool}{op:BinOp}{k:IntKind}{a b:Int}{ps:List Prop}{r:SV}(h:Pg raw op k a b=some (ps,r))(hp:∀p∈ps,p){K:AV->Prop}(hK:K r.av):xO op k a b K:=by
 unfold Pg at h;split at h<;>simp only[Option.some.injEq,Prod.mk.injEq,reduceCtorEq]at h
 ·have e:=sL (raw:=raw) (k:=k) (x:=a+b) (by rw[h];exact hp)
  rw[h]at e;unfold xO;rw[<-e];exact hK
 ·have e:=sL (raw:=raw) (k:=k) (x:=a-b) (by rw[h];exact hp)
  rw[h]at e;unfold xO;rw[<-e];exact hK
 ·have e:=sL (raw:=raw) (k:=k) (x:=a*b) (by rw[h];exact hp)
  rw[h]at e;unfold xO;rw[<-e];exact hK
 ·obtain⟨rfl,rfl⟩:=h;have e:=sL (raw:=raw) (k:=k) (x:=a.tdiv b) (fun p h=>hp p (List.mem_cons_of_mem _ h))
  exact⟨hp _ List.mem_cons_self,by rw[<-e];exact hK⟩
 ·obtain⟨rfl,rfl⟩:=h;exact⟨hp _ List.mem_cons_self,hK⟩
 ·obtain⟨rfl,rfl⟩:=h;exact hK
 ·obtain⟨rfl,rfl⟩:=h;show K (.p (.bool (a !=b)));have:(a !=b)=decide (¬a=b):=by by_cases e:a=b<;>simp[e]
  rw[this];exact hK
 ·obtain⟨rfl,rfl⟩:=h;exact hK
 ·obtain⟨rfl,rfl⟩:=h;exact hK
 ·obtain⟨rfl,rfl⟩:=h;exact hK
 ·obtain⟨rfl,rfl⟩:=h;exact hK
def Fd:List SV->Option (List Int)
 |[] =>some []
 | .int .i64 a::l=>(match Fd l with|some m=>some (a::m)|none=>none)
 |_::_=>none
theorem Cf:∀{l:List SV} {m:List Int},Fd l=some m->avs l=(qN m).map .p
 |[],m,h=>by simp only[Fd,Option.some.injEq]at h;subst h;rfl
 |x::l,m,h=>by
  unfold Fd at h;split at h
  ·rename_i e;cases e
  ·rename_i a l' e;cases e;split at h<;>cases h;rename_i m' hm;rw[avs,Cf hm];rfl
  ·cases h
theorem lF:∀m:List Int,oJ (qN m)=some m
 |[] =>rfl
 |x::m=>by
  have:=lF m;unfold qN at*;simp only[List.map_cons,oJ,this,Option.map_some]
def eqP(xs ys:List Int):SV:=match xs,ys with
 |[a,b],[c,d] => .prop ((⟨a,b⟩:Geo.V)=⟨c,d⟩) inferInstance
 |[a,b,c,d],[e,f,g,h] => .prop ((⟨⟨a,b⟩,⟨c,d⟩⟩:Geo.S)=⟨⟨e,f⟩,⟨g,h⟩⟩) inferInstance
 |xs,ys=> .prop (xs=ys) inferInstance
theorem aAb(xs ys:List Int):(eqP xs ys).av= .p (.bool (xs==ys)):=by
 unfold eqP;split
 ·rename_i a b c d;show AV.p (.bool (decide _))=_
  congr 2
  rw[Bool.eq_iff_iff];simp only[decide_eq_true_eq,beq_iff_eq,Geo.V.mk.injEq,List.cons.injEq,and_true]
 ·rename_i a b c d e f g h;show AV.p (.bool (decide _))=_
  congr 2
  rw[Bool.eq_iff_iff];simp only[decide_eq_true_eq,beq_iff_eq,Geo.V.mk.injEq,Geo.S.mk.injEq,List.cons.injEq,and_true,and_assoc]
 ·show AV.p (.bool (decide _))=_
  congr 2
  rw[Bool.eq_iff_iff];simp only[decide_eq_true_eq,beq_iff_eq]
def aBF:SV->Option SV
 | .prop p d=>some (.prop (¬p) (@instDecidableNot p d))
 | .bool b=>some (.bool (!b))
 | .lit true=>some (.lit false)
 | .lit false=>some (.lit true)
 |_=>none
theorem Tu{x r:SV}(h:aBF x=some r):∃b,x.av= .p (.bool b)/\r.av= .p (.bool (!b)):=by
 cases x<;>simp only[aBF,reduceCtorEq,Option.some.injEq]at h
 ·subst h;exact⟨_,rfl,rfl⟩
 ·rename_i b;cases b<;>simp only[Option.some.injEq]at h<;>subst h<;>exact⟨_,rfl,rfl⟩
 ·rename_i p d;subst h;refine⟨_,rfl,?_⟩;show AV.p (.bool (decide _))=_
  congr 2
  cases d<;>rfl
abbrev EqT:=List (TypeId×Nat)
def EqT.Ok(P:Program)(q:EqT):Prop:=∀t m,(t,m)∈q->Bn P t m
def EqT.has:EqT->TypeId->Nat->Bool
 |[],_,_=>false
 |(a,b)::l,t,m=>(Nat.beq a t&&Nat.beq b m)||EqT.has l t m
theorem EqT.Iw:∀{q:EqT} {t m:Nat},q.has t m=true->(t,m)∈q
 |[],t,m,h=>by cases h
 |(a,b)::l,t,m,h=>by
  simp only[EqT.has,Bool.or_eq_true,Bool.and_eq_true]at h;rcases h with⟨h1,h2⟩|h
  ·rw[Nat.eq_of_beq_eq_true h1,Nat.eq_of_beq_eq_true h2];exact List.mem_cons_self
  ·exact List.mem_cons_of_mem _ (EqT.Iw h)
def aEA(P:Program)(q:EqT)(raw:Bool)(op:BinOp)(t:TypeId)(x y:SV):Option (List Prop×SV):=match x,y with
 | .int k a,.int k' b=>(match decEq k' k with| .isTrue _=>Pg raw op k a b| .isFalse _=>none)
 | .agg l,.agg m=>(match Fd l,Fd m with
   |some xs,some ys=>(match Nat.beq xs.length ys.length,q.has t xs.length,op with
    |true,true,.eql=>some ([],eqP xs ys)
    |true,true,.neq=>(match aBF (eqP xs ys)with|some r=>some ([],r)|none=>none)
    |_,_,_=>none)
   |_,_=>none)
 | .lst _ l,.nil=>(match(dO P t).isSome,op with
   |true,.eql=>some ([0<l.length],.lit false)
   |_,_=>none)
 |x,y=>(match Ss x,Ss y,Ya P t,op with
  |some a,some b,true,.eql=>some ([],.bool (a==b))
  |some a,some b,true,.neq=>some ([],.bool (a !=b))
  |_,_,_,_=>none)
theorem aB3{P:Program}{q:EqT}(hq:q.Ok P){raw:Bool}{op:BinOp}{t:TypeId}{x y:SV}{ps:List Prop}{r:SV}(h:aEA P q raw op t x y=some (ps,r))(hp:∀p∈ps,p){K:AV->Prop}(hK:K r.av):Uv P op t x.av y.av K:=by
 unfold aEA at h;split at h
 ·rename_i k a k' b;split at h
  ·rename_i e _;exact⟨e,Vo h hp hK⟩
  ·cases h
 ·rename_i l m;split at h
  ·rename_i xs ys hx hy;have key:∀(op:BinOp),(∃xs' ys',oJ (qN xs)=some xs'/\oJ (qN ys)=some ys'/\xs'.length=ys'.length/\Bn P t xs'.length/\(match op with| .eql=>K (.p (.bool (xs'==ys')))| .neq=>K (.p (.bool (xs' !=ys')))|_=>False))->Uv P op t (SV.agg l).av (SV.agg m).av K:=by
    intro op h;show Uv P op t (eN (avs l)) (eN (avs m)) K;rw[Cf hx,Cf hy,iX,iX];exact h
   split at h
   ·rename_i h1 h2;cases h;refine key _ ⟨xs,ys,lF _,lF _,Nat.eq_of_beq_eq_true h1,hq _ _ (EqT.Iw h2),?_⟩;rw[aAb]at hK;exact hK
   ·rename_i h1 h2;split at h<;>cases h;rename_i hr;obtain⟨b,e1,e2⟩:=Tu hr;rw[aAb]at e1;cases e1;refine key _ ⟨xs,ys,lF _,lF _,Nat.eq_of_beq_eq_true h1,hq _ _ (EqT.Iw h2),?_⟩;rw[e2]at hK;exact hK
   ·cases h
  ·cases h
 ·rename_i t' l;split at h<;>cases h;rename_i ht;have hl:0<l.length:=hp _ List.mem_cons_self;refine⟨ht,fun e=> ?_,rfl,hK⟩
  have e2:=congrArg List.length e;rw[t'.wide.length,List.length_nil]at e2;have:=Nat.mul_pos hl t'.mR;omega
 ·split at h
  ·rename_i a b h1 h2 h3;cases h;rw[wM h1,wM h2];exact⟨h3,hK⟩
  ·rename_i a b h1 h2 h3;cases h;rw[wM h1,wM h2];exact⟨h3,hK⟩
  ·cases h
def sun(raw:Bool)(op:UnOp)(x:SV):Option (List Prop×SV):=match op with
 | .not=>(match aBF x with|some r=>some ([],r)|none=>none)
 | .neg=>(match x with| .int k a=>some (Ef raw k (0-a))|_=>none)
 |_=>none
theorem aE3{raw:Bool}{op:UnOp}{x:SV}{ps:List Prop}{r:SV}(h:sun raw op x=some (ps,r))(hp:∀p∈ps,p){K:AV->Prop}(hK:K r.av):unA op x.av K:=by
 unfold sun at h;split at h
 ·split at h<;>cases h;rename_i hr;obtain⟨b,e1,e2⟩:=Tu hr;rw[e1];rw[e2]at hK;exact hK
 ·split at h
  ·rename_i k a;simp only[Option.some.injEq]at h;have e:=sL (raw:=raw) (k:=k) (x:=0-a) (by rw[h];exact hp)
   rw[h]at e;show K _;rw[<-e];exact hK
  ·cases h
 ·cases h
def Yp(P:Program)(raw:Bool)(s d:TypeId)(x:SV):Option (List Prop×SV):=match x with
 | .int _ a=>(match(P.underlying s).isSome,aEr P d with
   |true,some k=>some (Ef raw k a)
   |_,_=>none)
 |_=>none
theorem aAF{P:Program}{raw:Bool}{s d:TypeId}{x:SV}{ps:List Prop}{r:SV}(h:Yp P raw s d x=some (ps,r))(hp:∀p∈ps,p){K:AV->Prop}(hK:K r.av):So P s d x.av K:=by
 unfold Yp at h;split at h
 ·rename_i k0 a;split at h
  ·rename_i k h1 h2;simp only[Option.some.injEq]at h;have e:=sL (raw:=raw) (k:=k) (x:=a) (by rw[h];exact hp)
   rw[h]at e;exact⟨h1,k,h2,by rw[<-e];exact hK⟩
  ·cases h
 ·cases h
def aEF:SV->Option Int
 | .int _ n=>some n
 |_=>none
theorem aCp{x:SV}{n:Int}(h:aEF x=some n):aBJ x.av=some n:=by
 cases x<;>simp only[aEF,reduceCtorEq,Option.some.injEq]at h;subst h;rfl
def aBL(E:SE):Option Operand->Option (Option Int)
 |none=>some none
 |some x=>(match aEF (E x)with|some n=>some (some n)|none=>none)
def aLh:SV->Int
 | .lst _ l=>(l.length:Int)
 | .own _ _ n=>n
 | .owns _ _ _ n=>n
 | .ownx _ n=>n
 |_=>0
def Pb(P:Program)(t:TypeId)(x:SV)(lo hi:Option Int):Option (List Prop×SV):=match dO P t with
 |some e=>(match(P.info? e).isSome,Nat.beq (aZ P e) 0 with
  |true,false=>(match x,lo,hi with
   | .lst lt l,lo,hi=>(match Nat.beq (aZ P e) lt.w with
     |true=>(match lo,hi with
      |none,none=>some ([],.lst lt l)
      |some a,none=>some ([0<=a/\a<=(l.length:Int)],.lst lt (l.drop a.toNat))
      |none,some b=>some ([0<=b/\b<=(l.length:Int)],.lst lt (l.take b.toNat))
      |some a,some b=>some ([0<=a/\a<=b/\b<=(l.length:Int)],.lst lt ((l.take b.toNat).drop a.toNat)))
     |false=>none)
   | .own s lt n,lo,hi=>(match Nat.beq (aZ P e) lt.w with
     |true=>(match lo,hi with
      |none,none=>some ([],.own s lt n)
      |none,some b=>some ([0<=b/\b<=(n:Int)],.owns s lt 0 b.toNat)
      |some a,none=>some ([0<=a/\a<=(n:Int)],.owns s lt a.toNat (n-a.toNat))
      |some a,some b=>some ([0<=a/\a<=b/\b<=(n:Int)],.owns s lt a.toNat (b.toNat-a.toNat)))
     |false=>none)
   | .owns s lt o n,lo,hi=>(match Nat.beq (aZ P e) lt.w with
     |true=>(match lo,hi with
      |none,none=>some ([],.owns s lt o n)
      |none,some b=>some ([0<=b/\b<=(n:Int)],.owns s lt o b.toNat)
      |some a,none=>some ([0<=a/\a<=(n:Int)],.owns s lt (o+a.toNat) (n-a.toNat))
      |some a,some b=>some ([0<=a/\a<=b/\b<=(n:Int)],.owns s lt (o+a.toNat) (b.toNat-a.toNat)))
     |false=>none)
   | .ownx s n,none,none=>some ([],.ownx s n)
   |_,_,_=>none)
  |_,_=>none)
 |none=>none
theorem Ve{P:Program}{t:TypeId}{x:SV}{lo hi:Option Int}{ps:List Prop}{r:SV}(h:Pb P t x lo hi=some (ps,r))(hp:∀p∈ps,p){K:AV->Prop}(hK:K r.av):
  xH P t x.av (some (lo.getD 0)) (some (hi.getD (Ht x.av))) K:=by
 unfold Pb at h;split at h
 case h_2=>cases h
 rename_i e he;split at h
 case h_2=>cases h
 rename_i h1 h2;have h2':aZ P e≠0:=Nat.ne_of_beq_eq_false h2;split at h
 ·rename_i lt l;split at h
  case h_2=>cases h
  rename_i hw;have hw:=Nat.eq_of_beq_eq_true hw;have key:∀a b:Int,0<=a->a<=b->b<=l.length->K (.p (.sl ((l.take b.toNat).drop a.toNat).length (lt.enc ((l.take b.toNat).drop a.toNat))))->xH P t (SV.lst lt l).av (some a) (some b) K:=by
   intro a b ha hb hc hK;refine⟨e,a,b,he,h1,h2',rfl,rfl,ha,hb,hc,?_⟩;rw[hw,lt.wide.take,lt.wide.drop];have:((l.take b.toNat).drop a.toNat).length=b.toNat-a.toNat:=by simp only[List.length_drop,List.length_take];omega
   rw[<-this];exact hK
  split at h<;>cases h
  ·refine key 0 (l.length:Int) (by omega) (by omega) (by omega) ?_
   rw[Int.toNat_natCast,List.take_length];exact hK
  ·rename_i a;have hb:=hp _ (List.mem_singleton.2 rfl);refine key a (l.length:Int) hb.1 hb.2 (by omega) ?_
   rw[Int.toNat_natCast,List.take_length];exact hK
  ·rename_i b;have hb:=hp _ (List.mem_singleton.2 rfl);exact key 0 b (by omega) hb.1 hb.2 hK
  ·rename_i a b;have hb:=hp _ (List.mem_singleton.2 rfl);exact key a b hb.1 hb.2.1 hb.2.2 hK
 ·rename_i s lt n;split at h
  case h_2=>cases h
  rename_i hw;have hw:=Nat.eq_of_beq_eq_true hw;have key:∀a b:Int,0<=a->a<=b->b<=n->K (.own (aW s) (a.toNat*lt.w) (b.toNat-a.toNat))->xH P t (SV.own s lt n).av (some a) (some b) K:=by
   intro a b ha hb hc hK;refine⟨e,a,b,he,h1,h2',rfl,rfl,ha,hb,hc,?_⟩;rw[hw,Nat.zero_add];exact hK
  split at h<;>cases h
  ·refine key 0 (n:Int) (by omega) (by omega) (by omega) ?_
   simpa[SV.av]using hK
  ·rename_i b;have hb:=hp _ (List.mem_singleton.2 rfl);refine key 0 b (by omega) hb.1 hb.2 ?_
   simpa[SV.av]using hK
  ·rename_i a;have hb:=hp _ (List.mem_singleton.2 rfl);exact key a (n:Int) hb.1 hb.2 (by omega) (by simpa[SV.av]using hK)
  ·rename_i a b;have hb:=hp _ (List.mem_singleton.2 rfl);exact key a b hb.1 hb.2.1 hb.2.2 hK
 ·rename_i s lt o n;split at h
  case h_2=>cases h
  rename_i hw;have hw:=Nat.eq_of_beq_eq_true hw;have key:∀a b:Int,0<=a->a<=b->b<=n->K (.own (aW s) ((o+a.toNat)*lt.w) (b.toNat-a.toNat))->xH P t (SV.owns s lt o n).av (some a) (some b) K:=by
   intro a b ha hb hc hK;refine⟨e,a,b,he,h1,h2',rfl,rfl,ha,hb,hc,?_⟩;rw[hw,<-Nat.add_mul];exact hK
  split at h<;>cases h
  ·refine key 0 (n:Int) (by omega) (by omega) (by omega) ?_
   simpa[SV.av]using hK
  ·rename_i b;have hb:=hp _ (List.mem_singleton.2 rfl);refine key 0 b (by omega) hb.1 hb.2 ?_
   simpa[SV.av]using hK
  ·rename_i a;have hb:=hp _ (List.mem_singleton.2 rfl);exact key a (n:Int) hb.1 hb.2 (by omega) (by simpa[SV.av]using hK)
  ·rename_i a b;have hb:=hp _ (List.mem_singleton.2 rfl);exact key a b hb.1 hb.2.1 hb.2.2 hK
 ·rename_i s n;cases h;refine⟨e,0,(n:Int),he,h1,h2',rfl,rfl,Int.le_refl _,Int.natCast_nonneg _,Int.le_refl _,?_⟩;simpa[SV.av]using hK
 ·cases h
def aEz(P:Program)(t:TypeId)(x:SV):Option SV:=match x with
 | .lst _ l=>(match(dO P t).isSome with|true=>some (.int .i64 (l.length:Int))|false=>none)
 | .own _ _ n=>(match(dO P t).isSome with|true=>some (.int .i64 (n:Int))|false=>none)
 | .owns _ _ _ n=>(match(dO P t).isSome with|true=>some (.int .i64 (n:Int))|false=>none)
 | .ownx _ n=>(match(dO P t).isSome with|true=>some (.int .i64 (n:Int))|false=>none)
 | .owF _ n=>(match(dO P t).isSome with|true=>some (.int .i64 (n:Int))|false=>none)
 | .ownf _ _ _ n=>(match(dO P t).isSome with|true=>some (.int .i64 (n:Int))|false=>none)
 | .sl n cs=>(match(dO P t).isSome,cK (avs cs)with|true,some _=>some (.int .i64 (n:Int))|_,_=>none)
 | .nil=>(match(dO P t).isSome with|true=>some (.int .i64 0)|false=>none)
 |_=>none
theorem aBZ{P:Program}{t:TypeId}{x r:SV}(h:aEz P t x=some r){K:AV->Prop}(hK:K r.av):aBI P t x.av K:=by
 unfold aEz at h;split at h
 ·split at h<;>cases h;rename_i h1;exact⟨h1,hK⟩
 ·split at h<;>cases h;rename_i h1;exact⟨h1,hK⟩
 ·split at h<;>cases h;rename_i h1;exact⟨h1,hK⟩
 ·split at h<;>cases h;rename_i h1;exact⟨h1,hK⟩
 ·split at h<;>cases h;rename_i h1;exact⟨h1,hK⟩
 ·split at h<;>cases h;rename_i h1;exact⟨h1,hK⟩
 ·rename_i n cs;split at h<;>cases h;rename_i q h1 h2;simp only[SV.av,h2];exact⟨h1,hK⟩
 ·split at h<;>cases h;rename_i h1;exact⟨h1,hK⟩
 ·cases h
def Ks(σ:Sg)(e:TypeId)(lt:LT)(x:SV):Option (List Prop×List lt.ty×List Nat):=match x with
 | .nil=>some ([],[],[])
 | .own s _ k=>(match σ s with
   |some (.row ty lt' l)=>(match decEq lt' lt,Nat.beq ty e with
    | .isTrue h,true=>some ([k=l.length],h▸l,[s])
    |_,_=>none)
   |_=>none)
 | .ownx s k=>(match σ s with
   |some (.arr ty ez cs)=>(match Nat.beq ty e,Nat.beq ez lt.w,lt.decs k cs with
    |true,true,some l=>some ([],l,[s])
    |_,_,_=>none)
   |_=>none)
 |_=>none
def Sa(σ:Sg)(lt:LT)(x:SV):Option (List Prop×List lt.ty×List Nat):=match x with
 | .nil=>some ([],[],[])
 | .lst lt' l=>(match decEq lt' lt with
   | .isTrue h=>some ([],h▸l,[])
   | .isFalse _=>none)
 | .own s _ k=>(match σ s with
   |some (.row _ lt' l)=>(match decEq lt' lt with
    | .isTrue h=>some ([k=l.length],h▸l,[s])
    | .isFalse _=>none)
   |_=>none)
 | .owns s lt2 o k=>(match σ s with
   |some (.row _ lt' l)=>(match decEq lt' lt,decEq lt2 lt with
    | .isTrue h,.isTrue _=>some ([o+k<=l.length],(h▸l:List lt.ty).drop o|>.take k,[s])
    |_,_=>none)
   |_=>none)
 | .ownx s k=>(match σ s with
   |some (.arr _ ez cs)=>(match Nat.beq ez lt.w,lt.decs k cs with
    |true,some l=>some ([],l,[s])
    |_,_=>none)
   |_=>none)
 |_=>none
def Si(P:Program)(ltOf:TypeId->Option LT)(n:Nat)(t t':TypeId)(σ:Sg)(x y:SV):SR:=match dO P t,(dO P t').isSome with
 |some e,true=>(match ltOf e,aBx P e,frs σ n with
  |some lt,true,true=>(match Nat.beq (aZ P e) lt.w,Ks σ e lt x,Sa σ lt y with
   |true,some (p1,l,r1),some (p2,m,r2)=>some (p1++p2++[l.length+m.length<=1000000],.own n lt (l++m).length,r1++r2,r1.map (·,none)++[(n,some (.row e lt (l++m)))])
   |_,_,_=>none)
  |_,_,_=>none)
 |_,_=>none
theorem aA8{σ:Sg}{e:TypeId}{lt:LT}{x:SV}{ps:List Prop}{l:List lt.ty}{r:List Nat}(h:Ks σ e lt x=some (ps,l,r))(hp:∀p∈ps,p){K:Nat->List AV->List Nat->Prop}(hK:K l.length ((lt.enc l).map .p) (r.map aW)):Yx σ.a e lt.w x.av K:=by
 unfold Ks at h;split at h
 ·cases h;exact hK
 ·rename_i s _ k;split at h
  ·rename_i ty lt' l' hs;split at h
   ·rename_i he _ hty;subst he;cases h;have hk:k=l'.length:=hp _ (List.mem_singleton.2 rfl);refine⟨_,by rw[Sg.cE,hs];rfl,Nat.eq_of_beq_eq_true hty,rfl,?_,by rw[hk];exact hK⟩
    show((lt'.enc l').map AV.p).length=_;rw[List.length_map,lt'.wide.length,hk]
   ·cases h
  ·cases h
 ·rename_i s k;split at h
  ·rename_i ty ez cs hs;split at h<;>cases h;rename_i h1 h2 h3;obtain⟨e1,e2⟩:=LT.sP h3;have h2:=Nat.eq_of_beq_eq_true h2;refine⟨_,by rw[Sg.cE,hs];rfl,Nat.eq_of_beq_eq_true h1,h2,?_,?_⟩
   ·show(avs cs).length=_;rw[e2,List.length_map,lt.wide.length,e1]
   ·show K k (avs cs) [aW s];rw[e2,<-e1];exact hK
  ·cases h
 ·cases h
theorem Ld{σ:Sg}{lt:LT}{x:SV}{ps:List Prop}{l:List lt.ty}{r:List Nat}(h:Sa σ lt x=some (ps,l,r))(hp:∀p∈ps,p){K:Nat->List AV->List Nat->Prop}(hK:K l.length ((lt.enc l).map .p) (r.map aW)):Sb σ.a lt.w x.av K:=by
 unfold Sa at h;split at h
 ·cases h;exact hK
 ·rename_i lt' l';split at h
  ·rename_i he _;subst he;cases h;exact⟨lt'.wide.length _,hK⟩
  ·cases h
 ·rename_i s _ k;split at h
  ·rename_i ty lt' l' hs;split at h
   ·rename_i he _;subst he;cases h;have hk:k=l'.length:=hp _ (List.mem_singleton.2 rfl);refine⟨_,(lt'.enc l').map .p,by rw[Sg.cE,hs];rfl,?_,?_,by rw[hk];exact hK⟩
    ·show(((lt'.enc l').map AV.p).drop 0).take (k*lt'.w)=_;rw[List.drop_zero,List.take_of_length_le (by rw[List.length_map,lt'.wide.length,hk];exact Nat.le_refl _)]
    ·rw[List.length_map,lt'.wide.length,hk]
   ·cases h
  ·cases h
 ·rename_i s lt2 o k;split at h
  ·rename_i ty lt' l' hs;split at h
   ·rename_i he he2 _ _;subst he;subst he2;cases h;have hk:o+k<=l'.length:=hp _ (List.mem_singleton.2 rfl);have hlen:((l'.drop o).take k).length=k:=by simp;omega
    refine⟨_,(lt2.enc ((l'.drop o).take k)).map .p,by rw[Sg.cE,hs];rfl,?_,?_,by rw[hlen]at hK;exact hK⟩
    ·show(((lt2.enc l').map AV.p).drop (o*lt2.w)).take (k*lt2.w)=_;rw[<-List.map_drop,<-List.map_take,lt2.wide.drop,lt2.wide.take]
    ·rw[List.length_map,lt2.wide.length,hlen]
   ·cases h
  ·cases h
 ·rename_i s k;split at h
  ·rename_i ty ez cs hs;split at h<;>cases h;rename_i h1 h3;obtain⟨e1,e2⟩:=LT.sP h3;have hl:(avs cs).length=k*lt.w:=by rw[e2,List.length_map,lt.wide.length,e1]
   refine⟨_,avs cs,by rw[Sg.cE,hs];rfl,?_,hl,by rw[e2,<-e1];exact hK⟩
   show((avs cs).drop 0).take (k*lt.w)=_;rw[List.drop_zero,List.take_of_length_le (by rw[hl];exact Nat.le_refl _)]
  ·cases h
 ·cases h
theorem Rb{σ:Sg}{e:TypeId}{lt:LT}{x:SV}{ps:List Prop}{l:List lt.ty}{r:List Nat}(h:Ks σ e lt x=some (ps,l,r)):∀s∈r,vP (σ s)=true:=by
 unfold Ks at h;split at h
 ·cases h;exact fun s hs=>(List.not_mem_nil hs).elim
 ·split at h
  ·rename_i hs;split at h
   ·cases h;exact fun s' hs'=>by rw[List.mem_singleton.1 hs',hs];rfl
   ·cases h
  ·cases h
 ·split at h
  ·rename_i hs;split at h<;>cases h;exact fun s' hs'=>by rw[List.mem_singleton.1 hs',hs];rfl
  ·cases h
 ·cases h
theorem aAI{P:Program}{ltOf:TypeId->Option LT}{n:Nat}{t t':TypeId}{σ:Sg}{x y:SV}{ps:List Prop}{r:SV}{rd:List Nat}{W:bD}(h:Si P ltOf n t t' σ x y=some (ps,r,rd,W))(hp:∀p∈ps,p):
  (dO P t').isSome=true/\Xx P n t σ.a x.av y.av fun r' R' W'=>r'=r.av/\cR σ rd W R' W':=by
 unfold Si at h;split at h
 case h_2=>cases h
 rename_i e he ht';split at h
 case h_2=>cases h
 rename_i lt hlt htapp hf;split at h
 case h_2=>cases h
 rename_i p1 l r1 p2 m r2 hw h1 h2;cases h;refine⟨ht',e,he,htapp,?_⟩;rw[Nat.eq_of_beq_eq_true hw];obtain⟨f1,f2⟩:=iP hf;have hfl:=Rb h1;refine aA8 h1 (fun p hpp=>hp p (by simp[hpp])) (Ld h2 (fun p hpp=>hp p (by simp[hpp])) ⟨hp _ (by simp),?_,?_⟩)
 ·show _=AV.own (aW n) 0 _;rw[List.length_append,f1]
 ·have e1:(r1.map aW).map (·,(none:Option Ob))++[(sit n 0,some (⟨e,lt.w,(lt.enc l).map AV.p++(lt.enc m).map AV.p⟩:Ob))] =bD.sto (r1.map (·,none)++[(n,some (.row e lt (l++m)))]):=by
   unfold bD.sto;rw[List.map_append,List.map_map,List.map_map,<-f1];show _++_=_++[(aW n,some (⟨e,lt.w,(lt.enc (l++m)).map AV.p⟩:Ob))];rw[lt.wide.append,List.map_append];rfl
  rw[e1,<-List.map_append];refine cR.flat fun q hq=> ?_
  rcases List.mem_append.1 hq with hq|hq
  ·obtain⟨s,hs,rfl⟩:=List.mem_map.1 hq;exact⟨hfl s hs,rfl⟩
  ·rw[List.mem_singleton.1 hq,f2];exact⟨rfl,rfl⟩
theorem cR.take{σ:Sg}{z n a k:Nat}{ty ity:TypeId}{lt:LT}{L:List (List lt.ty)}{ov:List (Nat×SV)}{ob:SOb}{rd R:List Nat}(hs:σ z=some (.fam ty ity lt L ov))(ho:ov.lookup a=none)(hk:k=(L.getD a []).length)(hn:σ n=none)(hf:ob.flat=true)(hR:inC R (rd.map ncl)):
  cR σ rd [(z,some (.fam ty ity lt L ((a,.ownf z lt a k)::ov))),(n,some ob)] R [(inn z (a+1),none),(aW n,some (ob.ob n))] :=by
 have hzn:z≠n:=fun e=>by rw[e,hn]at hs;cases hs
 refine⟨hR,fun s hm=> ?_,?_⟩
 ·have hm:s=inn z (a+1)\/s=aW n:=by simpa using hm
  rcases hm with rfl|rfl
  ·rw[dI];exact List.mem_cons_self
  ·rw[show cls (aW n)=ncl n from dI n 0]
   exact List.mem_cons_of_mem _ (List.mem_singleton.2 rfl)
 ·funext s
  unfold cB;rcases dV s with⟨y,rfl⟩|⟨y,b,rfl⟩|hno
  ·rw[Sg.cE,Sg.cE,List.lookup_cons,beq_eq_false_iff_ne.2 (show aW y≠inn z (a+1)from fun h=>by have:=(dC h).2;omega)]
   unfold bD.up;dsimp only;rw[List.lookup_cons,List.lookup_cons,List.lookup_cons];by_cases e:y=z
   ·subst e;rw[beq_iff_eq.2 rfl,beq_eq_false_iff_ne.2 (show aW y≠aW n from fun h=>hzn (fW h)),hs]
    show some (⟨ty,1,_⟩:Ob)=some ⟨ty,1,_⟩
    congr 2
    refine List.map_congr_left fun i hi=> ?_
    unfold oO;rw[List.lookup_cons];by_cases hi:i=a
    ·subst hi;rw[beq_iff_eq.2 rfl,ho,hk];rfl
    ·rw[beq_eq_false_iff_ne.2 hi]
   ·rw[beq_eq_false_iff_ne.2 e];dsimp only;by_cases e2:y=n
    ·subst e2;rw[beq_iff_eq.2 rfl,beq_iff_eq.2 rfl];rfl
    ·rw[beq_eq_false_iff_ne.2 e2,beq_eq_false_iff_ne.2 (show aW y≠aW n from fun h=>e2 (fW h))];rfl
  ·rw[Sg.fS,Sg.fS,List.lookup_cons,List.lookup_cons,beq_eq_false_iff_ne.2 (show inn y (b+1)≠aW n from fun h=>by have:=(dC h).2;omega)]
   unfold bD.up;rw[List.lookup_cons,List.lookup_cons];by_cases e:y=z
   ·subst e;rw[beq_iff_eq.2 rfl,hs];by_cases hb:b=a
    ·subst hb;rw[beq_iff_eq.2 rfl];show none=SOb.inner b (.fam ty ity lt L ((b,.ownf y lt b k)::ov));unfold SOb.inner;dsimp only;rw[List.lookup_cons,beq_iff_eq.2 rfl]
    ·rw[beq_eq_false_iff_ne.2 (show inn y (b+1)≠inn y (a+1)from fun h=>hb (by have:=(dC h).2;omega))]
     show SOb.inner b (.fam ty ity lt L ov)=SOb.inner b (.fam ty ity lt L ((a,.ownf y lt a k)::ov));unfold SOb.inner;dsimp only;rw[List.lookup_cons,beq_eq_false_iff_ne.2 hb]
   ·rw[beq_eq_false_iff_ne.2 e,beq_eq_false_iff_ne.2 (show inn y (b+1)≠inn z (a+1)from fun h=>e (dC h).1)]
    by_cases e2:y=n
    ·subst e2;rw[beq_iff_eq.2 rfl,hn];show none=SOb.inner b ob;rw[SOb.pZ hf]
    ·rw[beq_eq_false_iff_ne.2 e2];rfl
  ·rw[Sg.qQ _ hno,Sg.qQ _ hno,List.lookup_cons,List.lookup_cons,beq_eq_false_iff_ne.2 (hno z (a+1)),beq_eq_false_iff_ne.2 (show s≠aW n from fun h=>hno n 0 h)];rfl
def Sh(P:Program)(n:Nat)(t t':TypeId)(σ:Sg)(z:Nat)(lt2:LT)(a k:Nat)(y:SV):SR:=match dO P t,(dO P t').isSome,σ z with
 |some e,true,some (.fam ty ity lt L ov)=>(match decEq lt2 lt,aBx P e,frs σ n,Nat.beq ity e,Nat.beq (aZ P e) lt.w,Sa σ lt y with
  | .isTrue _,true,true,true,true,some (p2,m,r2)=>some ((a<L.length)::(k=(L.getD a []).length)::(zS ov a++p2++[(L.getD a []).length+m.length<=1000000]),.own n lt (L.getD a [] ++m).length,z::r2,[(z,some (.fam ty ity lt L ((a,.ownf z lt a k)::ov))),(n,some (.row e lt (L.getD a [] ++m)))])
  |_,_,_,_,_,_=>none)
 |_,_,_=>none
theorem aAH{P:Program}{n:Nat}{t t':TypeId}{σ:Sg}{z:Nat}{lt2:LT}{a k:Nat}{y:SV}{ps:List Prop}{r:SV}{rd:List Nat}{W:bD}(h:Sh P n t t' σ z lt2 a k y=some (ps,r,rd,W))(hp:∀p∈ps,p):
  (dO P t').isSome=true/\Xx P n t σ.a (SV.ownf z lt2 a k).av y.av fun r' R' W'=>r'=r.av/\cR σ rd W R' W':=by
 unfold Sh at h;split at h
 case h_2=>cases h
 rename_i e ty ity lt L ov he ht' hs;split at h
 case h_2=>cases h
 rename_i hlt p2 m r2 _ htapp hf hi hw h2;subst hlt;cases h;have ha:a<L.length:=hp _ List.mem_cons_self;have hk:k=(L.getD a []).length:=hp _ (List.mem_cons_of_mem _ List.mem_cons_self);have ho:ov.lookup a=none:=kI fun p hq=>hp p (by simp[hq])
 refine⟨ht',e,he,htapp,?_⟩;rw[Nat.eq_of_beq_eq_true hw];obtain⟨f1,f2⟩:=iP hf;refine⟨_,yC hs ha ho,Nat.eq_of_beq_eq_true hi,rfl,?_,?_⟩
 ·show((lt2.enc (L.getD a [])).map AV.p).length=_;rw[List.length_map,lt2.wide.length,hk]
 ·subst hk;refine Ld h2 (fun p hpp=>hp p (by simp[hpp])) ⟨hp _ (by simp),?_,?_⟩
  ·show _=AV.own (aW n) 0 _;rw[List.length_append,f1]
  ·rw[<-f1];have e1:(⟨e,lt2.w,(lt2.enc (L.getD a [])).map AV.p++(lt2.enc m).map AV.p⟩:Ob)=SOb.ob n (.row e lt2 (L.getD a [] ++m)):=by
    show _=(⟨e,lt2.w,(lt2.enc (L.getD a [] ++m)).map AV.p⟩:Ob);rw[lt2.wide.append,List.map_append]
   show cR _ _ _ _ [(inn z (a+1),none),(aW n,some (⟨e,lt2.w,(lt2.enc (L.getD a [])).map AV.p++(lt2.enc m).map AV.p⟩:Ob))];rw[e1];refine cR.take hs ho rfl f2 rfl fun s hm=> ?_
   rcases List.mem_cons.1 hm with rfl|hm
   ·rw[dI];exact List.mem_cons_self
   ·exact List.mem_cons_of_mem _ ((cR.read σ r2).1 s hm)
def aBA(P:Program)(ltOf:TypeId->Option LT)(n:Nat)(t t':TypeId)(σ:Sg)(x y:SV):SR:=match x with
 | .ownf z lt a k=>Sh P n t t' σ z lt a k y
 |_=>Si P ltOf n t t' σ x y
theorem aB4{P:Program}{ltOf:TypeId->Option LT}{n:Nat}{t t':TypeId}{σ:Sg}{x y:SV}{ps:List Prop}{r:SV}{rd:List Nat}{W:bD}(h:aBA P ltOf n t t' σ x y=some (ps,r,rd,W))(hp:∀p∈ps,p):
  (dO P t').isSome=true/\Xx P n t σ.a x.av y.av fun r' R' W'=>r'=r.av/\cR σ rd W R' W':=by
 unfold aBA at h;split at h
 ·exact aAH h hp
 ·exact aAI h hp
def smm(f:Int->Int->Int)(x y:SV):Option SV:=match x,y with
 | .int .i64 a,.int .i64 b=>some (.int .i64 (f a b))
 |_,_=>none
theorem Zp{f:Int->Int->Int}{x y r:SV}(h:smm f x y=some r){K:AV->Prop}(hK:K r.av):mmA f x.av y.av K:=by
 unfold smm at h;split at h<;>cases h;exact hK
end
end Go.Proofs.YtdaeofhdgabhjaaGreat
namespace Go.Proofs.YtdaeofhdgabhjaaGreat
open Go.RowKit
noncomputable section
def qM(f:SV->Option (List Prop×SV)):List SV->Option (List Prop×List SV)
 |[] =>some ([],[])
 |x::l=>match f x,qM f l with
  |some (p,y),some (q,m)=>some (p++q,y::m)
  |_,_=>none
def Sd(d:Nat)(σ:Sg)(x n:Nat):Option (List Prop×SV):=match d,σ x with
 |_+1,some (.fam _ _ .I L [])=>some ([n=L.length],.lst .Q L)
 |_+1,some (.fam _ _ .V L [])=>some ([n=L.length],.lst .R L)
 |_,_=>none
def mT:Nat->Sg->SV->Option (List Prop×SV)
 |_,_,.nil=>some ([],.sl 0 [])
 |_+1,σ,.own s _ n=>(match σ s with
  |some (.row _ lt l)=>some ([n=l.length],.lst lt l)
  |_=>none)
 |_+1,σ,.owns s lt2 o n=>(match σ s with
  |some (.row _ lt l)=>(match Nat.beq lt2.w lt.w with|true=>some ([o+n<=l.length],.lst lt ((l.drop o).take n))|false=>none)
  |_=>none)
 |d+1,σ,.ownx s n=>(match σ s with
  |some (.arr _ ez cs)=>(match Nat.beq cs.length (n*ez),qM (mT d σ) cs with|true,some (ps,m)=>some (ps,.sl n m)|_,_=>none)
  |_=>none)
 |d+1,σ,.ptr s off=>(match σ s with
  |some (.box _ cs)=>(match qM (mT d σ) cs with|some (ps,m)=>some (ps,.pro m off)|none=>none)
  |_=>none)
 |_+1,σ,.ownf x _ a n=>(match σ x with
  |some (.fam _ _ lt L ov)=>some ((a<L.length)::(n=(L.getD a []).length)::zS ov a,.lst lt (L.getD a []))
  |_=>none)
 |d+1,σ,.owF x n=>Sd d σ x n
 |d+1,σ,.agg l=>(match qM (mT d σ) l with|some (ps,m)=>some (ps,.agg m)|none=>none)
 |d+1,σ,.fn f a b=>(match qM (mT d σ) a,qM (mT d σ) b with|some (p,x),some (q,y)=>some (p++q,.fnp f x y)|_,_=>none)
 |_,_,x=>(match x.av with| .p _=>some ([],x)|_=>none)
theorem vW{d:Nat}{σ:Sg}{f:SV->Option (List Prop×SV)}(hf:∀x ps y,f x=some (ps,y)->(∀p∈ps,p)->∃q,fE d σ.a x.av=some q/\y.av= .p q):
  ∀{l:List SV} {ps:List Prop} {m:List SV},qM f l=some (ps,m)->(∀p∈ps,p)->∃q,gE (fE d σ.a) (avs l)=some q/\avs m=q.map .p
 |[],ps,m,h,_=>by simp only[qM,Option.some.injEq,Prod.mk.injEq]at h;obtain⟨rfl,rfl⟩:=h;exact⟨[],rfl,rfl⟩
 |x::l,ps,m,h,hp=>by
  unfold qM at h;split at h
  ·rename_i p y q m' h1 h2;cases h;obtain⟨u,e1,e2⟩:=hf x p y h1 (fun r hr=>hp r (List.mem_append_left _ hr))
   obtain⟨v,e3,e4⟩:=vW hf h2 (fun r hr=>hp r (List.mem_append_right _ hr))
   refine⟨u::v,?_,by rw[avs,e2,e4];rfl⟩
   rw[avs,gE,e1,e3]
  ·cases h
theorem Cp{d:Nat}{σ:Sg}{x:SV}{ps:List Prop}{y:SV}(h:(match x.av with| .p _=>some (([] :List Prop),x)|_=>none)=some (ps,y)):∃q,fE d σ.a x.av=some q/\y.av= .p q:=by
 split at h<;>cases h;rename_i q hq;exact⟨q,by rw[hq,Pc],hq⟩
theorem Cq{σ:Sg}{x a n d:Nat}{ty ity:TypeId}{lt:LT}{L:List (List lt.ty)}{ov:List (Nat×SV)}(hs:σ x=some (.fam ty ity lt L ov))(ha:a<L.length)(hn:n=(L.getD a []).length)(ho:ov.lookup a=none):
  fE (d+1) σ.a (.own (inn x (a+1)) 0 n)=some (.sl (L.getD a []).length (lt.enc (L.getD a []))):=by
 unfold fE;rw[yC hs ha ho];simp only[Option.bind_some,uM,Option.map_some,List.drop_zero];rw[List.take_of_length_le (by rw[lt.wide.length,hn];exact Nat.le_refl _),hn]
theorem Lt{d:Nat}{g:Nat->Option Ob}{f:Nat->AV}{h:Nat->PV}:∀(l:List Nat),(∀i∈l,fE d g (f i)=some (h i))->gE (fE d g) (l.map f)=some (l.map h)
 |[],_=>rfl
 |i::l,H=>by
  rw[List.map_cons,gE,H i List.mem_cons_self,Lt l fun j hj=>H j (List.mem_cons_of_mem _ hj)];rfl
theorem yI{α β:Type}(f:α->β):∀l:List α,(l.flatMap fun r=>[f r])=l.map f
 |[] =>rfl
 |a::l=>by rw[List.flatMap_cons,List.map_cons,yI f l];rfl
theorem Lf{σ:Sg}{x n d:Nat}{ty ity:TypeId}{lt:LT}{L:List (List lt.ty)}(hs:σ x=some (.fam ty ity lt L []))(hn:n=L.length):
  fE (d+2) σ.a (.own (aW x) 0 n)=some (.sl n (L.flatMap fun r=>[PV.sl r.length (lt.enc r)])):=by
 have e1:Sg.a σ (aW x)=some ⟨ty,1,(List.range L.length).map (oO x L [])⟩:=by rw[Sg.cE,hs];rfl
 have e2:gE (fE (d+1) σ.a) ((List.range L.length).map (oO x L []))=some ((List.range L.length).map fun i=>PV.sl (L.getD i []).length (lt.enc (L.getD i []))):=
  Lt _ fun i hi=>Cq (ov:=[]) hs (List.mem_range.1 hi) rfl rfl
 have e3:((List.range L.length).map fun i=>PV.sl (L.getD i []).length (lt.enc (L.getD i [])))=L.flatMap fun r=>[PV.sl r.length (lt.enc r)] :=by
  rw[yI (fun r:List lt.ty=>PV.sl r.length (lt.enc r))]
  refine List.ext_getElem (by simp) fun i h1 h2=> ?_
  have h3:i<L.length:=by simpa using h2
  rw[List.getElem_map,List.getElem_map,List.getElem_range,List.getD_eq_getElem?_getD,List.getElem?_eq_getElem h3];rfl
 show fE (d+1+1) (Sg.a σ) (.own (aW x) 0 n)=_;unfold fE;rw[e1];simp only[Option.bind_some,e2,e3,Option.map_some,List.drop_zero];rw[List.take_of_length_le];rw[<-e3,List.length_map,List.length_range,hn,Nat.mul_one];exact Nat.le_refl _
theorem aAz{σ:Sg}{d x n:Nat}{ps:List Prop}{y:SV}(h:Sd d σ x n=some (ps,y))(hp:∀p∈ps,p):∃q,fE (d+1) σ.a (SV.owF x n).av=some q/\y.av= .p q:=by
 unfold Sd at h;split at h
 ·rename_i d ty ity L hs;cases h;have hn:n=L.length:=hp _ (List.mem_singleton.2 rfl);exact⟨_,Lf hs hn,by rw[hn];rfl⟩
 ·rename_i d ty ity L hs;cases h;have hn:n=L.length:=hp _ (List.mem_singleton.2 rfl);exact⟨_,Lf hs hn,by rw[hn];rfl⟩
 ·cases h
theorem Bt{σ:Sg}:∀{d:Nat} {x:SV} {ps:List Prop} {y:SV},mT d σ x=some (ps,y)->(∀p∈ps,p)->∃q,fE d σ.a x.av=some q/\y.av= .p q:=by
 intro d;induction d with
 |zero=>
  intro x ps y h hp;cases x<;>first
   |(change some ([],SV.sl 0 [])=some (ps,y)at h;cases h;exact⟨.sl 0 [],rfl,rfl⟩)
   |exact Cp h
 |succ d ih=>
  intro x ps y h hp;have ihl:= @vW d σ (mT d σ) (fun x ps y=>ih)
  cases x with
  |nil=>change some ([],SV.sl 0 [])=some (ps,y)at h;cases h;exact⟨.sl 0 [],rfl,rfl⟩
  |own s t n=>
   change (match σ s with|some (.row _ lt l)=>some ([n=l.length],SV.lst lt l)|_=>none)=_ at h
   split at h<;>cases h;rename_i ty lt l hs;have hn:n=l.length:=hp _ (List.mem_singleton.2 rfl);refine⟨_,?_,rfl⟩;show fE (d+1) (Sg.a σ) (.own (aW s) 0 n)=_;unfold fE;have:Sg.a σ (aW s)=some ⟨ty,lt.w,(lt.enc l).map .p⟩:=by rw[Sg.cE,hs];rfl
   rw[this];simp only[Option.bind_some,uM,Option.map_some,List.drop_zero];rw[List.take_of_length_le (by rw[lt.wide.length,hn];exact Nat.le_refl _),hn]
  |owns s lt2 o n=>
   change (match σ s with|some (.row _ lt l)=>(match Nat.beq lt2.w lt.w with|true=>some ([o+n<=l.length],SV.lst lt ((l.drop o).take n))|false=>none)|_=>none)=_ at h
   split at h
   case h_2=>cases h
   rename_i ty lt l hs;split at h<;>cases h;rename_i hw;have hw:=Nat.eq_of_beq_eq_true hw;have hn:o+n<=l.length:=hp _ (List.mem_singleton.2 rfl);refine⟨_,?_,rfl⟩;show fE (d+1) (Sg.a σ) (.own (aW s) (o*lt2.w) n)=_;unfold fE;have:Sg.a σ (aW s)=some ⟨ty,lt.w,(lt.enc l).map .p⟩:=by rw[Sg.cE,hs];rfl
   rw[this];simp only[Option.bind_some,uM,Option.map_some];rw[hw,lt.wide.drop,lt.wide.take]
   congr 2
   simp;omega
  |ownx s n=>
   change (match σ s with|some (.arr _ ez cs)=>(match Nat.beq cs.length (n*ez),qM (mT d σ) cs with|true,some (ps,m)=>some (ps,SV.sl n m)|_,_=>none)|_=>none)=_ at h
   split at h
   case h_2=>cases h
   rename_i ty ez cs hs;split at h<;>cases h;rename_i m hl hm;obtain⟨q,e1,e2⟩:=ihl hm hp;refine⟨.sl n q,?_,by show(match cK (avs m)with|some q=>AV.p (.sl n q)|none=> .any)=_;rw[e2,bT]⟩
   show fE (d+1) (Sg.a σ) (.own (aW s) 0 n)=_;unfold fE;have:Sg.a σ (aW s)=some ⟨ty,ez,avs cs⟩:=by rw[Sg.cE,hs];rfl
   rw[this];simp only[Option.bind_some,e1,Option.map_some,List.drop_zero];rw[List.take_of_length_le (by rw[<-(iK e1).1,dG,Nat.eq_of_beq_eq_true hl];exact Nat.le_refl _)]
  |ptr s off=>
   change (match σ s with|some (.box _ cs)=>(match qM (mT d σ) cs with|some (ps,m)=>some (ps,SV.pro m off)|none=>none)|_=>none)=_ at h
   split at h
   case h_2=>cases h
   rename_i ty cs hs;split at h<;>cases h;rename_i m hm;obtain⟨q,e1,e2⟩:=ihl hm hp;refine⟨.pro q off,?_,by show(match cK (avs m)with|some q=>AV.p (.pro q off)|none=> .any)=_;rw[e2,bT]⟩
   show fE (d+1) (Sg.a σ) (.ptr (aW s) off)=_;unfold fE;have:Sg.a σ (aW s)=some ⟨ty,0,avs cs⟩:=by rw[Sg.cE,hs];rfl
   rw[this];simp only[Option.bind_some,e1,Option.map_some]
  |ownf x t a n=>
   change (match σ x with|some (.fam _ _ lt L ov)=>some ((a<L.length)::(n=(L.getD a []).length)::zS ov a,SV.lst lt (L.getD a []))|_=>none)=_ at h
   split at h<;>cases h;rename_i ty ity lt L ov hs;have ha:a<L.length:=hp _ List.mem_cons_self;have hn:n=(L.getD a []).length:=hp _ (List.mem_cons_of_mem _ List.mem_cons_self);have ho:ov.lookup a=none:=kI fun p hq=>hp p (List.mem_cons_of_mem _ (List.mem_cons_of_mem _ hq))
   exact⟨_,Cq hs ha hn ho,rfl⟩
  |owF x n=>exact aAz (show Sd d σ x n=_ from h) hp
  |agg l=>
   change (match qM (mT d σ) l with|some (ps,m)=>some (ps,SV.agg m)|none=>none)=_ at h
   split at h<;>cases h;rename_i m hm;obtain⟨q,e1,e2⟩:=ihl hm hp;refine⟨.agg q,?_,by show eN (avs m)=_;rw[e2,iX]⟩
   show fE (d+1) (Sg.a σ) (eN (avs l))=_;unfold eN;cases hq:cK (avs l)with
   |some q'=>
    rw[eD hq,uM]at e1;cases e1;exact Pc _ _ _
   |none=>dsimp only;unfold fE;rw[e1];rfl
  |fn f a b=>
   change (match qM (mT d σ) a,qM (mT d σ) b with|some (p,x),some (q,y)=>some (p++q,SV.fnp f x y)|_,_=>none)=_ at h
   split at h<;>cases h;rename_i p x q y h1 h2;obtain⟨u,e1,e2⟩:=ihl h1 (fun r hr=>hp r (List.mem_append_left _ hr))
   obtain⟨v,e3,e4⟩:=ihl h2 (fun r hr=>hp r (List.mem_append_right _ hr))
   refine⟨.fn (.func f) u v,?_,by show(match cK (avs x),cK (avs y)with|some x,some y=>AV.p (.fn (.func f) x y)|_,_=> .any)=_;rw[e2,e4,bT,bT]⟩
   show fE (d+1) (Sg.a σ) (.fn (.func f) (avs a) (avs b))=_;unfold fE;rw[e1,e3];rfl
  |_=>exact Cp h
def dT:Nat->Sg->SV->List Nat
 |0,_,_=>[]
 |d+1,σ,x=>
  let O:Nat->List Nat:=fun s=>match σ s with
   |some (.box _ cs)=>bJ (dT d σ) cs
   |some (.arr _ _ cs)=>bJ (dT d σ) cs
   |some (.fam _ _ _ _ ov)=>bJ (fun q:Nat×SV=>dT d σ q.2) ov
   |_=>[]
  match x with
  | .own s _ _=>s::O s
  | .owns s _ _ _=>s::O s
  | .ownx s _=>s::O s
  | .ptr s _=>s::O s
  | .pte s _ _ _=>s::O s
  | .ptf s _=>s::O s
  | .owF s _=>s::O s
  | .ownf s _ _ _=>[s]
  | .ptef s _ _ _ _=>[s]
  | .agg l=>bJ (dT d σ) l
  | .fn _ a b=>bJ (dT d σ) a++bJ (dT d σ) b
  |_=>[]
def oP:Nat->Sg->SV->Bool
 |0,_,_=>true
 |d+1,σ,x=>
  let O:Nat->Bool:=fun s=>match σ s with
   |some (.box _ cs)=>cs.all (oP d σ)
   |some (.arr _ _ cs)=>cs.all (oP d σ)
   |some (.fam ..)=>false
   |_=>true
  match x with
  | .own s _ _=>O s
  | .owns s _ _ _=>O s
  | .ownx s _=>O s
  | .ptr s _=>O s
  | .pte s _ _ _=>O s
  | .ptf s _=>O s
  | .owF s _=>O s
  | .ownf .. =>false
  | .ptef .. =>false
  | .agg l=>l.all (oP d σ)
  | .fn _ a b=>a.all (oP d σ)&&b.all (oP d σ)
  |_=>true
theorem gW{d:Nat}{g:Nat->Option Ob}{y:AV}(h:(∃q,y= .p q)\/y= .any\/(∃l,y= .tup l)):dX (d+1) g y=[] :=by
 rcases h with⟨q,rfl⟩|rfl|⟨l,rfl⟩<;>rfl
theorem kX(x:SV):(match x with| .tup _| .sl .. | .pro .. | .fnp .. =>True|_=>False)->(∃q,x.av= .p q)\/x.av= .any\/(∃l,x.av= .tup l):=by
 intro h;cases x<;>first|exact h.elim|skip
 ·show(∃q,lN _= .p q)\/lN _= .any\/∃m,lN _= .tup m;unfold lN;split
  ·exact .inl ⟨_,rfl⟩
  ·exact .inr (.inr ⟨_,rfl⟩)
 all_goals
  simp only[SV.av];split
  ·exact .inl ⟨_,rfl⟩
  ·exact .inr (.inl rfl)
theorem Lq{d:Nat}{g:Nat->Option Ob}(l:List SV):dX (d+1) g (eN (avs l))=bJ (dX d g) (avs l):=by
 unfold eN;cases hq:cK (avs l)with
 |none=>rfl
 |some q=>rw[eD hq,mC];rfl
theorem Ua{A B Ac Bc:List Nat}(h1:inC A Ac)(h2:inC B Bc):inC (A++B) (Ac++Bc):=fun s hs=>by
 rcases List.mem_append.1 hs with h|h
 ·exact List.mem_append_left _ (h1 s h)
 ·exact List.mem_append_right _ (h2 s h)
theorem kV{d:Nat}{σ:Sg}(ih:∀x:SV,inC (dX d σ.a x.av) ((dT d σ x).map ncl)):∀l:List SV,inC (bJ (dX d σ.a) (avs l)) ((bJ (dT d σ) l).map ncl)
 |[] =>fun s hs=>(List.not_mem_nil hs).elim
 |x::l=>by rw[avs,bJ,bJ,List.map_append];exact Ua (ih x) (kV ih l)
theorem aAN{σ:Sg}{d:Nat}(ih:∀x:SV,inC (dX d σ.a x.av) ((dT d σ x).map ncl)):∀s:Nat,inC (aW s::(match σ.a (aW s)with|some ob=>bJ (dX d σ.a) ob.cells|none=>[])) ((s::(match σ s with|some (.box _ cs)=>bJ (dT d σ) cs|some (.arr _ _ cs)=>bJ (dT d σ) cs|some (.fam _ _ _ _ ov)=>bJ (fun q:Nat×SV=>dT d σ q.2) ov|_=>[])).map ncl):=by
 intro s t ht;rw[Sg.cE]at ht;rcases List.mem_cons.1 ht with rfl|ht
 ·rw[show cls (aW s)=ncl s from dI s 0];exact List.mem_cons_self
 rw[List.map_cons];cases hs:σ s with
 |none=>rw[hs]at ht;exact(List.not_mem_nil ht).elim
 |some ob=>
  rw[hs]at ht;cases ob with
  |box ty cs=>exact List.mem_cons_of_mem _ (kV ih cs t ht)
  |row ty lt l=>
   have ht:t∈bJ (dX d σ.a) ((lt.enc l).map .p):=ht;rw[mC]at ht;exact(List.not_mem_nil ht).elim
  |arr ty ez cs=>exact List.mem_cons_of_mem _ (kV ih cs t ht)
  |mp ks=>
   have ht:t∈bJ (dX d σ.a) (kD (lQ ks)):=ht;rw[kJ,mC]at ht;exact(List.not_mem_nil ht).elim
  |fam ty ity lt L ov=>
   have ht:t∈bJ (dX d σ.a) ((List.range L.length).map (oO s L ov)):=ht;have:∀l:List Nat,t∈bJ (dX d σ.a) (l.map (oO s L ov))->cls t∈ncl s::((bJ (fun q:Nat×SV=>dT d σ q.2) ov).map ncl):=fun l=>by
    induction l with
    |nil=>intro h;exact(List.not_mem_nil h).elim
    |cons i l ihl=>
     intro h;rw[List.map_cons,bJ]at h;rcases List.mem_append.1 h with h|h
     ·unfold oO at h;split at h
      ·rename_i v hv;obtain⟨y,hy,e⟩:=List.mem_map.1 (ih v t h);refine List.mem_cons_of_mem _ (List.mem_map.2 ⟨y,gG (x:=(i,v)) ?_ hy,e⟩);have key:∀ov:List (Nat×SV),ov.lookup i=some v->(i,v)∈ov:=fun ov hv=>by
        induction ov with
        |nil=>cases hv
        |cons q ov ihv=>
         rw[List.lookup_cons]at hv;split at hv
         ·rename_i e2;cases hv;rw[beq_iff_eq.1 e2];exact List.mem_cons_self
         ·exact List.mem_cons_of_mem _ (ihv hv)
       exact key ov hv
      ·cases d with
       |zero=>exact(List.not_mem_nil h).elim
       |succ d=>
        have h:t∈inn s (i+1)::(match σ.a (inn s (i+1))with|some ob=>bJ (dX d σ.a) ob.cells|none=>[]):=h
        rcases List.mem_cons.1 h with rfl|h
        ·rw[dI];exact List.mem_cons_self
        ·rw[Sg.fS,hs]at h;have h:t∈(match(match ov.lookup i with|some _=>none|none=>(L[i]?).map fun l=>(⟨ity,lt.w,(lt.enc l).map .p⟩:Ob))with|some ob=>bJ (dX d σ.a) ob.cells|none=>[]):=h
         split at h
         ·rename_i ob hob;split at hob
          ·cases hob
          ·cases hL:L[i]? with
           |none=>rw[hL]at hob;cases hob
           |some l=>rw[hL]at hob;cases hob;rw[mC]at h;exact(List.not_mem_nil h).elim
         ·exact(List.not_mem_nil h).elim
     ·exact ihl h
   exact this _ ht
theorem Qm{σ:Sg}{d:Nat}:∀s a:Nat,inC (inn s (a+1)::(match σ.a (inn s (a+1))with|some ob=>bJ (dX d σ.a) ob.cells|none=>[])) ([s].map ncl):=by
 intro s a t ht;rcases List.mem_cons.1 ht with rfl|ht
 ·rw[dI];exact List.mem_cons_self
 ·rw[Sg.fS]at ht;cases hs:σ s with
  |none=>rw[hs]at ht;exact(List.not_mem_nil ht).elim
  |some ob=>
   rw[hs]at ht;cases ob with
   |fam ty ity lt L ov=>
    have ht:t∈(match(match ov.lookup a with|some _=>none|none=>(L[a]?).map fun l=>(⟨ity,lt.w,(lt.enc l).map .p⟩:Ob))with|some ob=>bJ (dX d σ.a) ob.cells|none=>[]):=ht
    split at ht
    ·rename_i ob hob;split at hob
     ·cases hob
     ·cases hL:L[a]? with
      |none=>rw[hL]at hob;cases hob
      |some l=>rw[hL]at hob;cases hob;rw[mC]at ht;exact(List.not_mem_nil ht).elim
    ·exact(List.not_mem_nil ht).elim
   |_=>exact(List.not_mem_nil ht).elim
theorem Ti{σ:Sg}:∀(d:Nat) (x:SV),inC (dX d σ.a x.av) ((dT d σ x).map ncl):=by
 intro d;induction d with
 |zero=>intro x s hs;exact(List.not_mem_nil hs).elim
 |succ d ih=>
  intro x;have obs:=aAN ih;have inner:=Qm (σ:=σ) (d:=d);have non:∀{y:SV} {l:List Nat},dX (d+1) σ.a y.av=[]->inC (dX (d+1) σ.a y.av) l:=fun h=>by rw[h];exact fun s hs=>(List.not_mem_nil hs).elim
  cases x with
  |own s t n=>exact obs s
  |owns s t o n=>exact obs s
  |ownx s n=>exact obs s
  |ptr s off=>exact obs s
  |pte s t i off=>exact obs s
  |ptf s a=>exact obs s
  |owF s n=>exact obs s
  |ownf s t a n=>exact inner s a
  |ptef s t a i off=>exact inner s a
  |agg l=>
   show inC (dX (d+1) σ.a (eN (avs l))) _;rw[Lq];exact kV ih l
  |fn f a b=>
   show inC (bJ (dX d σ.a) (avs a)++bJ (dX d σ.a) (avs b)) ((bJ (dT d σ) a++bJ (dT d σ) b).map ncl);rw[List.map_append];exact Ua (kV ih a) (kV ih b)
  |tup l=>exact non (gW (kX _ trivial))
  |sl n cs=>exact non (gW (kX _ trivial))
  |pro cs off=>exact non (gW (kX _ trivial))
  |fnp f a b=>exact non (gW (kX _ trivial))
  |_=>exact non rfl
theorem kK{d:Nat}{σ:Sg}(ih:∀x:SV,oP d σ x=true->dX d σ.a x.av=(dT d σ x).map aW/\∀y∈dT d σ x,vP (σ y)=true):∀l:List SV,l.all (oP d σ)=true->bJ (dX d σ.a) (avs l)=(bJ (dT d σ) l).map aW/\∀y∈bJ (dT d σ) l,vP (σ y)=true
 |[],_=>⟨rfl,fun y hy=>(List.not_mem_nil hy).elim⟩
 |x::l,h=>by
  rw[List.all_cons,Bool.and_eq_true]at h;obtain⟨a1,a2⟩:=ih x h.1;obtain⟨b1,b2⟩:=kK ih l h.2;rw[avs,bJ,bJ,List.map_append,a1,b1];exact⟨rfl,fun y hy=>by rcases List.mem_append.1 hy with hy|hy;exact a2 y hy;exact b2 y hy⟩
theorem Vz{σ:Sg}:∀(d:Nat) (x:SV),oP d σ x=true->dX d σ.a x.av=(dT d σ x).map aW/\∀y∈dT d σ x,vP (σ y)=true:=by
 intro d;induction d with
 |zero=>intro x _;exact⟨rfl,fun y hy=>(List.not_mem_nil hy).elim⟩
 |succ d ih=>
  intro x hx;have obs:∀s:Nat,(match σ s with|some (.box _ cs)=>cs.all (oP d σ)|some (.arr _ _ cs)=>cs.all (oP d σ)|some (.fam ..)=>false|_=>true)=true->
    (aW s::(match σ.a (aW s)with|some ob=>bJ (dX d σ.a) ob.cells|none=>[]))=(s::(match σ s with|some (.box _ cs)=>bJ (dT d σ) cs|some (.arr _ _ cs)=>bJ (dT d σ) cs|some (.fam _ _ _ _ ov)=>bJ (fun q:Nat×SV=>dT d σ q.2) ov|_=>[])).map aW/\
    ∀y∈(s::(match σ s with|some (.box _ cs)=>bJ (dT d σ) cs|some (.arr _ _ cs)=>bJ (dT d σ) cs|some (.fam _ _ _ _ ov)=>bJ (fun q:Nat×SV=>dT d σ q.2) ov|_=>[])),vP (σ y)=true:=by
   intro s h;rw[Sg.cE,List.map_cons];cases hs:σ s with
   |none=>exact⟨rfl,fun y hy=>by rw[List.mem_singleton.1 hy,hs];rfl⟩
   |some ob=>
    rw[hs]at h;cases ob with
    |box ty cs=>
     obtain⟨a1,a2⟩:=kK ih cs h;refine⟨congrArg (aW s:: ·) a1,fun y hy=> ?_⟩
     rcases List.mem_cons.1 hy with rfl|hy
     ·rw[hs];rfl
     ·exact a2 y hy
    |row ty lt l=>exact⟨congrArg (aW s:: ·) (mC _ _ _),fun y hy=>by rw[List.mem_singleton.1 hy,hs];rfl⟩
    |arr ty ez cs=>
     obtain⟨a1,a2⟩:=kK ih cs h;refine⟨congrArg (aW s:: ·) a1,fun y hy=> ?_⟩
     rcases List.mem_cons.1 hy with rfl|hy
     ·rw[hs];rfl
     ·exact a2 y hy
    |mp ks=>
     refine⟨congrArg (aW s:: ·) ?_,fun y hy=>by rw[List.mem_singleton.1 hy,hs];rfl⟩
     show bJ (dX d σ.a) (kD (lQ ks))=_;rw[kJ];exact mC _ _ _
    |fam=>cases h
  have non:∀{y:SV},dX (d+1) σ.a y.av=[]->dT (d+1) σ y=[]->dX (d+1) σ.a y.av=(dT (d+1) σ y).map aW/\∀z∈dT (d+1) σ y,vP (σ z)=true:=fun h g=>by
   rw[h,g];exact⟨rfl,fun y hy=>(List.not_mem_nil hy).elim⟩
  cases x with
  |own s t n=>exact obs s hx
  |owns s t o n=>exact obs s hx
  |ownx s n=>exact obs s hx
  |ptr s off=>exact obs s hx
  |pte s t i off=>exact obs s hx
  |ptf s a=>exact obs s hx
  |owF s n=>exact obs s hx
  |ownf s t a n=>cases hx
  |ptef s t a i off=>cases hx
  |agg l=>
   show dX (d+1) σ.a (eN (avs l))=_/\_;rw[Lq];exact kK ih l hx
  |fn f a b=>
   have hx:(a.all (oP d σ)&&b.all (oP d σ))=true:=hx;rw[Bool.and_eq_true]at hx;obtain⟨a1,a2⟩:=kK ih a hx.1;obtain⟨b1,b2⟩:=kK ih b hx.2;show bJ (dX d σ.a) (avs a)++bJ (dX d σ.a) (avs b)=(bJ (dT d σ) a++bJ (dT d σ) b).map aW/\∀y∈bJ (dT d σ) a++bJ (dT d σ) b,_;rw[a1,b1,List.map_append];exact⟨rfl,fun y hy=>by rcases List.mem_append.1 hy with hy|hy;exact a2 y hy;exact b2 y hy⟩
  |tup l=>exact non (gW (kX _ trivial)) rfl
  |sl n cs=>exact non (gW (kX _ trivial)) rfl
  |pro cs off=>exact non (gW (kX _ trivial)) rfl
  |fnp f a b=>exact non (gW (kX _ trivial)) rfl
  |_=>exact non rfl rfl
inductive RK(X:Type) where
 |val (fr:Bool) (res:X->SV)
 |own (ty:TypeId) (t:LT) (l:X->List t.ty) (ys:X->List SV)
 |ownN (ty:TypeId) (t:LT) (l:X->List t.ty)
 |mutR (t:LT) (ty:TypeId) (l':X->List t.ty)
 |mutB (ty:TypeId) (cells':X->List SV)
 |tree (res:X->SV) (obs:X->bD)
 |rowB (t:LT) (ty:TypeId) (l':X->List t.ty)
structure Con where
 X:Type
 dec:List SV->Option X
 pre:X->List Prop
 rk:RK X
def aJu(P:Program)(f:Nat){X:Type}(dec:List SV->Option X)(pre:X->List Prop):RK X->Prop
 | .val fr res=>∀xs x,dec xs=some x->(∀p∈pre x,p)->∃A r,avs xs=A.map .p/\(res x).av= .p r/\Sat P fr f A r
 | .own ty t l ys=>∀xs x,dec xs=some x->(∀p∈pre x,p)->∃A Y,avs xs=A.map .p/\avs (ys x)=Y.map .p/\Xy P f A ty t.w (t.enc (l x)) (l x).length Y
 | .ownN ty t l=>∀xs x,dec xs=some x->(∀p∈pre x,p)->∃A,avs xs= .nil::A.map .p/\aEX P f A ty t.w (t.enc (l x)) (l x).length []
 | .mutR t ty l'=>∀l rest x,dec (.lst t l::rest)=some x->(∀p∈pre x,p)->∃A,avs rest=A.map .p/\zU P f (some l.length) A ty t.w (t.enc l) (t.enc (l' x))
 | .mutB ty cells'=>∀cs rest x,dec (.agg cs::rest)=some x->(∀p∈pre x,p)->∃A q q',avs rest=A.map .p/\avs cs=q.map .p/\avs (cells' x)=q'.map .p/\zU P f none A ty 0 q q'
 | .tree res obs=>∀xs x,dec xs=some x->(∀p∈pre x,p)->∃A,avs xs=A.map .p/\aEW P f A (res x).av (Sg.a (bD.at (obs x)))
 | .rowB t ty l'=>∀l rest x,dec (.lst t l::rest)=some x->(∀p∈pre x,p)->∃A,avs rest=A.map .p/\aEY P f l.length A ty t.w (t.enc l) (t.enc (l' x)) (l' x).length
def Con.Ok(P:Program)(f:Nat)(c:Con):Prop:=aJu P f c.dec c.pre c.rk
abbrev Tab:=Nat->Option Con
def Tab.Ok(P:Program)(T:Tab):Prop:=∀f c,T f=some c->c.Ok P f
def LT.argP:(t:LT)->t.ty->PV
 | .V=>fun v=> .agg [.int .i64 v.x,.int .i64 v.y]
 | .S=>fun s=> .agg [.int .i64 s.a.x,.int .i64 s.a.y,.int .i64 s.b.x,.int .i64 s.b.y]
 | .R=>fun r=> .sl r.length (lL r)
 | .I=>fun n=> .int .i64 n
 | .B=>fun b=> .bool b
 | .P=>fun p=> .agg [.int .i64 p.1,.int .i64 p.2]
 | .Q=>fun r=> .sl r.length (aBP r)
def LT.one:LT->Bool
 | .V=>false
 | .S=>false
 | .P=>false
 |_=>true
def Xw(t:LT)(v:SV):Option t.ty:=match t.one with
 |true=>t.dec [v]
 |false=>(match v with| .agg l=>t.dec l|_=>none)
theorem Jc{t:LT}{v:SV}{x:t.ty}(h:Xw t v=some x):v.av= .p (t.argP x):=by
 have agg:∀l:List SV,v= .agg l->t.dec l=some x->v.av= .p (.agg (t.rowP x)):=by
  intro l e hd;subst e;show eN (avs l)=_;rw[LT.Bk hd,iX]
 have one:t.dec [v] =some x->∀c,t.rowP x=[c]->v.av= .p c:=by
  intro hd c hc;have:=LT.Bk hd;rw[hc]at this;simp only[avs,List.map_cons,List.map_nil,List.cons.injEq,and_true]at this;exact this
 unfold Xw at h;cases t<;>simp only[LT.one]at h<;>first
  |exact one h _ rfl
  |(split at h<;>first|exact agg _ rfl h|cases h)
def aFB(P:Program)(pv:PV)(t:LT)(q:t.ty->Bool)(dom:t.ty->Prop):Prop:=∃f first caps,pv= .fn (.func f) first caps/\∀x,dom x->∃fr,Sat P fr f (first++[t.argP x] ++caps) (.bool (q x))
def aFA(P:Program)(pv:PV)(t:LT)(q:t.ty->t.ty->Int)(dom:t.ty->t.ty->Prop):Prop:=∃f first caps,pv= .fn (.func f) first caps/\∀x y,dom x y->∃fr,Sat P fr f (first++[t.argP x,t.argP y] ++caps) (.int .i64 (q x y))
def Yy(x:SV):Bool:=match x.av with
 | .p r=>r.flat
 |_=>false
def Sf(T:Tab)(n:Nat)(σ:Sg)(f:Nat)(xs:List SV):SR:=match T f with
 |none=>none
 |some ⟨_,dec,pre,rk⟩=>(match rk with
  | .val fr res=>(match qM (mT 3 σ) xs with
    |some (ps,bs)=>(match dec bs with
     |some x=>(match(res x).ape,cK (avs xs)with
      |false,some _=>some (ps++pre x,res x,[],[])
      |false,none=>(match fr,Yy (res x)with
       |false,false=>(match xs.all (oP 3 σ)with|true=>some (ps++pre x,res x,bJ (dT 3 σ) xs,(bJ (dT 3 σ) xs).map (·,none))|false=>none)
       |_,_=>some (ps++pre x,res x,bJ (dT 3 σ) xs,[]))
      |_,_=>none)
     |none=>none)
    |none=>none)
  | .own ty t l ys=>(match cK (avs xs),dec xs,frs σ n with
    |some _,some x,true=>(match ys x with
     |[] =>some (pre x,.own n t (l x).length,[],[(n,some (.row ty t (l x)))])
     |y::r=>(match Nat.beq (y::r).length 0 with|_=>some (pre x,.tup (.own n t (l x).length::y::r),[],[(n,some (.row ty t (l x)))])))
    |_,_,_=>none)
  | .ownN ty t l=>(match xs with
    | .nil::rest=>(match cK (avs rest),dec (.nil::rest),frs σ n with
      |some _,some x,true=>some (pre x,.own n t (l x).length,[],[(n,some (.row ty t (l x)))])
      |_,_,_=>none)
    |_=>none)
  | .mutR t ty l'=>(match xs with
    | .own s _ m::rest=>(match σ s,cK (avs rest)with
      |some (.row ty' t' l),some _=>(match decEq t' t,Nat.beq ty' ty with
       | .isTrue h,true=>(match dec (.lst t (h▸l)::rest)with
         |some x=>some ((m=l.length)::pre x,.undef,[s],[(s,some (.row ty t (l' x)))])
         |none=>none)
       |_,_=>none)
      |_,_=>none)
    |_=>none)
  | .mutB ty cells'=>(match xs with
    | .ptr s 0::rest=>(match σ s,cK (avs rest)with
      |some (.box ty' cs),some _=>(match Nat.beq ty' ty,dec (.agg cs::rest)with
       |true,some x=>some (pre x,.undef,[s],[(s,some (.box ty (cells' x)))])
       |_,_=>none)
      |_,_=>none)
    |_=>none)
  | .tree .. =>none
  | .rowB .. =>none)
theorem Ll{P:Program}{T:Tab}(hT:T.Ok P){n:Nat}{σ:Sg}{f:Nat}{xs:List SV}{ps:List Prop}{r:SV}{rd:List Nat}{W:bD}(h:Sf T n σ f xs=some (ps,r,rd,W))(hp:∀p∈ps,p):
  (pN P σ.a f (avs xs) (fun r' R' W'=>r'=r.av/\cR σ rd W R' W')\/Ah P n f (avs xs) (fun r' R' W'=>r'=r.av/\cR σ rd W R' W'))/\r.ok:=by
 unfold Sf at h;split at h
 ·cases h
 rename_i X dec pre rk hTf;have hc:=hT f _ hTf;unfold Con.Ok at hc;dsimp only at hc;split at h
 ·rename_i fr res;split at h
  case h_2=>cases h
  rename_i qs bs hb;split at h
  case h_2=>cases h
  rename_i x hx;have fin:(∀p∈qs++pre x,p)->∃A r,gE (fE 3 σ.a) (avs xs)=some A/\(res x).av= .p r/\Sat P fr f A r:=by
   intro hp;obtain⟨A,r,h1,h2,h3⟩:=hc bs x hx (fun p h=>hp p (List.mem_append_right _ h))
   obtain⟨q,h4,h5⟩:=vW (fun x ps y=>Bt) hb (fun p h=>hp p (List.mem_append_left _ h))
   rw[h1]at h5;have:A=q:=by
    have:=congrArg cK h5;rw[bT,bT]at this;cases this;rfl
   subst this;exact⟨A,r,h4,h2,h3⟩
  have hR:cR σ (bJ (dT 3 σ) xs) [] (bJ (dX 3 σ.a) (avs xs)) [] :=⟨kV (Ti 3) xs,fun s hs=>(List.not_mem_nil hs).elim,rfl⟩
  split at h
  ·rename_i A' hape hA';cases h;obtain⟨A,r,h1,h2,h3⟩:=fin hp;refine⟨.inl ?_,SV.qX hape⟩;rw[h2];rw[eD hA',uM]at h1;cases h1;exact rT h3 hA' ⟨rfl,cR.read σ []⟩
  ·rename_i hape hA';cases hfr:fr with
   |true=>
    rw[hfr]at h;cases h;obtain⟨A,r,h1,h2,h3⟩:=fin hp;refine⟨.inl ?_,SV.qX hape⟩;rw[h2];rw[hfr]at h3;exact wX h3 h1 rfl ⟨rfl,hR⟩
   |false=>
    cases hfl:Yy (res x)with
    |true=>
     rw[hfr,hfl]at h;cases h;obtain⟨A,r,h1,h2,h3⟩:=fin hp;refine⟨.inl ?_,SV.qX hape⟩;unfold Yy at hfl;rw[h2]at hfl|-;exact wX (h3.fresh hfl) h1 rfl ⟨rfl,hR⟩
    |false=>
     rw[hfr,hfl]at h;dsimp only at h;split at h<;>cases h;rename_i hall;obtain⟨A,r,h1,h2,h3⟩:=fin hp;refine⟨.inl ?_,SV.qX hape⟩;rw[h2];obtain⟨e1,e2⟩:=kK (Vz 3) xs hall;refine Ny h3 h1 e1 ⟨rfl,?_⟩;have e3:((bJ (dT 3 σ) xs).map aW).map (·,(none:Option Ob))=bD.sto ((bJ (dT 3 σ) xs).map (·,none)):=by
      unfold bD.sto;rw[List.map_map,List.map_map];rfl
     rw[e3];exact cR.flat fun q hq=>by
      obtain⟨y,hy,rfl⟩:=List.mem_map.1 hq;exact⟨e2 y hy,rfl⟩
  ·cases h
 ·rename_i ty t l ys;split at h
  case h_2=>cases h
  rename_i A' x hA' hx hfr;obtain⟨f1,f2⟩:=iP hfr;have fin:(∀p∈pre x,p)->∃Y,avs (ys x)=Y.map .p/\Xy P f A' ty t.w (t.enc (l x)) (l x).length Y:=by
   intro hp;obtain⟨A,Y,h1,h2,h3⟩:=hc xs x hx hp;rw[h1,bT]at hA';cases hA';exact⟨Y,h2,h3⟩
  split at h
  ·rename_i hy;cases h;obtain⟨Y,h1,h2⟩:=fin hp;rw[hy]at h1;have hY:Y=[] :=by
    have:=congrArg List.length h1;simp[avs]at this;exact List.length_eq_zero_iff.1 (by omega)
   subst hY;exact⟨.inr ⟨A',ty,t.w,t.enc (l x),(l x).length,[],.inl ⟨hA',h2⟩,by show _=AV.own (aW n) 0 _;rw[f1];rfl,cR.new (ob:= .row ty t (l x)) f2 f1 rfl⟩,trivial⟩
  ·rename_i y r' hy;cases h;obtain⟨Y,h1,h2⟩:=fin hp;rw[hy]at h1;refine⟨.inr ⟨A',ty,t.w,t.enc (l x),(l x).length,Y,.inl ⟨hA',h2⟩,?_,cR.new (ob:= .row ty t (l x)) f2 f1 rfl⟩,trivial⟩;show aBC n (l x).length Y=lN (avs (.own n t (l x).length::y::r'));cases Y with
   |nil=>simp[avs]at h1
   |cons y0 Y=>
    rw[avs,h1];unfold aBC lN;rw[<-f1];rfl
 ·rename_i ty t l;split at h
  case h_2=>cases h
  rename_i rest;split at h<;>cases h;rename_i A' x hA' hx hfr;obtain⟨f1,f2⟩:=iP hfr;obtain⟨A,h1,h2⟩:=hc _ x hx hp;have hA2:A'=A:=by
   have h1:AV.nil::avs rest= .nil::A.map .p:=h1;rw[List.cons.injEq]at h1;rw[h1.2,bT]at hA';cases hA';rfl
  subst hA2;exact⟨.inr ⟨A',ty,t.w,t.enc (l x),(l x).length,[],.inr ⟨avs rest,rfl,hA',h2⟩,by show _=AV.own (aW n) 0 _;rw[f1];rfl,cR.new (ob:= .row ty t (l x)) f2 f1 rfl⟩,trivial⟩
 ·rename_i t ty l';split at h
  case h_2=>cases h
  rename_i s t2 m rest;split at h
  case h_2=>cases h
  rename_i ty' t' l A' hs hA';split at h
  case h_2=>cases h
  rename_i he _ hty;subst he;split at h<;>cases h;rename_i x hx;have hm:m=l.length:=hp _ (by simp)
  obtain⟨A,h1,h2⟩:=hc l rest x hx (fun p h=>hp p (List.mem_cons_of_mem _ h))
  have hty:=Nat.eq_of_beq_eq_true hty;refine⟨.inl (.inr ?_),trivial⟩;refine⟨ty,t'.w,t'.enc l,by rw[Sg.cE,hs,hty];rfl,Nat.ne_of_gt t'.mR,A,t'.enc (l' x),by rw[h1,bT],by rw[hm];exact h2,rfl,?_⟩
  exact cR.flat (rd:=[s]) (W:=[(s,some (.row ty t' (l' x)))]) fun q hq=>by rw[List.mem_singleton.1 hq,hs];exact⟨rfl,rfl⟩
 ·rename_i ty cells';split at h
  case h_2=>cases h
  rename_i s rest;split at h
  case h_2=>cases h
  rename_i ty' cs A' hs hA';split at h<;>cases h;rename_i x hty hx;obtain⟨A,q,q',h1,h2,h3,h4⟩:=hc cs rest x hx hp;have hty:=Nat.eq_of_beq_eq_true hty;refine⟨.inl (.inr ?_),trivial⟩;refine⟨ty,q,by rw[Sg.cE,hs,hty];show some (⟨ty,0,avs cs⟩:Ob)=_;rw[h2],A,q',by rw[h1,bT],h4,rfl,?_⟩
  rw[<-h3];exact cR.flat (rd:=[s]) (W:=[(s,some (.box ty (cells' x)))]) fun q hq=>by rw[List.mem_singleton.1 hq,hs];exact⟨rfl,rfl⟩
 ·cases h
 ·cases h
def Il(P:Program)(T:Tab)(n:Nat)(σ:Sg)(fv:SV)(xs:List SV):SR:=match fv with
 | .fn g a b=>Sf T n σ g (a++xs++b)
 | .fnp g a b=>(match cK (avs a),cK (avs b)with|some _,some _=>Sf T n σ g (a++xs++b)|_,_=>none)
 | .clo1 pv t q dom=>(match xs with
   |[v] =>(match Xw t v with|some x=>some ([dom x/\aFB P pv t q dom],.bool (q x),[],[])|none=>none)
   |_=>none)
 | .clo2 pv t q dom=>(match xs with
   |[v,u] =>(match Xw t v,Xw t u with|some x,some y=>some ([dom x y/\aFA P pv t q dom],.int .i64 (q x y),[],[])|_,_=>none)
   |_=>none)
 |_=>none
theorem Qg{P:Program}{T:Tab}(hT:T.Ok P){n:Nat}{σ:Sg}{fv:SV}{xs:List SV}{ps:List Prop}{r:SV}{rd:List Nat}{W:bD}(h:Il P T n σ fv xs=some (ps,r,rd,W))(hp:∀p∈ps,p):
  (Sr P σ.a fv.av (avs xs) (fun r' R' W'=>r'=r.av/\cR σ rd W R' W')\/Sq P n fv.av (avs xs) (fun r' R' W'=>r'=r.av/\cR σ rd W R' W'))/\r.ok:=by
 unfold Il at h;split at h
 ·rename_i g a b;have:=Ll hT h hp;rw[iZ,iZ]at this;exact this
 ·rename_i g a b;split at h
  case h_2=>cases h
  rename_i x y h1 h2;have:=Ll hT h hp;rw[iZ,iZ,eD h1,eD h2]at this;have e:(SV.fnp g a b).av= .p (.fn (.func g) x y):=by simp only[SV.av,h1,h2]
  rw[e];exact this
 ·rename_i pv t q dom;split at h
  case h_2=>cases h
  rename_i v;split at h<;>cases h;rename_i x hx;obtain⟨h1,f,first,caps,rfl,h2⟩:=hp _ (List.mem_singleton.2 rfl)
  obtain⟨fr,h3⟩:=h2 x h1;refine⟨.inl ?_,trivial⟩;show pN P σ.a f (first.map .p++[v.av] ++caps.map .p) _;have e:first.map AV.p++[v.av] ++caps.map AV.p=(first++[t.argP x] ++caps).map .p:=by
   rw[Jc hx,List.map_append,List.map_append];rfl
  rw[e];exact rT h3 (bT _) ⟨rfl,cR.read σ []⟩
 ·rename_i pv t q dom;split at h
  case h_2=>cases h
  rename_i v u;split at h<;>cases h;rename_i x y hx hy;obtain⟨h1,f,first,caps,rfl,h2⟩:=hp _ (List.mem_singleton.2 rfl)
  obtain⟨fr,h3⟩:=h2 x y h1;refine⟨.inl ?_,trivial⟩;show pN P σ.a f (first.map .p++[v.av,u.av] ++caps.map .p) _;have e:first.map AV.p++[v.av,u.av] ++caps.map AV.p=(first++[t.argP x,t.argP y] ++caps).map .p:=by
   rw[Jc hx,Jc hy,List.map_append,List.map_append];rfl
  rw[e];exact rT h3 (bT _) ⟨rfl,cR.read σ []⟩
 ·cases h
structure Cx where
 P:Program
 T:Tab
 lt:TypeId->Option LT
 q:EqT
 mt:TypeId->Bool
 inl:Nat->Bool
def aIL(P:Program)(t:TypeId):Prop:=∃k e,P.underlying t=some (.map k e)/\MKey P k 2/\∀w,(zeroValue e).run P w= .ok (.bool false) w
def Cx.Ok(X:Cx):Prop:=X.T.Ok X.P/\X.q.Ok X.P/\∀t,X.mt t=true->aIL X.P t
def Kk:Option SV->SR
 |some r=>(match r.ape with|false=>some ([],r,[],[])|true=>none)
 |none=>none
theorem mO{o:Option SV}{ps:List Prop}{r:SV}{rd:List Nat}{W:bD}(h:Kk o=some (ps,r,rd,W)):o=some r/\r.ok/\ps=[]/\rd=[]/\W=[] :=by
 unfold Kk at h;split at h
 ·split at h<;>cases h;rename_i hh;exact⟨rfl,SV.qX hh,rfl,rfl,rfl⟩
 ·cases h
def Ff:Option (List Prop×SV)->SR
 |some (ps,r)=>(match r.ape with|false=>some (ps,r,[],[])|true=>none)
 |none=>none
theorem qA{o:Option (List Prop×SV)}{ps:List Prop}{r:SV}{rd:List Nat}{W:bD}(h:Ff o=some (ps,r,rd,W)):o=some (ps,r)/\r.ok/\rd=[]/\W=[] :=by
 unfold Ff at h;split at h
 ·split at h<;>cases h;rename_i hh;exact⟨rfl,SV.qX hh,rfl,rfl⟩
 ·cases h
def Fe:SR->SR
 |some (ps,r,rd,W)=>(match r.ape with|false=>some (ps,r,rd,W)|true=>none)
 |none=>none
theorem vF{o:SR}{ps:List Prop}{r:SV}{rd:List Nat}{W:bD}(h:Fe o=some (ps,r,rd,W)):o=some (ps,r,rd,W)/\r.ok:=by
 unfold Fe at h;split at h
 ·split at h<;>cases h;rename_i hh;exact⟨rfl,SV.qX hh⟩
 ·cases h
def aHr(raw:Bool)(x:SV):SV:=match raw with
 |true=>(match x with| .nil=> .sl 0 [] |y=>y)
 |false=>x
def sop(X:Cx)(raw:Bool)(n:Nat)(o:Op)(E:SE)(σ:Sg):SR:=match o with
 | .move x=>some ([],E x,[],[])
 | .assign x=>some ([],aHr raw (E x),[],[])
 | .pick c a b=>Kk (Yi (E c) (E a) (E b))
 | .alloc t=>Hp X.P σ n t
 | .box t x=>aBz σ n t (E x)
 | .build t parts=>Ho X.P t (parts.toList.map fun q=>(q.1,E q.2))
 | .buildSlice t len parts=>Ag X.P σ n t len (parts.toList.map fun q=>(q.1,E q.2))
 | .load t x=>Fe (Ym X.P t (E x) σ)
 | .store t a x=>Hn X.P t (E a) (E x) σ
 | .nilCheck x=>(match aBG (E x).av with|true=>some ([],E x,[],[])|false=>none)
 | .binOp op t x y _=>Ff (aEA X.P X.q raw op t (E x) (E y))
 | .unOp op _ x=>Ff (sun raw op (E x))
 | .convert s d x=>Ff (Yp X.P raw s d (E x))
 | .makeFunc (.func f) first caps=>some ([],.fn f (first.toList.map E) (caps.toList.map E),[],[])
 | .slice t x lo hi none=>(match aBL E lo,aBL E hi with|some a,some b=>Ff (Pb X.P t (E x) a b)|_,_=>none)
 | .fieldAddr t x f=>(match Pf X.P t (E x) f with|some r=>some ([],r,[],[])|none=>none)
 | .field t x f=>Kk (Pe X.P t (E x) f)
 | .indexAddr t x i=>(match Pd X.P t (E x) (E i)with|some (ps,r)=>some (ps,r,[],[])|none=>none)
 | .extract x i=>Kk (Yn (E x) i)
 | .call {callee:= .value f,args, .. }=>Il X.P X.T n σ (E f) (args.toList.map E)
 | .call {callee:= .builtin .len,args:=⟨[x]⟩,argTypes:=⟨[t]⟩}=>Kk (aEz X.P t (E x))
 | .call {callee:= .builtin .append,args:=⟨[x,y]⟩,argTypes:=⟨[t,t']⟩}=>aBA X.P X.lt n t t' σ (E x) (E y)
 | .call {callee:= .builtin .min,args:=⟨[x,y]⟩, .. }=>Kk (smm min (E x) (E y))
 | .call {callee:= .builtin .max,args:=⟨[x,y]⟩, .. }=>Kk (smm max (E x) (E y))
 | .makeSlice t a b=>Fe (Yk X.P X.lt σ n t (E a) (E b))
 |_=>none
theorem aE5{X:Cx}(hX:X.Ok){raw:Bool}{n:Nat}{o:Oper}{E:SE}{σ:Sg}(hE:∀x,(E x).ok){ps:List Prop}{r:SV}{rd:List Nat}{W:bD}(h:sop X raw n o.op E σ=some (ps,r,rd,W))(hp:∀p∈ps,p):
  AOp X.P n o E.a σ.a (fun r' R' W'=>r'=r.av/\cR σ rd W R' W')/\r.ok:=by
 obtain⟨hT,hq,_⟩:=hX;generalize ho:o.op=op at h;have A:∀{R:SR},yY X.P n o E σ R->R=some (ps,r,rd,W)->AOp X.P n o E.a σ.a (fun r' R' W'=>r'=r.av/\cR σ rd W R' W'):=fun hs e=>hs _ _ _ _ e hp
 have avl:∀l:List Operand,avs (l.map E)=l.map E.a:=fun l=>by rw[eP,List.map_map];rfl
 unfold sop at h;split at h
 ·rename_i x;cases h;exact⟨by unfold AOp;rw[ho];exact⟨rfl,cR.read σ []⟩,hE x⟩
 ·rename_i x;cases h;unfold aHr;split
  ·split
   ·rename_i hx;exact⟨by unfold AOp;rw[ho];exact .inr ⟨by show(E x).av= .nil;rw[hx];rfl,rfl,cR.read σ []⟩,trivial⟩
   ·exact⟨by unfold AOp;rw[ho];exact .inl ⟨rfl,cR.read σ []⟩,hE x⟩
  ·exact⟨by unfold AOp;rw[ho];exact .inl ⟨rfl,cR.read σ []⟩,hE x⟩
 ·obtain⟨h1,h2,rfl,rfl,rfl⟩:=mO h;exact⟨by unfold AOp;rw[ho];exact aAw h1 ⟨rfl,cR.read σ []⟩,h2⟩
 ·refine⟨A (Vp ho) h,?_⟩;unfold Hp at h;split at h<;>cases h;trivial
 ·refine⟨A (aB2 ho) h,?_⟩;unfold aBz at h;split at h<;>cases h;trivial
 ·refine⟨A (Vl ho) h,?_⟩;unfold Ho at h;split at h
  ·split at h<;>cases h;trivial
  ·cases h
 ·refine⟨A (Qh ho) h,?_⟩;unfold Ag at h;split at h
  ·split at h
   ·split at h<;>cases h;trivial
   ·cases h
  ·cases h
 ·rename_i t x;obtain⟨h1,h2⟩:=vF h;exact⟨A (aAC ho (hE x)) h1,h2⟩
 ·refine⟨A (Vd ho) h,?_⟩;unfold Hn at h;split at h
  ·split at h
   ·split at h
    ·split at h
     ·split at h<;>cases h;trivial
     ·split at h<;>cases h;trivial
     ·cases h
    ·split at h
     ·split at h<;>cases h;trivial
     ·cases h
    ·split at h<;>cases h;trivial
    ·cases h
   ·cases h
  ·cases h
 ·rename_i x;split at h<;>cases h;rename_i hn;exact⟨by unfold AOp;rw[ho];exact⟨hn,rfl,cR.read σ []⟩,hE x⟩
 ·obtain⟨h1,h2,rfl,rfl⟩:=qA h;exact⟨by unfold AOp;rw[ho];exact aB3 hq h1 hp ⟨rfl,cR.read σ []⟩,h2⟩
 ·obtain⟨h1,h2,rfl,rfl⟩:=qA h;exact⟨by unfold AOp;rw[ho];exact aE3 h1 hp ⟨rfl,cR.read σ []⟩,h2⟩
 ·obtain⟨h1,h2,rfl,rfl⟩:=qA h;exact⟨by unfold AOp;rw[ho];exact aAF h1 hp ⟨rfl,cR.read σ []⟩,h2⟩
 ·cases h;refine⟨?_,trivial⟩;unfold AOp;rw[ho];dsimp only;refine⟨?_,cR.read σ []⟩;show _=AV.fn _ (avs _) (avs _);rw[avl,avl]
 ·rename_i t x lo hi;split at h
  case h_2=>cases h
  rename_i a b ha hb;obtain⟨h1,h2,rfl,rfl⟩:=qA h;refine⟨?_,h2⟩;unfold AOp;rw[ho];dsimp only;have key:∀(z:Option Operand) (c:Option Int) (d:Int),aBL E z=some c->loA E.a z d=some (c.getD d):=by
   intro z c d hz;cases z with
   |none=>cases hz;rfl
   |some z=>
    unfold aBL at hz;dsimp only at hz;split at hz<;>cases hz;rename_i k hk;exact aCp hk
  rw[key lo a 0 ha,key hi b _ hb];exact Ve h1 hp ⟨rfl,cR.read σ []⟩
 ·rename_i t x f;split at h<;>cases h;rename_i h1;have:=Vk h1 (K:=fun r'=>r'=r.av/\cR σ [] [] [] []) ⟨rfl,cR.read σ []⟩
  exact⟨by unfold AOp;rw[ho];exact this.1,this.2 (hE x)⟩
 ·obtain⟨h1,h2,rfl,rfl,rfl⟩:=mO h;exact⟨by unfold AOp;rw[ho];exact Vj h1 ⟨rfl,cR.read σ []⟩,h2⟩
 ·split at h<;>cases h;rename_i h1;have:=Vi h1 hp (K:=fun r'=>r'=r.av/\cR σ [] [] [] []) ⟨rfl,cR.read σ []⟩
  exact⟨by unfold AOp;rw[ho];exact this.1,this.2⟩
 ·obtain⟨h1,h2,rfl,rfl,rfl⟩:=mO h;exact⟨by unfold AOp;rw[ho];exact aAD h1 ⟨rfl,cR.read σ []⟩,h2⟩
 ·have:=Qg hT h hp;rw[avl]at this;exact⟨by unfold AOp;rw[ho];exact this.1,this.2⟩
 ·obtain⟨h1,h2,rfl,rfl,rfl⟩:=mO h;exact⟨by unfold AOp;rw[ho];exact aBZ h1 ⟨rfl,cR.read σ []⟩,h2⟩
 ·have:=aB4 h hp;refine⟨by unfold AOp;rw[ho];exact this,?_⟩
  unfold aBA at h;split at h
  ·unfold Sh at h;split at h
   ·split at h<;>cases h;trivial
   ·cases h
  ·unfold Si at h;split at h
   ·split at h
    ·split at h<;>cases h;trivial
    ·cases h
   ·cases h
 ·obtain⟨h1,h2,rfl,rfl,rfl⟩:=mO h;exact⟨by unfold AOp;rw[ho];exact Zp h1 ⟨rfl,cR.read σ []⟩,h2⟩
 ·obtain⟨h1,h2,rfl,rfl,rfl⟩:=mO h;exact⟨by unfold AOp;rw[ho];exact Zp h1 ⟨rfl,cR.read σ []⟩,h2⟩
 ·obtain⟨h1,h2⟩:=vF h;exact⟨A (aAA ho) h1,h2⟩
 ·cases h
end
end Go.Proofs.YtdaeofhdgabhjaaGreat
namespace Go.Proofs.YtdaeofhdgabhjaaGreat
open Go.RowKit
variable {P:Program} {o:Oper} {E:Operand->AV} {σ:Nat->Option Ob} {n:Nat}
theorem Xk{c:Call}{f:Operand}{fid:FuncId}{A cells:List PV}{m ty esz:Nat}(ho:o.op= .call c)(hc:c.callee= .value f)(hfv:E f= .p (.fn (.func fid) [] []))
  (hA:gE (fE 3 σ) (c.args.toList.map E)=some A) (hfl:cells.all flat1=true) (hS:Xy P fid A ty esz cells m []):bM P o E σ n (.own (sit n 0) 0 m) (bJ (dX 3 σ) (c.args.toList.map E)) [(sit n 0,some ⟨ty,esz,cells.map .p⟩)] :=by
 have hfm:f∈o.op.operands.toList:=by rw[ho];simp[Op.operands,Call.operands,hc]
 have ham:∀x∈c.args.toList,x∈o.op.operands.toList:=by intro x hx;rw[ho];simp[Op.operands,Call.operands];exact .inr (by simpa using hx)
 obtain⟨hok,he,hcalls⟩:=hS;intro C0 ρ g V w B hs hB hR hn hgn hE;have hn:=hn _ (dM n 0);have hgn:=hgn _ (dM n 0);have hcl:∀s,cls s≠n->s≠sit n 0:=fun s h e=>h (by rw[e];exact dM n 0)
 have hargs:∀l:List Operand,(∀x∈l,x∈o.op.operands.toList)->aP ρ (aJ C0 B w ρ g) (l.map E) (l.map (bB V)):=by
  intro l;induction l with
  |nil=>intro _;simp only[List.map_nil];unfold aP;rfl
  |cons x l ih=>
   intro hx;simp only[List.map_cons];unfold aP;exact⟨_,_,rfl,hE x (hx x List.mem_cons_self),ih fun y hy=>hx y (List.mem_cons_of_mem _ hy)⟩
 have hall:=hargs _ ham;have hsnap:bO (fun b o v=>w.cell? ⟨b,o,none⟩=some v) A (c.args.toList.map (bB V)):=by
  obtain⟨g1,g2⟩:=iK hA;refine bO.of _ _ (by rw[<-g1];exact hall.length) fun i y hi=> ?_
  have hlt:i<(c.args.toList.map E).length:=by rw[g1];exact(List.getElem?_eq_some_iff.1 hi).1
  obtain⟨y',h5,h6⟩:=g2 i _ (List.getElem?_eq_getElem hlt);rw[hi]at h5;cases h5;obtain⟨v,k1,k2⟩:=hall.get _ _ i _ (List.getElem?_eq_getElem hlt);exact⟨v,k1,Bs hs _ (fun _=>True) (fun b o v h=>h.1) (fun s ob b c _ _ _ _ o v h=>h) 3 _ _ v h6 (fun s hs'=>⟨trivial,hR s (gG (List.getElem_mem hlt) hs')⟩) k2⟩
 have hvf:bB V f= .func (.func fid) #[] #[] :=by
  have:=hE f hfm;rw[hfv]at this;unfold aE aU at this;obtain⟨v1,v2,h1,h2,h3⟩:=this;unfold bO at h2 h3;rw[h1,h2,h3]
 have hrun:(execOp (bB V) o).run P w= .ok (.enter fid (c.args.toList.map (bB V)).toArray) w:=by
  unfold execOp;rw[ho];have e2: #[] ++Array.map (bB V) c.args++ #[] =(c.args.toList.map (bB V)).toArray:=by
   apply Array.toList_inj.1;simp
  simp only[resolve,hc,hvf,Deferred.ofValue,Sem.run_bind,Sem.run_pure,Result.andThen_ok,invoke,dN hok,e2]
 have hlive:∀s ob b c,g s=some ob->ρ s=some (some b,c)->b<w.heap.size:=by
  intro s ob b c e1 e2;obtain⟨_,arr,e3⟩:=hs.at e1 e2;exact e3.lt
 unfold bZ;rw[hrun];dsimp only;refine(hcalls _ w _ (fun b o v h=>h) hsnap).mono ?_
 rintro e w' ⟨v,us,q,c,rfl,hbel,hys,hrow⟩;have hus:us=[] :=by have:=hys.length;simpa using this
 subst hus;have hqb:∀b,q=some b->w.heap.size<=b:=by
  intro b hb;rcases hrow with⟨h1,_⟩|⟨b',arr,h1,_,_,h4,_⟩
  ·rw[h1]at hb;cases hb
  ·rw[h1]at hb;cases hb;exact h4
 have hold:∀b,b<w.heap.size->w'.heap[b]? =w.heap[b]? :=fun b hb=>hbel.block b hb
 generalize hnS:sit n 0=nS at*
 let ρ':Ren:=fun s=>if s=nS then some (q,c)else ρ s
 have hρn:ρ' nS=some (q,c):=if_pos rfl;have hρs:∀s,s≠nS->ρ' s=ρ s:=fun s h=>if_neg h
 have hup:∀s,s≠nS->cB g [(nS,some ⟨ty,esz,cells.map .p⟩)] s=g s:=by
  intro s h;unfold cB;simp[List.lookup,beq_eq_false_iff_ne.2 h]
 have hmono:∀b o' x,aJ C0 B w ρ g b o' x->aJ C0 B w' ρ' (cB g [(nS,some ⟨ty,esz,cells.map .p⟩)]) b o' x:=by
  intro b o' x ⟨e1,e2,e0⟩;have hlt:=World.block_lt_of_cell? w ⟨b,o',none⟩ e1;refine⟨(World.cell?_of_block (hold b hlt)).trans e1,fun s c' e3=> ?_,e0⟩
  by_cases hsn:s=nS
  ·subst hsn;rw[hρn]at e3;cases e3;have:=hqb b rfl;have hlt:b<w.heap.size:=hlt;omega
  ·rw[hup s hsn];rw[hρs s hsn]at e3;exact e2 s c' e3
 refine⟨_,rfl,ρ',fun s hs=>hρs s (hcl s hs),hmono,?_,?_,hbel.mono hB⟩
 ·refine hs.step (fun s o' _ hgs=>hρs s (fun h=>by subst h;rw[hgn]at hgs;cases hgs)) (fun s q' hq=>by rw[hρs s (fun e=>by subst e;rw[hn]at hq;cases hq)];exact hq) hmono ?_ ?_ fun k es clock hk=>hold k (iT hk)
  ·intro s ob b c' _ e2 e3;exact hold b (hlive s ob b c' e2 e3)
  ·intro s o' hso;have hsn:s=nS:=by
    rcases Nat.decEq s nS with h|h
    ·simp[List.lookup,beq_eq_false_iff_ne.2 h]at hso
    ·exact h
   subst hsn;simp[List.lookup]at hso;subst hso;refine⟨q,c,hρn,?_⟩;rcases hrow with⟨h1,h2,h3,h4,h5⟩|⟨b,arr,h1,h2,h3,h4,h5,h6,h7,h8,h9⟩
   ·exact .inl ⟨h1,he,by rw[h4];rfl,h5⟩
   ·refine .inr ⟨b,arr,h1,Nat.le_trans hB h4,⟨h5,fun h=>absurd h he,fun _=>⟨h6,by simpa using h7,h8⟩,fun i x hi=> ?_⟩,fun s' o2 c' hne hg' hr'=> ?_⟩
    ·have hi:(cells.map AV.p)[i]? =some x:=hi;rw[List.getElem?_map]at hi;cases hci:cells[i]? with
     |none=>rw[hci]at hi;cases hi
     |some y=>
      rw[hci]at hi;simp only[Option.map_some,Option.some.injEq]at hi;subst hi;obtain⟨u,k1,k2,k3⟩:=h9 i y hci;exact⟨u,k1,k2,by unfold aE;exact yL (List.all_eq_true.1 hfl y (List.mem_of_getElem? hci)) k3⟩
    ·rw[hup s' hne]at hg';rw[hρs s' hne]at hr';have:=hlive s' o2 b c' hg' hr';omega
 ·unfold aE;refine⟨q,c,hρn,?_⟩;rcases hrow with⟨h1,h2,h3,_⟩|⟨b,arr,h1,h2,h3,_⟩
  ·exact .inl ⟨h1,h2,h3,rfl⟩
  ·exact .inr ⟨b,0,c,h1,h2,h3,fun _=>rfl,fun _=>⟨rfl,rfl⟩⟩
end Go.Proofs.YtdaeofhdgabhjaaGreat
