/- ConvexMeet returns true for every two lists of rings, no condition (Q0 K36 Q9) -/
import Derived.Test.YtdaeofhdgabhjaaGreatCM5
import Derived.Test.YtdaeofhdgabhjaaGreatRows
import Derived.ProofKit
import Derived.Carry
import Derived.SizedLaws
import Derived.Deep.SlicePairs
import Derived.Lib.SmallJoins
namespace Go.Proofs.YtdaeofhdgabhjaaGreat
open Go.ChangeShapes Go.WideShapes Go.ChangeAt Go.RowKit Go.Joins Go.Deep
theorem Tryz.own:ownKnob Tryz.prog.godebug=none:=by kernel_rfl
theorem Tryz.laidOut:laidOutB Tryz.prog=true:=by kernel_rfl
theorem aCE:Tryz.prog.cellsOf 44=2:=by kernel_rfl
theorem aCF:Tryz.prog.cellsOf 23=1:=by kernel_rfl
theorem aCH:Tryz.prog.bytesOf 44=16:=by kernel_rfl
theorem aCI:Tryz.prog.bytesOf 23=24:=by kernel_rfl
theorem Fz{C:bI}:∀(l:List Geo.V) (b o:Nat),(∀i (h:i<l.length),C b (o+i*2) (.int .i64 l[i].x)/\C b (o+i*2+1) (.int .i64 l[i].y))->dS C (lL l) b o
 |[],b,o,_=>by show dS C [] b o;unfold dS;trivial
 |v::l,b,o,h=>by
  show dS C (.int .i64 v.x:: .int .i64 v.y::lL l) b o;have h0:=h 0 (by simp)
  unfold dS;refine⟨⟨_,by simpa using h0.1,rfl,by unfold aU;rfl⟩,?_⟩
  unfold dS;refine⟨⟨_,by simpa using h0.2,rfl,by unfold aU;rfl⟩,?_⟩
  refine Fz l b (o+1+1) fun i hi=> ?_
  have:=h (i+1) (by simpa using hi)
  rw[show o+1+1+i*2=o+(i+1)*2 by omega]
  exact this
theorem Cv{C:bI}:∀(l:List Geo.aH) (b o:Nat),(∀i (h:i<l.length),∃u,C b (o+i) u/\u.oneCell'=true/\aU C (gF l[i]) u)->dS C (l.map gF) b o
 |[],b,o,_=>by simp only[List.map_nil];unfold dS;trivial
 |r::l,b,o,h=>by
  simp only[List.map_cons];unfold dS;refine⟨h 0 (by simp),Cv l b (o+1) fun i hi=> ?_⟩
  have:=h (i+1) (by simpa using hi)
  rw[show o+1+i=o+(i+1) by omega]
  exact this
section
variable {H:Type} {enc:TypeId×Value->H} {w:World} {base:Nat} {spare:Nat->Bool} {held:Bool}
theorem Wd{fuel:Nat}{v:Value}{y:DataW H×List MemPlace}(h:DataW.trod enc Tryz.prog w base spare held fuel 23 [v] =some y):
  ∃r:Geo.aH,aU (rA w) (gF r) v/\v.oneCell'=true/\∀B,(∀n∈DataW.weights Tryz.prog 23 y.1,n<=B)->r.length*16<=B:=by
 rcases open_slice_pairs Tryz.underlying23 Tryz.underlying44 aCE rfl rfl (by kernel_rfl) (by kernel_rfl) h with⟨h1,h2⟩|⟨a,len,cap,m,n,V0,V1,D0,D1,P0,P1,h1,_,hl,_,hm,hx,hc⟩
 ·simp only[List.cons.injEq,and_true]at h1;subst h1;refine⟨[],?_,rfl,fun B _=>by simp⟩
  unfold gF aU;exact⟨none,0,rfl,Nat.le_refl _,fun _=>⟨rfl,rfl⟩,fun ad e=>by cases e⟩
 ·simp only[List.cons.injEq,and_true]at h1;subst h1;have hlm:len<=m:=by rw[hm];split<;>omega
  have hint:∀i,i<m->∃p:Int×Int,V0 i= .int .i64 p.1/\V1 i= .int .i64 p.2:=by
   intro i hi;obtain⟨_,_,g3,g4⟩:=hc i hi;obtain⟨p,hp,_⟩:=DataW.trod_int Tryz.underlying3 g3;obtain⟨q,hq,_⟩:=DataW.trod_int Tryz.underlying3 g4;simp only[List.cons.injEq,and_true]at hp hq;exact⟨(p,q),hp,hq⟩
  obtain⟨f,hf⟩:=choose_lt (α:=Int×Int) (p:=fun i p=>V0 i= .int .i64 p.1/\V1 i= .int .i64 p.2) hint
  refine⟨(List.range len).map fun i=>⟨(f i).1,(f i).2⟩,?_,rfl,fun B hB=> ?_⟩
  ·unfold gF aU;refine⟨some a,cap,by simp,by simpa using hl,(fun e=>by cases e),fun ad e=> ?_⟩
   cases e;refine⟨fun hpos=> ?_,Fz _ _ _ fun i hi=> ?_⟩
   ·have h0:=(hc 0 (by simp at hpos;omega)).1
    simpa[Addr.add]using World.cell?_spot h0
   ·simp only[List.length_map,List.length_range]at hi;obtain⟨g1,g2,_⟩:=hc i (by omega)
    obtain⟨e0,e1⟩:=hf i (by omega)
    have hs:a.spot=none:=by simpa[Addr.add]using World.cell?_spot (hc 0 (by omega)).1
    obtain⟨b,off,sp⟩:=a;dsimp only at hs;subst hs;rw[e0]at g1;rw[e1]at g2;simp only[List.getElem_map,List.getElem_range];unfold rA;rw[Addr.add_mid]at g1 g2;exact⟨g1,g2⟩
  ·have:=hB ((len+(m-len))*16) (by rw[hx];simp[DataW.weights,Tryz.underlying23,aCH])
   simp only[List.length_map,List.length_range];omega
theorem Qo{fuel:Nat}{v:Value}{y:DataW H×List MemPlace}(h:DataW.trod enc Tryz.prog w base spare held fuel 24 [v] =some y):
  ∃l:List Geo.aH,aU (rA w) (iS l) v/\v.oneCell'=true/\∀B,(∀n∈DataW.weights Tryz.prog 24 y.1,n<=B)->l.length*24<=B/\∀r∈l,r.length*16<=B:=by
 rcases open_slice1 Tryz.underlying24 aCF h with⟨h1,h2⟩|⟨a,len,cap,m,n,V,D,Pl,h1,_,hl,_,hm,hx,hc⟩
 ·simp only[List.cons.injEq,and_true]at h1;subst h1;refine⟨[],?_,rfl,fun B _=>⟨by simp,fun r hr=>by cases hr⟩⟩
  unfold iS aU;exact⟨none,0,rfl,Nat.le_refl _,fun _=>⟨rfl,rfl⟩,fun ad e=>by cases e⟩
 ·simp only[List.cons.injEq,and_true]at h1;subst h1;have hlm:len<=m:=by rw[hm];split<;>omega
  have hring:∀i,i<m->∃r:Geo.aH,aU (rA w) (gF r) (V i)/\(V i).oneCell'=true/\∀B,(∀n∈DataW.weights Tryz.prog 23 (D i),n<=B)->r.length*16<=B:=fun i hi=>Wd (hc i hi).2
  obtain⟨f,hf⟩:=choose_lt (α:=Geo.aH) (p:=fun i r=>aU (rA w) (gF r) (V i)/\(V i).oneCell'=true/\∀B,(∀n∈DataW.weights Tryz.prog 23 (D i),n<=B)->r.length*16<=B) hring
  refine⟨(List.range len).map f,?_,rfl,fun B hB=> ?_⟩
  ·unfold iS aU;refine⟨some a,cap,by simp,by simpa using hl,(fun e=>by cases e),fun ad e=> ?_⟩
   cases e;refine⟨fun hpos=> ?_,Cv _ _ _ fun i hi=> ?_⟩
   ·have h0:=(hc 0 (by simp at hpos;omega)).1
    simpa[Addr.add]using World.cell?_spot h0
   ·simp only[List.length_map,List.length_range]at hi;have g1:=(hc i (by omega)).1
    have hs:a.spot=none:=by simpa[Addr.add]using World.cell?_spot (hc 0 (by omega)).1
    obtain⟨b,off,sp⟩:=a;dsimp only at hs;subst hs;rw[Addr.add_mid]at g1;simp only[List.getElem_map,List.getElem_range];exact⟨V i,g1,(hf i (by omega)).2.1,(hf i (by omega)).1⟩
  ·have hw:∀x,x∈DataW.weights Tryz.prog 24 (DataW.slice ((List.range len).map D) ((List.range (m-len)).map fun j=>D (len+j)))->x<=B:=by rw[hx]at hB;exact hB
   have hmem:∀{l:List (DataW H)} {d:DataW H} {x:Nat},d∈l->x∈DataW.weights Tryz.prog 23 d->x∈DataW.weightsAll Tryz.prog 23 l:=by
    intro l;induction l with
    |nil=>intro d x h;cases h
    |cons e l ih=>
     intro d x hd hx;simp only[DataW.weightsAll,List.mem_append];rcases List.mem_cons.1 hd with rfl|hd
     ·exact .inl hx
     ·exact .inr (ih hd hx)
   refine⟨?_,fun r hr=> ?_⟩
   ·have:=hw ((len+(m-len))*24) (by simp[DataW.weights,Tryz.underlying24,aCI])
    simp only[List.length_map,List.length_range];omega
   ·obtain⟨i,hi,rfl⟩:=List.mem_map.1 hr;have hi:=List.mem_range.1 hi;refine(hf i (by omega)).2.2 B fun x hx2=>hw x ?_
    simp only[DataW.weights,Tryz.underlying24,List.mem_cons,List.mem_append];exact .inr (.inl (hmem (List.mem_map.2 ⟨i,List.mem_range.2 hi,rfl⟩) hx2))
set_option maxRecDepth 100000 in
theorem sB{r:Reach}{b0:Nat}{v:Value}{d:DataW H}{p:List MemPlace}(hv:Value.okWide Tryz.prog w r b0 24 v)(h:DataW.Trod enc Tryz.prog w base spare held 24 v d p)(hw:∀n∈DataW.weights Tryz.prog 24 d,n<=reachBytes):
  ∃l:List Geo.aH,aU (rA w) (iS l) v/\Ap l:=by
 obtain⟨a0,len,cap,rfl⟩:=okWide_slice Tryz.underlying24 hv;obtain⟨fuel,h⟩:=h;obtain⟨l,g1,_,g3⟩:=Qo (v:= .slice a0 len cap) h;have hB:reachBytes<=140737488351232:=of_decide_eq_true (by kernel_rfl)
 have k:=g3 reachBytes hw;exact⟨l,g1,by omega,fun r hr=>by have:=k.2 r hr;omega⟩
end
section
variable {H:Type} {enc:TypeId×Value->H} {w:World} {base:Nat} {spare:Nat->Bool} {held:Bool}
end
theorem aE9{f:FuncId}{xs:List SV}{r:SV}{B:List PV}{q:PV}(h:∃A q,avs xs=A.map .p/\r.av= .p q/\Sat Tryz.prog false f A q)(hB:avs xs=B.map .p)(hq:r.av= .p q):Sat Tryz.prog false f B q:=by
 obtain⟨A,q',h1,h2,h3⟩:=h;rw[hq]at h2;cases h2;rw[hB]at h1;have:B=A:=by have:=congrArg cK h1;rw[bT,bT]at this;cases this;rfl
 subst this;exact h3
theorem aFu(l:List Geo.aH):(SV.lst .R l).av= .p (iS l):=by show AV.p (.sl _ (LT.R.enc _))=_;rw[Az];rfl
theorem aFx(l:List Geo.aH):((aL .R).enc l).av= .p (iS l):=aFu l
end Go.Proofs.YtdaeofhdgabhjaaGreat
namespace Go.Proofs.YtdaeofhdgabhjaaGreat
open Go.RowKit
theorem Ud{l:List Geo.aH}(h:jR l=true):l.length<=1000:=by
 unfold jR at h;rw[Bool.and_eq_true]at h;have:=of_decide_eq_true h.2;omega
theorem Uc{l:List Geo.aH}(h:jR l=true):∀r∈l,r.length<=1000:=fun r hr=>by
 unfold jR at h;rw[Bool.and_eq_true]at h;have:=of_decide_eq_true (List.all_eq_true.1 h.1 r hr);omega
noncomputable def c11:Con:=con (ac (aL .R) (a1 (aL .R))) (fun(a,b)=>[Ap a,Ap b]) (fun(_,_)=> .bool true
 )
set_option maxRecDepth 100000 in
theorem k11:c11.Ok Tryz.prog 11:=bF (bP aJS) (raw:=bR) (fun(_,_)=>[]) (fun(_,_)=>⟨_,rfl⟩) fun(a,b) hp=>bQ (q:=((!true)=true->false=true)/\
 ((!true)=false->Ap a/\((!jR a)=true->true=true)/\
  ((!jR a)=false->Ap b/\((!jR b)=true->true=true)/\
   ((!jR b)=false->a.length<=1000/\(∀r:Geo.aH,r∈a->r.length<=1000)/\b.length<=1000/\(∀r:Geo.aH,r∈b->r.length<=1000)/\a.length<=1000/\(∀r:Geo.aH,r∈a->r.length<=1000)/\b.length<=1000/\(∀r:Geo.aH,r∈b->r.length<=1000)/\((Geo.bH a b==Geo.bH a b)=true->b.length<=1000/\(∀r:Geo.aH,r∈b->r.length<=1000)/\a.length<=1000/\(∀r:Geo.aH,r∈a->r.length<=1000)/\(Geo.bH b a==Geo.bH a b)=true)/\
    ((Geo.bH a b==Geo.bH a b)=false->false=true))))) (by kernel_rfl) (by
  change Ap a/\Ap b at hp;obtain⟨ha,hb⟩:=hp;have a1:(!jR a)=false->a.length<=1000:=fun h=>Ud (nb h)
  have a2:(!jR a)=false->∀r∈a,r.length<=1000:=fun h=>Uc (nb h)
  have b1:(!jR b)=false->b.length<=1000:=fun h=>Ud (nb h)
  have b2:(!jR b)=false->∀r∈b,r.length<=1000:=fun h=>Uc (nb h)
  have e1:(Geo.bH a b==Geo.bH a b)=true:=beq_self_eq_true _;have e2:(Geo.bH b a==Geo.bH a b)=true:=by rw[Geo.Ma b a,Geo.Ma a b,Geo.Ns];exact beq_self_eq_true _
  exact⟨fun h=>(by cases h),fun _=>⟨ha,fun _=>rfl,fun f=>⟨hb,fun _=>rfl,fun g=>⟨a1 f,a2 f,b1 g,b2 g,a1 f,a2 f,b1 g,b2 g,fun _=>⟨b1 g,b2 g,a1 f,a2 f,e2⟩,fun h=>absurd h (by rw[e1];simp)⟩⟩⟩⟩)
noncomputable def t11:Tab:=cJ [(11,c11)] t41
end Go.Proofs.YtdaeofhdgabhjaaGreat
namespace Go.Proofs.YtdaeofhdgabhjaaGreat
open Go.ChangeShapes Go.WideShapes Go.ChangeAt Go.RowKit Go.Joins Go.Deep
theorem Wk(l:List Geo.aH)(l2:List Geo.aH)(hl:Ap l)(hl2:Ap l2):Sat Tryz.prog false 11 [iS l,iS l2] (.bool true):=
 aE9 (k11 [(aL .R).enc l,(aL .R).enc l2] (l,l2) rfl ((fM (l:=c11.pre (l,l2))).1 ⟨hl,hl2⟩)) (by simp only[avs,aFx];rfl) rfl
set_option maxRecDepth 100000 in
theorem Ka(os:Os)(started:os.Started)(H:Type)(enc:TypeId×Value->H):
  ReturnsInHanded {} Tryz.checked os 11 .any (Rows.convexMeetSpec.pre6 enc Tryz.prog Tryz.f11 Rows.convexMeetRow.domain false) (Rows.convexMeetSpec.post enc Tryz.prog Tryz.f11 false true false false):=by
 refine returnsInHanded_of_change_sized (C:=Tryz.checked) Tryz.own started (by kernel_rfl) Tryz.func11
  (ChangeSpec.witness6 (enc:=enc) (C:=Tryz.checked) false ⟨#[], #[(.slice none 0 0),(.slice none 0 0)],[]⟩ 8 (by kernel_rfl) (by kernel_rfl) (by kernel_rfl) (by kernel_rfl)) ?_
 intro W base args ds gs before hval0 hW hcnd hsz0 _;have hval:∀(j:Nat) t v,Tryz.f11.params[j]? =some t->args[j]? =some v->Value.okWide Tryz.prog W .any base t v:=hval0;have hsz:(DataW.weightsEach Tryz.prog (Tryz.f11.params.toList++Rows.convexMeetSpec.plain.varTypes Tryz.prog) (ds++gs)).all (· <=reachBytes)=true:=hsz0
 have hW':=hW;obtain⟨p,q,hA0,hV,rfl,hfz,hnd⟩:=hW;have hA:DataW.TrodAll enc Tryz.prog W 0 (fun _=>true) true Tryz.f11.params.toList args.toList ds p:=hA0
 rw[Tryz.params11]at hA hval hsz;obtain⟨v0,v1,d0,d1,p0,p1,rfl,rfl,rfl,h0,h1⟩:=trodAll_two hA;obtain⟨rfl,rfl⟩:=trodVars_none hV;have hw0:∀n∈DataW.weights Tryz.prog 24 d0,n<=reachBytes:=fun n hn=>by
  have:=List.all_eq_true.1 hsz n (DataW.weights_mem_each (j:=0) (t:=24) rfl rfl n hn);simpa using this
 have hw1:∀n∈DataW.weights Tryz.prog 24 d1,n<=reachBytes:=fun n hn=>by
  have:=List.all_eq_true.1 hsz n (DataW.weights_mem_each (j:=1) (t:=24) rfl rfl n hn);simpa using this
 obtain⟨l,r0,b0⟩:=sB (hval 0 24 v0 rfl rfl) h0 hw0;obtain⟨l2,r1,b1⟩:=sB (hval 1 24 v1 rfl rfl) h1 hw1;clear hA0 hval0;simp only[List.append_nil]at hW';have hcall:=(Wk l l2 b0 b1).2 (rA W) W [v0,v1] (fun _ _ _ h=>h) (by unfold bO;exact⟨v0,[v1],rfl,r0,by unfold bO;exact⟨v1,[],rfl,r1,by unfold bO;rfl⟩⟩)
 refine hcall.mono fun e W' ⟨v,he,hr,hB⟩=> ?_
 unfold aU at hr;subst he hr;have hlt0:∀x∈p0,x.block<W.heap.size:=fun x hx=>by simpa using hW'.lt x (by simp[hx])
 have hlt1:∀x∈p1,x.block<W.heap.size:=fun x hx=>by simpa using hW'.lt x (by simp[hx])
 refine⟨_,rfl,_,_,_,[],(p0++p1),[],hW',?_,?_,rfl,hB.frame _,fun h=>by cases h⟩
 ·exact trodAll_mk1 (shut_bool Tryz.underlying4 true)
 ·exact trodAll_mk2 (Below.trod Tryz.laidOut (by kernel_rfl) (of_decide_eq_true (by kernel_rfl)) h0 hB hlt0) (Below.trod Tryz.laidOut (by kernel_rfl) (of_decide_eq_true (by kernel_rfl)) h1 hB hlt1)
theorem cmeet_holds:Rows.ConvexMeetSaid:=
 OpenClaim.holds_of_wide 11 Tryz.f11 rfl rfl rfl rfl rfl rfl rfl ⟨rfl,rfl,rfl,rfl,rfl⟩ rfl rfl rfl rfl rfl (by kernel_rfl) Tryz.func11 (by kernel_rfl)
  (of_decide_eq_true (by kernel_rfl)) (by unfold Func.isWrapper;first|(rw[if_pos (by decide+kernel)];kernel_rfl)|(rw[if_neg (by decide+kernel)];exact⟨rfl,rfl⟩))
  (fun os started H enc _=>Ka os started H enc)
end Go.Proofs.YtdaeofhdgabhjaaGreat
