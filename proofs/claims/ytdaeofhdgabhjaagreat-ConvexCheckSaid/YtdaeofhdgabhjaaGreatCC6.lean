/- ConvexCheck returns true for every shape and every list of rings, no condition (Q0 K35 Q8) -/
import Derived.Test.YtdaeofhdgabhjaaGreatCC5
import Derived.Test.YtdaeofhdgabhjaaGreatRows
import Derived.ProofKit
import Derived.Carry
import Derived.SizedLaws
import Derived.Deep.SlicePairs
import Derived.Lib.SmallJoins
namespace Go.Proofs.YtdaeofhdgabhjaaGreat
open Go.ChangeShapes Go.WideShapes Go.ChangeAt Go.RowKit Go.Joins Go.Deep
theorem Tryz.own:ownKnob Tryz.prog.godebug=none:=by kernel_rfl
theorem Tryz.laidOut:laidOutB Tryz.prog=true:=by kernel_rfl
theorem aDO:Tryz.prog.cellsOf 26=2:=by kernel_rfl
theorem aDN:Tryz.prog.cellsOf 44=2:=by kernel_rfl
theorem aDP:Tryz.prog.cellsOf 23=1:=by kernel_rfl
theorem aDR:Tryz.prog.bytesOf 44=16:=by kernel_rfl
theorem aDS:Tryz.prog.bytesOf 23=24:=by kernel_rfl
theorem Ic{C:bR}:∀(l:List Geo.V) (b o:Nat),(∀i (h:i<l.length),C b (o+i*2) (.int .i64 l[i].x)/\C b (o+i*2+1) (.int .i64 l[i].y))->eJ C (mG l) b o
 |[],b,o,_=>by show eJ C [] b o;unfold eJ;trivial
 |v::l,b,o,h=>by
  show eJ C (.int .i64 v.x:: .int .i64 v.y::mG l) b o;have h0:=h 0 (by simp)
  unfold eJ;refine⟨⟨_,by simpa using h0.1,rfl,by unfold aZ;rfl⟩,?_⟩
  unfold eJ;refine⟨⟨_,by simpa using h0.2,rfl,by unfold aZ;rfl⟩,?_⟩
  refine Ic l b (o+1+1) fun i hi=> ?_
  have:=h (i+1) (by simpa using hi)
  rw[show o+1+1+i*2=o+(i+1)*2 by omega]
  exact this
theorem Ew{C:bR}:∀(l:List Geo.aM) (b o:Nat),(∀i (h:i<l.length),∃u,C b (o+i) u/\u.oneCell'=true/\aZ C (iE l[i]) u)->eJ C (l.map iE) b o
 |[],b,o,_=>by simp only[List.map_nil];unfold eJ;trivial
 |r::l,b,o,h=>by
  simp only[List.map_cons];unfold eJ;refine⟨h 0 (by simp),Ew l b (o+1) fun i hi=> ?_⟩
  have:=h (i+1) (by simpa using hi)
  rw[show o+1+i=o+(i+1) by omega]
  exact this
section
variable {H:Type} {enc:TypeId×Value->H} {w:World} {base:Nat} {spare:Nat->Bool} {held:Bool}
theorem Ig{fuel:Nat}{v:Value}{y:DataW H×List MemPlace}(h:DataW.trod enc Tryz.prog w base spare held fuel 23 [v] =some y):
  ∃r:Geo.aM,aZ (rS w) (iE r) v/\v.oneCell'=true/\∀B,(∀n∈DataW.weights Tryz.prog 23 y.1,n<=B)->r.length*16<=B:=by
 rcases open_slice_pairs Tryz.underlying23 Tryz.underlying44 aDN rfl rfl (by kernel_rfl) (by kernel_rfl) h with⟨h1,h2⟩|⟨a,len,cap,m,n,V0,V1,D0,D1,P0,P1,h1,_,hl,_,hm,hx,hc⟩
 ·simp only[List.cons.injEq,and_true]at h1;subst h1;refine⟨[],?_,rfl,fun B _=>by simp⟩
  unfold iE aZ;exact⟨none,0,rfl,Nat.le_refl _,fun _=>⟨rfl,rfl⟩,fun ad e=>by cases e⟩
 ·simp only[List.cons.injEq,and_true]at h1;subst h1;have hlm:len<=m:=by rw[hm];split<;>omega
  have hint:∀i,i<m->∃p:Int×Int,V0 i= .int .i64 p.1/\V1 i= .int .i64 p.2:=by
   intro i hi;obtain⟨_,_,g3,g4⟩:=hc i hi;obtain⟨p,hp,_⟩:=DataW.trod_int Tryz.underlying3 g3;obtain⟨q,hq,_⟩:=DataW.trod_int Tryz.underlying3 g4;simp only[List.cons.injEq,and_true]at hp hq;exact⟨(p,q),hp,hq⟩
  obtain⟨f,hf⟩:=choose_lt (α:=Int×Int) (p:=fun i p=>V0 i= .int .i64 p.1/\V1 i= .int .i64 p.2) hint
  refine⟨(List.range len).map fun i=>⟨(f i).1,(f i).2⟩,?_,rfl,fun B hB=> ?_⟩
  ·unfold iE aZ;refine⟨some a,cap,by simp,by simpa using hl,(fun e=>by cases e),fun ad e=> ?_⟩
   cases e;refine⟨fun hpos=> ?_,Ic _ _ _ fun i hi=> ?_⟩
   ·have h0:=(hc 0 (by simp at hpos;omega)).1
    simpa[Addr.add]using World.cell?_spot h0
   ·simp only[List.length_map,List.length_range]at hi;obtain⟨g1,g2,_⟩:=hc i (by omega)
    obtain⟨e0,e1⟩:=hf i (by omega)
    have hs:a.spot=none:=by simpa[Addr.add]using World.cell?_spot (hc 0 (by omega)).1
    obtain⟨b,off,sp⟩:=a;dsimp only at hs;subst hs;rw[e0]at g1;rw[e1]at g2;simp only[List.getElem_map,List.getElem_range];unfold rS;rw[Addr.add_mid]at g1 g2;exact⟨g1,g2⟩
  ·have:=hB ((len+(m-len))*16) (by rw[hx];simp[DataW.weights,Tryz.underlying23,aDR])
   simp only[List.length_map,List.length_range];omega
theorem Fd{fuel:Nat}{v:Value}{y:DataW H×List MemPlace}(h:DataW.trod enc Tryz.prog w base spare held fuel 24 [v] =some y):
  ∃l:List Geo.aM,aZ (rS w) (lC l) v/\v.oneCell'=true/\∀B,(∀n∈DataW.weights Tryz.prog 24 y.1,n<=B)->l.length*24<=B/\∀r∈l,r.length*16<=B:=by
 rcases open_slice1 Tryz.underlying24 aDP h with⟨h1,h2⟩|⟨a,len,cap,m,n,V,D,Pl,h1,_,hl,_,hm,hx,hc⟩
 ·simp only[List.cons.injEq,and_true]at h1;subst h1;refine⟨[],?_,rfl,fun B _=>⟨by simp,fun r hr=>by cases hr⟩⟩
  unfold lC aZ;exact⟨none,0,rfl,Nat.le_refl _,fun _=>⟨rfl,rfl⟩,fun ad e=>by cases e⟩
 ·simp only[List.cons.injEq,and_true]at h1;subst h1;have hlm:len<=m:=by rw[hm];split<;>omega
  have hring:∀i,i<m->∃r:Geo.aM,aZ (rS w) (iE r) (V i)/\(V i).oneCell'=true/\∀B,(∀n∈DataW.weights Tryz.prog 23 (D i),n<=B)->r.length*16<=B:=fun i hi=>Ig (hc i hi).2
  obtain⟨f,hf⟩:=choose_lt (α:=Geo.aM) (p:=fun i r=>aZ (rS w) (iE r) (V i)/\(V i).oneCell'=true/\∀B,(∀n∈DataW.weights Tryz.prog 23 (D i),n<=B)->r.length*16<=B) hring
  refine⟨(List.range len).map f,?_,rfl,fun B hB=> ?_⟩
  ·unfold lC aZ;refine⟨some a,cap,by simp,by simpa using hl,(fun e=>by cases e),fun ad e=> ?_⟩
   cases e;refine⟨fun hpos=> ?_,Ew _ _ _ fun i hi=> ?_⟩
   ·have h0:=(hc 0 (by simp at hpos;omega)).1
    simpa[Addr.add]using World.cell?_spot h0
   ·simp only[List.length_map,List.length_range]at hi;have g1:=(hc i (by omega)).1
    have hs:a.spot=none:=by simpa[Addr.add]using World.cell?_spot (hc 0 (by omega)).1
    obtain⟨b,off,sp⟩:=a;dsimp only at hs;subst hs;rw[Addr.add_mid]at g1;simp only[List.getElem_map,List.getElem_range];exact⟨V i,g1,(hf i (by omega)).2.1,(hf i (by omega)).1⟩
  ·have hw:∀x,x∈DataW.weights Tryz.prog 24 (DataW.slice ((List.range len).map D) ((List.range (m-len)).map fun j=>D (len+j)))->x<=B:=by rw[hx]at hB;exact hB
   have hmem:∀{l:List (DataW H)} {d:DataW H} {x:Nat},d∈l->x∈DataW.weights Tryz.prog 23 d->x∈DataW.weightsAll Tryz.prog 23 l:=by
    intro l;induction l with
    |nil=>intro d x h;cases h
    |cons e l ih=>
     intro d x hd hx;simp only[DataW.weightsAll,List.mem_append];rcases List.mem_cons.1 hd with rfl|hd
     ·exact .inl hx
     ·exact .inr (ih hd hx)
   refine⟨?_,fun r hr=> ?_⟩
   ·have:=hw ((len+(m-len))*24) (by simp[DataW.weights,Tryz.underlying24,aDS])
    simp only[List.length_map,List.length_range];omega
   ·obtain⟨i,hi,rfl⟩:=List.mem_map.1 hr;have hi:=List.mem_range.1 hi;refine(hf i (by omega)).2.2 B fun x hx2=>hw x ?_
    simp only[DataW.weights,Tryz.underlying24,List.mem_cons,List.mem_append];exact .inr (.inl (hmem (List.mem_map.2 ⟨i,List.mem_range.2 hi,rfl⟩) hx2))
set_option maxRecDepth 100000 in
theorem Sv{r:Reach}{b0:Nat}{v:Value}{d:DataW H}{p:List MemPlace}(hv:Value.okWide Tryz.prog w r b0 26 v)(h:DataW.Trod enc Tryz.prog w base spare held 26 v d p)(hw:∀n∈DataW.weights Tryz.prog 26 d,n<=reachBytes):
  ∃s:Geo.Shape,aZ (rS w) (kC s) v/\xL s:=by
 obtain⟨v0,v1,y0,y1,n,rfl,rfl,_,h0,h1⟩:=open_agg2 Tryz.underlying26 (by kernel_rfl) aDO hv h
 obtain⟨ro,g1,g2,g3⟩:=Ig h0;obtain⟨rs,g4,g5,g6⟩:=Fd h1;have hB:reachBytes<=140737488351232:=of_decide_eq_true (by kernel_rfl)
 have k1:=g3 reachBytes fun x hx=>hw x (by simp only[DataW.weights,Tryz.underlying26,List.map_cons,DataW.weightsEach,List.mem_append];exact .inl hx)
 have k2:=g6 reachBytes fun x hx=>hw x (by simp only[DataW.weights,Tryz.underlying26,List.map_cons,DataW.weightsEach,List.mem_append];exact .inr (.inl hx))
 refine⟨⟨ro,rs⟩,?_,by show ro.length<=_;omega,by show rs.length<=_;omega,fun q hq=>by have:=k2.2 q hq;omega⟩
 unfold kC aZ;refine⟨[v0,v1],rfl,?_,?_⟩
 ·unfold bZ;refine⟨v0,[v1],rfl,g1,?_⟩;unfold bZ;exact⟨v1,[],rfl,g4,by unfold bZ;rfl⟩
 ·intro u hu;simp only[List.mem_cons,List.not_mem_nil,or_false]at hu;rcases hu with rfl|rfl
  ·exact g2
  ·exact g5
set_option maxRecDepth 100000 in
theorem Gi{r:Reach}{b0:Nat}{v:Value}{d:DataW H}{p:List MemPlace}(hv:Value.okWide Tryz.prog w r b0 24 v)(h:DataW.Trod enc Tryz.prog w base spare held 24 v d p)(hw:∀n∈DataW.weights Tryz.prog 24 d,n<=reachBytes):
  ∃l:List Geo.aM,aZ (rS w) (lC l) v/\Qz l:=by
 obtain⟨a0,len,cap,rfl⟩:=okWide_slice Tryz.underlying24 hv;obtain⟨fuel,h⟩:=h;obtain⟨l,g1,_,g3⟩:=Fd (v:= .slice a0 len cap) h;have hB:reachBytes<=140737488351232:=of_decide_eq_true (by kernel_rfl)
 have k:=g3 reachBytes hw;exact⟨l,g1,by omega,fun r hr=>by have:=k.2 r hr;omega⟩
end
section
variable {H:Type} {enc:TypeId×Value->H} {w:World} {base:Nat} {spare:Nat->Bool} {held:Bool}
end
theorem aGB{f:FuncId}{xs:List SV}{r:SV}{B:List PV}{q:PV}(h:∃A q,avs xs=A.map .p/\r.av= .p q/\Sat Tryz.prog false f A q)(hB:avs xs=B.map .p)(hq:r.av= .p q):Sat Tryz.prog false f B q:=by
 obtain⟨A,q',h1,h2,h3⟩:=h;rw[hq]at h2;cases h2;rw[hB]at h1;have:B=A:=by have:=congrArg cR h1;rw[cB,cB]at this;cases this;rfl
 subst this;exact h3
theorem aLe(s:Geo.Shape):(aSh.enc s).av= .p (kC s):=by
 show fD [.p (.sl s.outer.length (mG s.outer)),.p (.sl s.holes.length (LT.R.enc s.holes))] =_;rw[Ap];rfl
theorem aGV(l:List Geo.aM):(SV.lst .R l).av= .p (lC l):=by show AV.p (.sl _ (LT.R.enc _))=_;rw[Ap];rfl
theorem aG1(l:List Geo.aM):((aL .R).enc l).av= .p (lC l):=aGV l
end Go.Proofs.YtdaeofhdgabhjaaGreat
namespace Go.Proofs.YtdaeofhdgabhjaaGreat
open Go.RowKit
theorem aDC{l:List Geo.aM}(h:oI l=true):l.length<=1000:=by
 unfold oI at h;rw[Bool.and_eq_true]at h;have:=of_decide_eq_true h.2;omega
theorem aDB{l:List Geo.aM}(h:oI l=true):∀r∈l,r.length<=1000:=fun r hr=>by
 unfold oI at h;rw[Bool.and_eq_true]at h;have:=of_decide_eq_true (List.all_eq_true.1 h.1 r hr);omega
noncomputable def c10:Con:=con (ac aSh (a1 (aL .R))) (fun(s,l)=>[xL s,Qz l]) (fun(_,_)=> .bool true
 )
set_option maxRecDepth 100000 in
theorem k10:c10.Ok Tryz.prog 10:=aX (bK aLv) (raw:=bO) (fun(_,_)=>[]) (fun(_,_)=>⟨_,rfl⟩) fun(s,l) hp=>bL (q:=((!true)=true->false=true)/\
 ((!true)=false->xL s/\((!Bq s)=true->true=true)/\
  ((!Bq s)=false->Qz l/\((!oI l)=true->true=true)/\
   ((!oI l)=false->Fit s/\l.length<=1000/\(∀r:Geo.aM,r∈l->r.length<=1000)/\Fit s/\l.length<=1000/\(∀r:Geo.aM,r∈l->r.length<=1000)/\(eF s l==eF s l)=true)))) (by kernel_rfl) (by
  change xL s/\Qz l at hp;obtain⟨hb,hl⟩:=hp;have hf:(!Bq s)=false->Fit s:=fun h=>aCf hb (nb h)
  have h1:(!oI l)=false->l.length<=1000:=fun h=>aDC (nb h)
  have h2:(!oI l)=false->∀r∈l,r.length<=1000:=fun h=>aDB (nb h)
  have b3:(eF s l==eF s l)=true:=beq_self_eq_true _;exact⟨fun h=>(by cases h),fun _=>⟨hb,fun _=>rfl,fun f=>⟨hl,fun _=>rfl,fun g=>⟨hf f,h1 g,h2 g,hf f,h1 g,h2 g,b3⟩⟩⟩⟩)
noncomputable def t10:Tab:=cC [(10,c10)] t41
end Go.Proofs.YtdaeofhdgabhjaaGreat
namespace Go.Proofs.YtdaeofhdgabhjaaGreat
open Go.ChangeShapes Go.WideShapes Go.ChangeAt Go.RowKit Go.Joins Go.Deep
theorem Tc(s:Geo.Shape)(l:List Geo.aM)(hs:xL s)(hl:Qz l):Sat Tryz.prog false 10 [kC s,lC l] (.bool true):=
 aGB (k10 [aSh.enc s,(aL .R).enc l] (s,l) rfl ((gE (l:=c10.pre (s,l))).1 ⟨hs,hl⟩)) (by simp only[avs,aG1,aLe];rfl) rfl
set_option maxRecDepth 100000 in
theorem He(os:Os)(started:os.Started)(H:Type)(enc:TypeId×Value->H):
  ReturnsInHanded {} Tryz.checked os 10 .any (Rows.convexCheckSpec.pre6 enc Tryz.prog Tryz.f10 Rows.convexCheckRow.domain false) (Rows.convexCheckSpec.post enc Tryz.prog Tryz.f10 false true false false):=by
 refine returnsInHanded_of_change_sized (C:=Tryz.checked) Tryz.own started (by kernel_rfl) Tryz.func10
  (ChangeSpec.witness6 (enc:=enc) (C:=Tryz.checked) false ⟨#[], #[(.agg #[.slice none 0 0,.slice none 0 0]),(.slice none 0 0)],[]⟩ 8 (by kernel_rfl) (by kernel_rfl) (by kernel_rfl) (by kernel_rfl)) ?_
 intro W base args ds gs before hval0 hW hcnd hsz0 _;have hval:∀(j:Nat) t v,Tryz.f10.params[j]? =some t->args[j]? =some v->Value.okWide Tryz.prog W .any base t v:=hval0;have hsz:(DataW.weightsEach Tryz.prog (Tryz.f10.params.toList++Rows.convexCheckSpec.plain.varTypes Tryz.prog) (ds++gs)).all (· <=reachBytes)=true:=hsz0
 have hW':=hW;obtain⟨p,q,hA0,hV,rfl,hfz,hnd⟩:=hW;have hA:DataW.TrodAll enc Tryz.prog W 0 (fun _=>true) true Tryz.f10.params.toList args.toList ds p:=hA0
 rw[Tryz.params10]at hA hval hsz;obtain⟨v0,v1,d0,d1,p0,p1,rfl,rfl,rfl,h0,h1⟩:=trodAll_two hA;obtain⟨rfl,rfl⟩:=trodVars_none hV;have hw0:∀n∈DataW.weights Tryz.prog 26 d0,n<=reachBytes:=fun n hn=>by
  have:=List.all_eq_true.1 hsz n (DataW.weights_mem_each (j:=0) (t:=26) rfl rfl n hn);simpa using this
 have hw1:∀n∈DataW.weights Tryz.prog 24 d1,n<=reachBytes:=fun n hn=>by
  have:=List.all_eq_true.1 hsz n (DataW.weights_mem_each (j:=1) (t:=24) rfl rfl n hn);simpa using this
 obtain⟨s,r0,b0⟩:=Sv (hval 0 26 v0 rfl rfl) h0 hw0;obtain⟨l,r1,b1⟩:=Gi (hval 1 24 v1 rfl rfl) h1 hw1;clear hA0 hval0;simp only[List.append_nil]at hW';have hcall:=(Tc s l b0 b1).2 (rS W) W [v0,v1] (fun _ _ _ h=>h) (by unfold bZ;exact⟨v0,[v1],rfl,r0,by unfold bZ;exact⟨v1,[],rfl,r1,by unfold bZ;rfl⟩⟩)
 refine hcall.mono fun e W' ⟨v,he,hr,hB⟩=> ?_
 unfold aZ at hr;subst he hr;have hlt0:∀x∈p0,x.block<W.heap.size:=fun x hx=>by simpa using hW'.lt x (by simp[hx])
 have hlt1:∀x∈p1,x.block<W.heap.size:=fun x hx=>by simpa using hW'.lt x (by simp[hx])
 refine⟨_,rfl,_,_,_,[],(p0++p1),[],hW',?_,?_,rfl,hB.frame _,fun h=>by cases h⟩
 ·exact trodAll_mk1 (shut_bool Tryz.underlying4 true)
 ·exact trodAll_mk2 (Below.trod Tryz.laidOut (by kernel_rfl) (of_decide_eq_true (by kernel_rfl)) h0 hB hlt0) (Below.trod Tryz.laidOut (by kernel_rfl) (of_decide_eq_true (by kernel_rfl)) h1 hB hlt1)
theorem ccheck_holds:Rows.ConvexCheckSaid:=
 OpenClaim.holds_of_wide 10 Tryz.f10 rfl rfl rfl rfl rfl rfl rfl ⟨rfl,rfl,rfl,rfl,rfl⟩ rfl rfl rfl rfl rfl (by kernel_rfl) Tryz.func10 (by kernel_rfl)
  (of_decide_eq_true (by kernel_rfl)) (by unfold Func.isWrapper;first|(rw[if_pos (by decide+kernel)];kernel_rfl)|(rw[if_neg (by decide+kernel)];exact⟨rfl,rfl⟩))
  (fun os started H enc _=>He os started H enc)
end Go.Proofs.YtdaeofhdgabhjaaGreat
