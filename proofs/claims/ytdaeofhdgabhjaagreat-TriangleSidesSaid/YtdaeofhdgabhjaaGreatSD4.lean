/- What the statements about triangulations stand on: contracts of functions, plain laws. Part 4 of 6, no condition of its own. (J8 Shelf J9 J10 J11 J12 K13 K14 J13 N18 J14 K15 H1 H2 H3 H4 J15 K16 N17 J16 M0 Q0 K18) -/
import Derived.Test.YtdaeofhdgabhjaaGreatSD3
import Derived.Shelf.SlSortCmp.NoneTotal
import Derived.Ground.SlsfProg
import Derived.Test.YtdaeofhdgabhjaaGreatProg
import Derived.KernelRfl
import Derived.Test.YtdaeofhdgabhjaaGreatRows
import Derived.ProofKit
import Derived.Carry
import Derived.SizedLaws
import Derived.Deep.SlicePairs
import Derived.Lib.SmallJoins
namespace Go.Proofs.YtdaeofhdgabhjaaGreat
open Go.RowKit
section
variable {C:cF} {w:World}
theorem eZ.rdV(hC:∀b o v,C b o v->w.cell? ⟨b,o,none⟩=some v){r:List Geo.V}{b o:Nat}(h:eZ C (jB r) b o):RdV w (some ⟨b,o,none⟩) r:=by
 intro i hi;have h1:=Kc.at r i hi;have g0:(jB r)[i*2]? =some (.int .i64 r[i].x):=by
  have:=congrArg (fun l=>l[0]?) h1
  simpa[List.getElem?_take,List.getElem?_drop]using this
 have g1:(jB r)[i*2+1]? =some (.int .i64 r[i].y):=by
  have:=congrArg (fun l=>l[1]?) h1
  simpa[List.getElem?_take,List.getElem?_drop]using this
 obtain⟨v0,a1,_,a3⟩:=eZ.get _ _ _ h _ _ g0;obtain⟨v1,b1,_,b3⟩:=eZ.get _ _ _ h _ _ g1;unfold bI at a3 b3;subst a3 b3;have en:Geo.nth r i=r[i] :=by unfold Geo.nth;rw[List.getD_eq_getElem?_getD,List.getElem?_eq_getElem hi];rfl
 refine⟨b,o,rfl,World.block_lt_of_cell? w ⟨b,_,none⟩ (hC _ _ _ a1),?_,?_⟩
 ·rw[en];exact hC _ _ _ a1
 ·rw[en];have:=hC _ _ _ b1;rwa[show o+(i*2+1)=o+i*2+1 by omega]at this
theorem Gv(hC:∀b o v,C b o v->w.cell? ⟨b,o,none⟩=some v){r:List Geo.V}{v:Value}(h:bI C (fN r) v):∃a c,v= .slice a r.length c/\RdV w a r/\r.length<=c/\(a=none->c=0):=by
 unfold fN bI at h;obtain⟨a,c,rfl,h1,h2,h3⟩:=h;refine⟨a,c,rfl,?_,h1,fun e=>(h2 e).1⟩
 cases a with
 |none=>
  have:r=[] :=by
   have:=congrArg List.length (h2 rfl).2;rw[Kc.length]at this;exact List.length_eq_zero_iff.1 (by simp at this;omega)
  subst this;intro i hi;simp at hi
 |some ad=>
  obtain⟨b,o,sp⟩:=ad;obtain⟨h4,h5⟩:=h3 _ rfl;dsimp only at h4 h5;rcases Nat.eq_zero_or_pos r.length with hr0|hr0
  ·intro i hi;omega
  ·have h4:=h4 hr0;subst h4;exact h5.rdV hC
theorem Dx(hC:∀b o v,C b o v->w.cell? ⟨b,o,none⟩=some v):∀(l:List Geo.aD) (b o:Nat),eZ C (l.map fN) b o->∃hs:List RV,hs.map RV.r=l/\(∀i,i<hs.length->b<w.heap.size/\w.cell? ⟨b,o+i,none⟩=some (RV.enc (hs.getD i default)))/\∀x∈hs,RdV w x.a x.r/\x.r.length<=x.c/\(x.a=none->x.c=0)
 |[],b,o,_=>⟨[],rfl,(fun i h=>by simp at h),fun x h=>by cases h⟩
 |r::l,b,o,h=>by
  rw[List.map_cons]at h;unfold eZ at h;obtain⟨⟨v,h1,_,h2⟩,h3⟩:=h;obtain⟨a,c,rfl,h4,h5⟩:=Gv hC h2;obtain⟨hs,g1,g2,g3⟩:=Dx hC l b (o+1) h3;refine⟨⟨a,c,r⟩::hs,by simp[g1],?_,?_⟩
  ·intro i hi;cases i with
   |zero=>exact⟨World.block_lt_of_cell? w ⟨b,_,none⟩ (hC _ _ _ h1),by simpa[RV.enc]using hC _ _ _ h1⟩
   |succ i=>
    have:=g2 i (by simpa using hi)
    rw[show o+1+i=o+(i+1) by omega]at this
    simpa using this
  ·intro x hx;rcases List.mem_cons.1 hx with rfl|hx
   ·exact⟨h4,h5⟩
   ·exact g3 x hx
theorem aA2(hC:∀b o v,C b o v->w.cell? ⟨b,o,none⟩=some v){l:List Geo.aD}{v:Value}(h:bI C (kM l) v):
  ∃ah ch,∃hs:List RV,v= .slice ah hs.length ch/\hs.length<=ch/\hs.map RV.r=l/\RdH w.heap.size w ah hs/\∀x∈hs,RdV w x.a x.r/\x.r.length<=x.c/\(x.a=none->x.c=0):=by
 unfold kM bI at h;obtain⟨a,c,rfl,h1,h2,h3⟩:=h;cases a with
 |none=>
  have:l=[] :=by simpa using(h2 rfl).2
  subst this;exact⟨none,c,[],rfl,Nat.zero_le _,rfl,(fun i hi=>by simp at hi),fun x hx=>by cases hx⟩
 |some ad=>
  obtain⟨b,o,sp⟩:=ad;obtain⟨h4,h5⟩:=h3 _ rfl;dsimp only at h4 h5;rcases Nat.eq_zero_or_pos l.length with hl0|hl0
  ·have:l=[] :=List.length_eq_zero_iff.1 hl0;subst this;exact⟨_,c,[],rfl,Nat.zero_le _,rfl,(fun i hi=>by simp at hi),fun x hx=>by cases hx⟩
  have h4:=h4 hl0;subst h4;obtain⟨hs,g1,g2,g3⟩:=Dx hC l b o h5;have hl:hs.length=l.length:=by rw[<-g1];simp
  exact⟨_,c,hs,by rw[hl],by omega,g1,fun i hi=>⟨b,o,rfl,(g2 i hi).1,(g2 i hi).2⟩,g3⟩
theorem xQ(hC:∀b o v,C b o v->w.cell? ⟨b,o,none⟩=some v){s:Geo.Shape}{v:Value}(hf:Fit s)(h:bI C (gR s) v):
  ∃o ah ch hs,v= .agg #[RV.enc o,.slice ah hs.length ch]/\RdSh w o ah hs/\hs.length<=ch/\(∀x∈o::hs,x.r.length<=x.c)/\kU o hs=s:=by
 unfold gR bI at h;obtain⟨vs,rfl,h1,_⟩:=h;unfold cG at h1;obtain⟨v1,r1,rfl,h2,h3⟩:=h1;unfold cG at h3;obtain⟨v2,r2,rfl,h4,h5⟩:=h3;unfold cG at h5;subst h5;obtain⟨a,c,rfl,g1,g2⟩:=Gv hC h2;obtain⟨ah,ch,hs,rfl,k1,k2,k3,k4⟩:=aA2 hC h4;have hl:hs.length=s.holes.length:=by rw[<-k2];simp
 refine⟨⟨a,c,s.outer⟩,ah,ch,hs,rfl,⟨k3,?_,by rw[hl];have:=hf.2.1;omega⟩,k1,?_,by unfold kU;rw[k2]⟩
 ·intro x hx;rcases List.mem_cons.1 hx with rfl|hx
  ·exact⟨g1,hf.1,g2.1,g2.2⟩
  ·exact⟨(k4 x hx).1,hf.2.2 _ (by rw[<-k2];exact List.mem_map.2 ⟨x,hx,rfl⟩),(k4 x hx).2.1,(k4 x hx).2.2⟩
 ·intro x hx;rcases List.mem_cons.1 hx with rfl|hx
  ·exact g2.1
  ·exact(k4 x hx).2.1
theorem Ck{cs:List PV}{us:List Value}{a:Option Addr}{n c N:Nat}(hr:Rd w a us)(hf:oP N a)(hn:a=none->c=0)(hc:n<=c)(hu:us.length=cs.length)(hsp:cs=[]->∀ad,a=some ad->ad.spot=none)
  (hv:∀(i:Nat) x u,cs[i]? =some x->us[i]? =some u->u.oneCell'=true/\bI (fun b o x=>N<=b/\w.cell? ⟨b,o,none⟩=some x) x u):bI (fun b o x=>N<=b/\w.cell? ⟨b,o,none⟩=some x) (.sl n cs) (.slice a n c):=by
 unfold bI;refine⟨a,c,rfl,hc,fun ha=>⟨hn ha,?_⟩,fun ad ha=> ?_⟩
 ·cases cs with
  |nil=>rfl
  |cons x cs=>
   cases us with
   |nil=>simp at hu
   |cons u us=>obtain⟨b,off,h1,_⟩:=hr 0 u rfl;rw[ha]at h1;cases h1
 ·subst ha;cases cs with
  |nil=>
   exact⟨fun _=>hsp rfl _ rfl,by unfold eZ;trivial⟩
  |cons x cs=>
   cases us with
   |nil=>simp at hu
   |cons u us=>
    obtain⟨b,off,h1,_⟩:=hr 0 u rfl;cases h1;refine⟨fun _=>rfl,eZ.of _ _ _ fun i y hi=> ?_⟩
    have hlt:i<(u::us).length:=by rw[hu];exact(List.getElem?_eq_some_iff.1 hi).1
    have hui:(u::us)[i]? =some (u::us)[i] :=List.getElem?_eq_getElem hlt;obtain⟨b',off',h2,_,h3⟩:=hr i _ hui;cases h2;obtain⟨g1,g2⟩:=hv i y _ hi hui;exact⟨_,⟨hf _ rfl,h3⟩,g1,g2⟩
end
theorem Xk{C:cF}(r:List Geo.V):(nA r).length=(jB r).length/\∀(i:Nat) x u,(jB r)[i]? =some x->(nA r)[i]? =some u->u.oneCell'=true/\bI C x u:=by
 refine⟨by rw[pP,Kc.length],?_⟩
 have key:∀(l:List Geo.V) (i:Nat) x u,(l.flatMap fun v=>[PV.int .i64 v.x,PV.int .i64 v.y])[i]? =some x->(l.flatMap fun v=>[Value.int .i64 v.x,Value.int .i64 v.y])[i]? =some u->u.oneCell'=true/\bI C x u:=by
  intro l;induction l with
  |nil=>intro i x u h;simp at h
  |cons v l ih=>
   intro i x u h1 h2;simp only[List.flatMap_cons,List.cons_append,List.nil_append]at h1 h2;match i with
   |0=>simp at h1 h2;subst h1 h2;exact⟨rfl,by unfold bI;rfl⟩
   |1=>simp at h1 h2;subst h1 h2;exact⟨rfl,by unfold bI;rfl⟩
   |i+2=>exact ih i x u (by simpa using h1) (by simpa using h2)
 exact key r
theorem Xl{C:cF}(r:List Geo.S):(mE r).length=(Ur r).length/\∀(i:Nat) x u,(Ur r)[i]? =some x->(mE r)[i]? =some u->u.oneCell'=true/\bI C x u:=by
 refine⟨by rw[Bl,aNh.length],?_⟩
 have key:∀(l:List Geo.S) (i:Nat) x u,(l.flatMap fun s=>[PV.int .i64 s.a.x,PV.int .i64 s.a.y,PV.int .i64 s.b.x,PV.int .i64 s.b.y])[i]? =some x->(l.flatMap fun s=>[Value.int .i64 s.a.x,Value.int .i64 s.a.y,Value.int .i64 s.b.x,Value.int .i64 s.b.y])[i]? =some u->u.oneCell'=true/\bI C x u:=by
  intro l;induction l with
  |nil=>intro i x u h;simp at h
  |cons v l ih=>
   intro i x u h1 h2;simp only[List.flatMap_cons,List.cons_append,List.nil_append]at h1 h2;match i with
   |0=>simp at h1 h2;subst h1 h2;exact⟨rfl,by unfold bI;rfl⟩
   |1=>simp at h1 h2;subst h1 h2;exact⟨rfl,by unfold bI;rfl⟩
   |2=>simp at h1 h2;subst h1 h2;exact⟨rfl,by unfold bI;rfl⟩
   |3=>simp at h1 h2;subst h1 h2;exact⟨rfl,by unfold bI;rfl⟩
   |i+4=>exact ih i x u (by simpa using h1) (by simpa using h2)
 exact key r
theorem aDo{w:World}{N:Nat}{v:Value}{xs:List Geo.S}(h:w.ownsRow N 46 4 v xs.length (mE xs)):bI (fun b o x=>N<=b/\w.cell? ⟨b,o,none⟩=some x) (Kh xs) v:=by
 have hsp:∀a c,v= .slice a xs.length c->∀ad,a=some ad->ad.spot=none:=by
  intro a c hv ad ha;rcases h.2 with⟨h1,_⟩|⟨g,cap,cur,h1,_⟩
  ·rw[h1]at hv;injection hv with e1;rw[<-e1]at ha;cases ha
  ·rw[h1]at hv;injection hv with e1;rw[<-e1]at ha;cases ha;rfl
 obtain⟨a,c,rfl,h1,h2,h3,h4⟩:=Rd.Of h;obtain⟨g1,g2⟩:=Xl (C:=fun b o x=>N<=b/\w.cell? ⟨b,o,none⟩=some x) xs
 exact Ck h1 h2 h3 h4 g1 (fun _=>hsp a c rfl) g2
theorem aDt{w:World}{N:Nat}{a:Option Addr}{c:Nat}{xs:List Geo.V}(h:RdV w a xs)(hf:oP N a)(hc:xs.length<=c)(h0:0<xs.length):bI (fun b o x=>N<=b/\w.cell? ⟨b,o,none⟩=some x) (fN xs) (.slice a xs.length c):=by
 obtain⟨b0,o0,rfl,_⟩:=h 0 h0;obtain⟨g1,g2⟩:=Xk (C:=fun b o x=>N<=b/\w.cell? ⟨b,o,none⟩=some x) xs
 refine Ck (us:=nA xs) ?_ hf (fun h=>by cases h) hc g1 (fun _ ad ha=>by cases ha;rfl) g2
 intro i u hi;have hlt:i<xs.length*2:=by rw[<-pP];exact(List.getElem?_eq_some_iff.1 hi).1
 obtain⟨k,hk⟩:∃k,i=k*2\/i=k*2+1:=⟨i/2,by omega⟩
 obtain⟨b,o,he,h1,h2,h3⟩:=h k (by omega)
 cases he;obtain⟨f0,f1⟩:=Cr xs k (by omega)
 rcases hk with rfl|rfl
 ·rw[f0]at hi;cases hi;exact⟨b0,o0,rfl,h1,h2⟩
 ·rw[f1]at hi;cases hi;exact⟨b0,o0,rfl,h1,h3⟩
section
variable {fr:Bool}
theorem Jm(s:Geo.Shape)(hf:Fit s):Sat Tryz.prog true 55 [gR s] (.bool (Geo.bV s)):=by
 refine⟨by kernel_rfl,fun C w vs hC h=> ?_⟩
 unfold cG at h;obtain⟨v,r,rfl,h1,h2⟩:=h;unfold cG at h2;subst h2;obtain⟨o,ah,ch,hs,rfl,H,hch,_,rfl⟩:=xQ hC hf h1;refine(rB o ah ch hs w H hch).mono ?_;rintro e w' ⟨rfl,hb⟩;exact⟨_,rfl,by unfold bI;rfl,hb⟩
theorem Jn(s:Geo.Shape)(hf:Fit s):Sat Tryz.prog true 131 [gR s] (Kh (Geo.aE s)):=by
 refine⟨by kernel_rfl,fun C w vs hC h=> ?_⟩
 unfold cG at h;obtain⟨v,r,rfl,h1,h2⟩:=h;unfold cG at h2;subst h2;obtain⟨o,ah,ch,hs,rfl,H,hch,_,rfl⟩:=xQ hC hf h1;have hn:hs.length<=900:=by have:=hf.2.1;simpa[kU]using this
 refine(Jl o ah ch hs w H hn).mono ?_;rintro e w' ⟨v,rfl,hrow,hb⟩;exact⟨_,rfl,bI.mono (fun b o x h=> .inr h) _ _ (aDo hrow),hb⟩
theorem Jw(s:Geo.Shape)(hf:Fit s):Sat Tryz.prog true 90 [gR s] (.int .i64 (if Geo.bV s then jD s else 0)):=by
 refine⟨by kernel_rfl,fun C w vs hC h=> ?_⟩
 unfold cG at h;obtain⟨v,r,rfl,h1,h2⟩:=h;unfold cG at h2;subst h2;obtain⟨o,ah,ch,hs,rfl,H,hch,_,rfl⟩:=xQ hC hf h1;refine(Jv o ah ch hs w H hch).mono ?_;rintro e w' ⟨rfl,hb⟩;exact⟨_,rfl,by unfold bI;rfl,hb⟩
theorem Wj{w:World}{N:Nat}{v:Value}{rs:List RV}(h:w.ownsRow N 23 1 v rs.length (rs.map RV.enc))(hx:∀x∈rs,RdV w x.a x.r/\oP N x.a/\x.r.length<=x.c/\0<x.r.length):
  bI (fun b o x=>N<=b/\w.cell? ⟨b,o,none⟩=some x) (kM (rs.map RV.r)) v:=by
 have hsp:∀a c,v= .slice a rs.length c->∀ad,a=some ad->ad.spot=none:=by
  intro a c hv ad ha;rcases h.2 with⟨h1,_⟩|⟨g,cap,cur,h1,_⟩
  ·rw[h1]at hv;injection hv with e1;rw[<-e1]at ha;cases ha
  ·rw[h1]at hv;injection hv with e1;rw[<-e1]at ha;cases ha;rfl
 obtain⟨a,c,rfl,h1,h2,h3,h4⟩:=Rd.Of h;unfold kM;rw[List.length_map];refine Ck h1 h2 h3 h4 (by simp) (fun _=>hsp a c rfl) ?_
 intro i x u hi hu;rw[List.getElem?_map,List.getElem?_map]at hi;rw[List.getElem?_map]at hu;cases hr:rs[i]? with
 |none=>rw[hr]at hi;cases hi
 |some y=>
  rw[hr]at hi hu;simp only[Option.map_some,Option.some.injEq]at hi hu;subst hi hu;obtain⟨k1,k2,k3,k4⟩:=hx y (List.mem_of_getElem? hr);exact⟨rfl,aDt k1 k2 k3 k4⟩
theorem wX(s:Geo.Shape)(hf:Fit s)(hp:0<s.outer.length/\∀r∈s.holes,0<r.length):Sat Tryz.prog true 56 [gR s] (kM (Geo.aJ s)):=by
 refine⟨by kernel_rfl,fun C w vs hC h=> ?_⟩
 unfold cG at h;obtain⟨v,r,rfl,h1,h2⟩:=h;unfold cG at h2;subst h2;obtain⟨o,ah,ch,hs,rfl,H,hch,_,rfl⟩:=xQ hC hf h1;refine(Jk o ah ch hs w H).mono ?_;rintro e w' ⟨v,rs,rfl,hrs,hrow,hok,hb⟩;refine⟨_,rfl,bI.mono (fun b o x h=> .inr h) _ _ ?_,hb⟩
 rw[<-hrs];refine Wj hrow fun x hx=>⟨(hok x hx).rd,(hok x hx).fresh,(hok x hx).cap,?_⟩
 have hm:x.r∈Geo.aJ (kU o hs):=by rw[<-hrs];exact List.mem_map.2 ⟨x,hx,rfl⟩
 unfold Geo.aJ at hm;rcases List.mem_cons.1 hm with h|h
 ·rw[h];exact hp.1
 ·exact hp.2 _ h
end
def aAx{α:Type}(fr:Bool)(A:Arl α)(pre:α->List Prop)(res:α->SV):Con:=⟨α,A.dec,pre,.val fr res⟩
theorem Ai{f:FuncId}{fr:Bool}{α:Type}{A:Arl α}{pre:α->List Prop}{res:α->SV}(B:α->List PV)(q:α->PV)(hB:∀x,avs (A.enc x)=(B x).map .p)(hq:∀x,(res x).av= .p (q x))(h:∀x,Qh (pre x)->Sat Tryz.prog fr f (B x) (q x)):(aAx fr A pre res).Ok Tryz.prog f:=by
 intro s x hd hp;exact⟨B x,q x,(A.ok s x hd).trans (hB x),hq x,h x (fE.2 hp)⟩
theorem Dl(l:List Geo.aD):LT.R.enc l=l.map fN:=by
 unfold LT.enc;induction l with
 |nil=>rfl
 |cons r l ih=>rw[List.flatMap_cons,ih];rfl
theorem Nk(s:Geo.Shape):avs ((a1 aSh).enc s)=[gR s].map .p:=by
 show [SV.av (.agg [.lst .V s.outer,.lst .R s.holes])] =_;show [iT [.p (.sl s.outer.length (jB s.outer)),.p (.sl s.holes.length (LT.R.enc s.holes))]] =_;rw[Dl];rfl
def c55:Con:=aAx true (a1 aSh) (fun s=>[Fit s]) (fun s=> .bool (Geo.bV s))
theorem k55:c55.Ok Tryz.prog 55:=Ai (fun s=>[gR s]) (fun s=> .bool (Geo.bV s)) Nk (fun _=>rfl) fun s h=>Jm s h
def aM0:Con:=aAx true (a1 aSh) (fun s=>[Fit s]) (fun s=> .lst .S (Geo.aE s))
theorem aO1:aM0.Ok Tryz.prog 131:=Ai (fun s=>[gR s]) (fun s=>Kh (Geo.aE s)) Nk (fun _=>rfl) fun s h=>Jn s h
def c90:Con:=aAx true (a1 aSh) (fun s=>[Fit s]) (fun s=> .int .i64 (if Geo.bV s=true then jD s else 0))
theorem k90:c90.Ok Tryz.prog 90:=Ai (fun s=>[gR s]) (fun s=> .int .i64 (if Geo.bV s=true then jD s else 0)) Nk (fun _=>rfl) fun s h=>Jw s h
def c56:Con:=aAx true (a1 aSh) (fun s=>[Fit s,0<s.outer.length,∀r∈s.holes,0<r.length]) (fun s=> .lst .R (Geo.aJ s))
theorem k56:c56.Ok Tryz.prog 56:=Ai (fun s=>[gR s]) (fun s=>kM (Geo.aJ s)) Nk (fun s=>by show AV.p (.sl _ (LT.R.enc _))=_;rw[Dl];rfl) fun s h=>wX s h.1 h.2
noncomputable def tS:Tab:=cJ [(55,c55),(131,aM0),(90,c90),(56,c56)] aIz
theorem tSo:tS.Ok Tryz.prog:=aH aCh ⟨k55,aO1,k90,k56,trivial⟩
end Go.Proofs.YtdaeofhdgabhjaaGreat
/-
  DERIVED: THE SHELF's CONTRACTS AT THIS DUMP, IN PLAIN WORDS (tools/lay-plain.mjs out of 'YtdaeofhdgabhjaaGreatLayS.lean', which tools/lay-shelf.mjs wrote): THE SAME DECLARATIONS UNDER THE SAME NAMES: 'import', 'namespace', 'open', 'def', 'theorem' AND NOTHING ELSE: no command of the shelf's: FOR A HAND-IN. Each laying: the table of numbers ('.._ren') and one theorem, a field a fact of the dump's own or the kernel's comparison; each contract: ONE APPLICATION.
-/
namespace Go.Proofs
open Go.Shelf
def Tryz.sort68_ren:Go.Shelf.Ren:=⟨fun|6=>68|15=>143|14=>142|28=>195|29=>196|20=>187|21=>188|22=>189|23=>190|24=>191|25=>192|26=>193|27=>194|46=>210|47=>211|48=>212|49=>213|50=>214|57=>226|n=>n,fun|22=>24|24=>23|25=>40|3=>3|39=>134|0=>0|53=>170|55=>172|4=>4|46=>163|45=>162|50=>167|5=>5|9=>9|66=>180|70=>184|76=>193|77=>60|n=>n,fun|n=>n⟩
theorem Tryz.sort68:Go.Proofs.SlLaysF.n6 Tryz.prog Tryz.sort68_ren:={
 mixed:=by kernel_rfl
 f6:=⟨Tryz.f68.name,by decide,Tryz.func68.trans (congrArg some (by kernel_rfl))⟩
 f14:=⟨Tryz.f142.name,by decide,Tryz.func142.trans (congrArg some (by kernel_rfl))⟩
 f15:=Tryz.func143.trans (congrArg some (by kernel_rfl))
 f20:=⟨Tryz.f187.name,by decide,Tryz.func187.trans (congrArg some (by kernel_rfl))⟩
 f21:=⟨Tryz.f188.name,by decide,Tryz.func188.trans (congrArg some (by kernel_rfl))⟩
 f22:=⟨Tryz.f189.name,by decide,Tryz.func189.trans (congrArg some (by kernel_rfl))⟩
 f23:=⟨Tryz.f190.name,by decide,Tryz.func190.trans (congrArg some (by kernel_rfl))⟩
 f24:=⟨Tryz.f191.name,by decide,Tryz.func191.trans (congrArg some (by kernel_rfl))⟩
 f25:=⟨Tryz.f192.name,by decide,Tryz.func192.trans (congrArg some (by kernel_rfl))⟩
 f26:=⟨Tryz.f193.name,by decide,Tryz.func193.trans (congrArg some (by kernel_rfl))⟩
 f27:=⟨Tryz.f194.name,by decide,Tryz.func194.trans (congrArg some (by kernel_rfl))⟩
 f28:=Tryz.func195.trans (congrArg some (by kernel_rfl))
 f29:=Tryz.func196.trans (congrArg some (by kernel_rfl))
 f46:=⟨Tryz.f210.name,by decide,Tryz.func210.trans (congrArg some (by kernel_rfl))⟩
 f47:=Tryz.func211.trans (congrArg some (by kernel_rfl))
 f48:=Tryz.func212.trans (congrArg some (by kernel_rfl))
 f49:=⟨Tryz.f213.name,by decide,Tryz.func213.trans (congrArg some (by kernel_rfl))⟩
 f50:=⟨Tryz.f214.name,by decide,Tryz.func214.trans (congrArg some (by kernel_rfl))⟩
 f57:=⟨Tryz.f226.name,by decide,Tryz.func226.trans (congrArg some (by kernel_rfl))⟩
 t0:=Tryz.underlying0
 a0:=Tryz.isAgg0
 z0:=Tryz.sizeOf0
 v0:=Tryz.zeroValue0
 t3:=Tryz.underlying3
 a3:=Tryz.isAgg3
 z3:=Tryz.sizeOf3
 v3:=Tryz.zeroValue3
 t4:=Tryz.underlying4
 a4:=Tryz.isAgg4
 z4:=Tryz.sizeOf4
 v4:=Tryz.zeroValue4
 t5:=Tryz.underlying5
 a5:=Tryz.isAgg5
 z5:=Tryz.sizeOf5
 v5:=Tryz.zeroValue5
 t9:=Tryz.underlying9
 a9:=Tryz.isAgg9
 z9:=Tryz.sizeOf9
 v9:=Tryz.zeroValue9
 t22:=Tryz.underlying24
 a22:=Tryz.isAgg24
 z22:=Tryz.sizeOf24
 v22:=Tryz.zeroValue24
 a24:=Tryz.isAgg23
 z24:=Tryz.sizeOf23
 t25:=Tryz.underlying40
 a25:=Tryz.isAgg40
 z25:=Tryz.sizeOf40
 v25:=Tryz.zeroValue40
 t39:=Tryz.underlying134
 a39:=Tryz.isAgg134
 z39:=Tryz.sizeOf134
 v39:=Tryz.zeroValue134
 t45:=Tryz.underlying162
 a45:=Tryz.isAgg162
 z45:=Tryz.sizeOf162
 v45:=Tryz.zeroValue162
 t46:=Tryz.underlying163
 a46:=Tryz.isAgg163
 z46:=Tryz.sizeOf163
 v46:=Tryz.zeroValue163
 t50:=Tryz.underlying167
 a50:=Tryz.isAgg167
 z50:=Tryz.sizeOf167
 v50:=Tryz.zeroValue167
 t53:=Tryz.underlying170
 a53:=Tryz.isAgg170
 z53:=Tryz.sizeOf170
 v53:=Tryz.zeroValue170
 t55:=Tryz.underlying172
 a55:=Tryz.isAgg172
 z55:=Tryz.sizeOf172
 v55:=Tryz.zeroValue172
 t66:=Tryz.underlying180
 a66:=Tryz.isAgg180
 z66:=Tryz.sizeOf180
 v66:=Tryz.zeroValue180
 t70:=Tryz.underlying184
 a70:=Tryz.isAgg184
 z70:=Tryz.sizeOf184
 v70:=Tryz.zeroValue184
 t76:=Tryz.underlying193
 a76:=Tryz.isAgg193
 z76:=Tryz.sizeOf193
 v76:=Tryz.zeroValue193
 t77:=Tryz.underlying60
 a77:=Tryz.isAgg60
 z77:=Tryz.sizeOf60
 v77:=Tryz.zeroValue60}
end Go.Proofs
namespace Go.Proofs.YtdaeofhdgabhjaaGreat
open Go.RowKit
set_option maxRecDepth 100000
open Geo (nth)
structure Lay(w w':World):Prop where
 below:Below w.heap.size w w'
 drawn:w.drawn<=w'.drawn
theorem Lay.refl(w:World):Lay w w:=⟨Below.refl _ _,Nat.le_refl _⟩
theorem Lay.trans{a b c:World}(h:Lay a b)(k:Lay b c):Lay a c:=⟨Below.then_ h.below k.below,Nat.le_trans h.drawn k.drawn⟩
theorem Lay.alloc{a b:World}(h:Lay a b)(x:Obj):Lay a (b.alloc x):=⟨h.below.alloc h.below.size _,h.drawn⟩
theorem Lay.drew{a b:World}(h:Lay a b):Lay a b.drew:=⟨h.below.drew,Nat.le_trans h.drawn (Nat.le_succ _)⟩
theorem Lay.grow{w w':World}(h:Lay w w'):∃q os,w'=Sort.grow (w.drewN q) os:=by
 obtain⟨p,hp⟩:=Po h.below;refine⟨w'.drawn-w.drawn,p.os,?_⟩;have hd:=h.drawn;have hn:w'.drawn=p.n:=by rw[hp];rfl
 rw[hp];unfold grD Sort.grow World.drewN;simp only[World.mk.injEq,true_and,and_true];rw[hn]at hd;omega
set_option maxHeartbeats 2000000 in
theorem Bm(ax ay bx b_y:Int)(w:World):Calls Tryz.prog 78 #[.agg #[.int .i64 ax,.int .i64 ay],.agg #[.int .i64 bx,.int .i64 b_y]] w
  fun e w'=>e= .returned (.int .i64 (pD ax ay bx b_y))/\Lay w w':=by
 have B1:=(Blk.new w 44 #[.int .i64 ax,.int .i64 ay]).alloc (.cells #[.int .i64 bx,.int .i64 b_y] 44);have B2:=Blk.new (w.alloc (.cells #[.int .i64 ax,.int .i64 ay] 44)) 44 #[.int .i64 bx,.int .i64 b_y];have hL:Lay w ((w.alloc (.cells #[.int .i64 ax,.int .i64 ay] 44)).alloc (.cells #[.int .i64 bx,.int .i64 b_y] 44)):=((Lay.refl w).alloc _).alloc _;rw[World.size_alloc]at B2
 go_enter Tryz.func78,Tryz.ntmps78
 go_upto_region 1 with fail
 generalize (w.alloc (.cells #[.int .i64 ax,.int .i64 ay] 44)).alloc (.cells #[.int .i64 bx,.int .i64 b_y] 44)=W at B1 B2 hL|-;refine wB (by kernel_rfl) [4,5,6,7,8,9,10,11,12,13,14,15,16] [[],[0],[],[2],[0,1,2,3],[],[5],[],[7],[0,1,2,3,4,5,6,7,8],[0,1,2,3,4,5,6,7,8,9],[0,1,2,3,4,5,6,7,8,9,10],[0,1,2,3,4,5,6,7,8,9,10,11]] (by kernel_rfl) (by kernel_rfl) (by intro s hs;simp at hs|-;omega)
  (fun D wx=>Lay W wx)
  (fun i v wx=>match i with
    |0=>v= .pointer (some ⟨w.heap.size,1,none⟩)
    |1=>v= .int .i64 ay
    |2=>v= .pointer (some ⟨w.heap.size+1,1,none⟩)
    |3=>v= .int .i64 b_y
    |4=>v= .int .i64 (fX ay b_y)
    |5=>v= .pointer (some ⟨w.heap.size,0,none⟩)
    |6=>v= .int .i64 ax
    |7=>v= .pointer (some ⟨w.heap.size+1,0,none⟩)
    |8=>v= .int .i64 bx
    |9=>v= .int .i64 (fX ax bx)
    |10=>∃g,v= .slice (some ⟨g,0,none⟩) 2 2/\Blk wx g 3 #[.int .i64 (fX ay b_y),.int .i64 (fX ax bx)]
    |11=>v= .int .i64 (pD ax ay bx b_y)
    |12=>v= .int .i64 (pD ax ay bx b_y)
    |_=>True)
  (Lay.refl _).drew ?_ ?_ ?_
 ·intro j v wx wy hf hxy;match j with
  |0=>exact hf
  |1=>exact hf
  |2=>exact hf
  |3=>exact hf
  |4=>exact hf
  |5=>exact hf
  |6=>exact hf
  |7=>exact hf
  |8=>exact hf
  |9=>exact hf
  |10=>obtain⟨g,h1,h2⟩:=hf;exact⟨g,h1,h2.then_ hxy⟩
  |11=>exact hf
  |12=>exact hf
  |_+13=>exact trivial
 ·refine⟨?_,?_,?_,?_,?_,?_,?_,?_,?_,?_,?_,?_,?_,trivial⟩
  ·intro D V wx hD hanc hdesc hin hWR;have hA:=hWR;have e2:=hin 2 (by kernel_rfl)
   simp at e2;refine opK ?_;intro K hK;simp[cC,execOp,bJ,e2,go_sem];exact hK _ _ ⟨rfl,hWR,.inl rfl⟩
  ·intro D V wx hD hanc hdesc hin hWR;have hA:=hWR;have e5:V 5= .pointer (some ⟨w.heap.size,1,none⟩):=(hanc 0 (by kernel_rfl)).2
   have q0:=(Blk.then_ B1 hA.below).cell 1;simp at q0;refine opK ?_;intro K hK;simp[cC,execOp,bJ,e5,q0,go_sem];exact hK _ _ ⟨rfl,hWR,.inl rfl⟩
  ·intro D V wx hD hanc hdesc hin hWR;have hA:=hWR;have e3:=hin 3 (by kernel_rfl)
   simp at e3;refine opK ?_;intro K hK;simp[cC,execOp,bJ,e3,go_sem];exact hK _ _ ⟨rfl,hWR,.inl rfl⟩
  ·intro D V wx hD hanc hdesc hin hWR;have hA:=hWR;have e7:V 7= .pointer (some ⟨w.heap.size+1,1,none⟩):=(hanc 2 (by kernel_rfl)).2
   have q0:=(Blk.then_ B2 hA.below).cell 1;simp at q0;refine opK ?_;intro K hK;simp[cC,execOp,bJ,e7,q0,go_sem];exact hK _ _ ⟨rfl,hWR,.inl rfl⟩
  ·intro D V wx hD hanc hdesc hin hWR;have hA:=hWR;have e6:V 6= .int .i64 ay:=(hanc 1 (by kernel_rfl)).2
   have e8:V 8= .int .i64 b_y:=(hanc 3 (by kernel_rfl)).2
   refine opK ?_;intro K hK;simp[cC,execOp,bJ,e6,e8,go_sem];refine(aAo _ _ _).mono ?_;rintro e w1 ⟨rfl,rfl⟩;exact⟨_,rfl,hK _ _ ⟨rfl,hWR,.inl rfl⟩⟩
  ·intro D V wx hD hanc hdesc hin hWR;have hA:=hWR;have e2:=hin 2 (by kernel_rfl)
   simp at e2;refine opK ?_;intro K hK;simp[cC,execOp,bJ,e2,go_sem];exact hK _ _ ⟨rfl,hWR,.inl rfl⟩
  ·intro D V wx hD hanc hdesc hin hWR;have hA:=hWR;have e10:V 10= .pointer (some ⟨w.heap.size,0,none⟩):=(hanc 5 (by kernel_rfl)).2
   have q0:=(Blk.then_ B1 hA.below).cell 0;simp at q0;refine opK ?_;intro K hK;simp[cC,execOp,bJ,e10,q0,go_sem];exact hK _ _ ⟨rfl,hWR,.inl rfl⟩
  ·intro D V wx hD hanc hdesc hin hWR;have hA:=hWR;have e3:=hin 3 (by kernel_rfl)
   simp at e3;refine opK ?_;intro K hK;simp[cC,execOp,bJ,e3,go_sem];exact hK _ _ ⟨rfl,hWR,.inl rfl⟩
  ·intro D V wx hD hanc hdesc hin hWR;have hA:=hWR;have e12:V 12= .pointer (some ⟨w.heap.size+1,0,none⟩):=(hanc 7 (by kernel_rfl)).2
   have q0:=(Blk.then_ B2 hA.below).cell 0;simp at q0;refine opK ?_;intro K hK;simp[cC,execOp,bJ,e12,q0,go_sem];exact hK _ _ ⟨rfl,hWR,.inl rfl⟩
  ·intro D V wx hD hanc hdesc hin hWR;have hA:=hWR;have e11:V 11= .int .i64 ax:=(hanc 6 (by kernel_rfl)).2
   have e13:V 13= .int .i64 bx:=(hanc 8 (by kernel_rfl)).2
   refine opK ?_;intro K hK;simp[cC,execOp,bJ,e11,e13,go_sem];refine(aAo _ _ _).mono ?_;rintro e w1 ⟨rfl,rfl⟩;exact⟨_,rfl,hK _ _ ⟨rfl,hWR,.inl rfl⟩⟩
  ·intro D V wx hD hanc hdesc hin hWR;have hA:=hWR;have e9:V 9= .int .i64 (fX ay b_y):=(hanc 4 (by kernel_rfl)).2
   have e14:V 14= .int .i64 (fX ax bx):=(hanc 9 (by kernel_rfl)).2
   refine opK ?_;intro K hK;simp[cC,execOp,bJ,e9,e14,go_sem];exact hK _ _ ⟨⟨_,rfl,Blk.new _ _ _⟩,(hA.alloc _),.inr (.inl ((Below.refl _ _).alloc (Nat.le_refl _) _))⟩
  ·intro D V wx hD hanc hdesc hin hWR;have hA:=hWR;have e15:=(hanc 10 (by kernel_rfl)).2
   refine opK ?_;intro K hK;obtain⟨g,e15,hg⟩:=e15;have e15:V 15=_:=e15;have q0:=hg.cell 0;have q1:=hg.cell 1;simp at q0 q1;simp[cC,execOp,bJ,e15,go_sem];refine(aJc _ _ _ _ q0 q1).mono ?_;rintro e w1 ⟨rfl,rfl⟩;exact⟨_,rfl,hK _ _ ⟨rfl,hWR,.inl rfl⟩⟩
  ·intro D V wx hD hanc hdesc hin hWR;have hA:=hWR;have e16:V 16= .int .i64 (pD ax ay bx b_y):=(hanc 11 (by kernel_rfl)).2
   refine opK ?_;intro K hK;simp[cC,execOp,bJ,e16,go_sem];exact hK _ _ ⟨rfl,hWR,.inl rfl⟩
 intro D V wx hall hf hWR;have f0:V 5= .pointer (some ⟨w.heap.size,1,none⟩):=hf 0 (by decide)
 have f1:V 6= .int .i64 ay:=hf 1 (by decide)
 have f2:V 7= .pointer (some ⟨w.heap.size+1,1,none⟩):=hf 2 (by decide)
 have f3:V 8= .int .i64 b_y:=hf 3 (by decide)
 have f4:V 9= .int .i64 (fX ay b_y):=hf 4 (by decide)
 have f5:V 10= .pointer (some ⟨w.heap.size,0,none⟩):=hf 5 (by decide)
 have f6:V 11= .int .i64 ax:=hf 6 (by decide)
 have f7:V 12= .pointer (some ⟨w.heap.size+1,0,none⟩):=hf 7 (by decide)
 have f8:V 13= .int .i64 bx:=hf 8 (by decide)
 have f9:V 14= .int .i64 (fX ax bx):=hf 9 (by decide)
 have f10:=hf 10 (by decide)
 have f11:V 16= .int .i64 (pD ax ay bx b_y):=hf 11 (by decide)
 have f12:V 4= .int .i64 (pD ax ay bx b_y):=hf 12 (by decide)
 clear hf hall;simp only[eQ,List.foldl_cons,List.foldl_nil,f0,f1,f2,f3,f4,f5,f6,f7,f8,f9,f11,f12];simp only[Act.put,List.setIfInBounds_toArray,List.set_cons_succ,List.set_cons_zero];clear f0 f1 f2 f3 f4 f5 f6 f7 f8 f9 f11 f12
 go_wp2
 go_ret
 exact⟨rfl,hL.trans hWR⟩
def Uu(x y:Geo.aD):Int:=pD (nth x 0).x (nth x 0).y (nth y 0).x (nth y 0).y
set_option maxHeartbeats 2000000 in
theorem Xt(xa ya:Option Addr)(xc yc:Nat)(xs ys:Geo.aD)(w:World)(hx:RdV w xa xs)(hy:RdV w ya ys)(h0:0<xs.length)(h1:0<ys.length)(_hlx:xs.length<=1000)(_hly:ys.length<=1000):
  Calls Tryz.prog 127 #[.slice xa xs.length xc,.slice ya ys.length yc] w fun e w'=>e= .returned (.int .i64 (Uu xs ys))/\Lay w w':=by
 obtain⟨b,off,rfl,hb,p0,p1⟩:=hx 0 h0;obtain⟨b',off',rfl,hb',q0,q1⟩:=hy 0 h1;have HC:Hid (Uu xs ys=pD (nth xs 0).x (nth xs 0).y (nth ys 0).x (nth ys 0).y):=Lib.hid rfl;generalize (nth xs 0).x=ax at p0 HC;generalize (nth xs 0).y=ay at p1 HC;generalize (nth ys 0).x=bx at q0 HC;generalize (nth ys 0).y=b_y at q1 HC;simp only[Nat.zero_mul,Nat.add_zero]at p0 p1 q0 q1
 go_enter Tryz.func127,Tryz.ntmps127
 go_upto_region 1 with fail
 have r0:=Lib.hid p0;have r1:=Lib.hid p1;have r2:=Lib.hid q0;have r3:=Lib.hid q1;clear p0 p1 q0 q1;refine wB (by kernel_rfl) [4,5,6,7,8,9,10,11] [[],[0],[0,1],[],[3],[3,4],[0,1,2,3,4,5],[0,1,2,3,4,5,6]] (by kernel_rfl) (by kernel_rfl) (by intro s hs;simp at hs|-;omega)
  (fun D wx=>Lay w wx)
  (fun i v wx=>match i with
    |0=>v= .slice (some ⟨b,off,none⟩) xs.length xc
    |1=>v= .pointer (some ⟨b,off,none⟩)
    |2=>v= .agg #[.int .i64 ax,.int .i64 ay]
    |3=>v= .slice (some ⟨b',off',none⟩) ys.length yc
    |4=>v= .pointer (some ⟨b',off',none⟩)
    |5=>v= .agg #[.int .i64 bx,.int .i64 b_y]
    |6=>v= .int .i64 (pD ax ay bx b_y)
    |7=>v= .int .i64 (pD ax ay bx b_y)
    |_=>True)
  (Lay.refl _).drew ?_ ?_ ?_
 ·intro j v wx wy hf hxy;match j with
  |0=>exact hf
  |1=>exact hf
  |2=>exact hf
  |3=>exact hf
  |4=>exact hf
  |5=>exact hf
  |6=>exact hf
  |7=>exact hf
  |_+8=>exact trivial
 ·refine⟨?_,?_,?_,?_,?_,?_,?_,?_,trivial⟩
  ·intro D V wx hD hanc hdesc hin hWR;have hA:=hWR;have e0:=hin 0 (by kernel_rfl)
   simp at e0;refine opK ?_;intro K hK;simp[cC,execOp,bJ,e0,go_sem];exact hK _ _ ⟨rfl,hWR,.inl rfl⟩
  ·intro D V wx hD hanc hdesc hin hWR;have hA:=hWR;have e5:V 5= .slice (some ⟨b,off,none⟩) xs.length xc:=(hanc 0 (by kernel_rfl)).2
   refine opK ?_;intro K hK;simp[cC,execOp,bJ,e5,h0,go_sem];exact hK _ _ ⟨rfl,hWR,.inl rfl⟩
  ·intro D V wx hD hanc hdesc hin hWR;have hA:=hWR;have e6:V 6= .pointer (some ⟨b,off,none⟩):=(hanc 1 (by kernel_rfl)).2
   have s0:=(hA.below.cell (p:=⟨b,off,none⟩) hb).trans r0.out;have s1:=(hA.below.cell (p:=⟨b,off+1,none⟩) hb).trans r1.out;refine opK ?_;intro K hK;simp[cC,execOp,bJ,e6,s0,s1,go_sem];exact hK _ _ ⟨rfl,hWR,.inl rfl⟩
  ·intro D V wx hD hanc hdesc hin hWR;have hA:=hWR;have e1:=hin 1 (by kernel_rfl)
   simp at e1;refine opK ?_;intro K hK;simp[cC,execOp,bJ,e1,go_sem];exact hK _ _ ⟨rfl,hWR,.inl rfl⟩
  ·intro D V wx hD hanc hdesc hin hWR;have hA:=hWR;have e8:V 8= .slice (some ⟨b',off',none⟩) ys.length yc:=(hanc 3 (by kernel_rfl)).2
   refine opK ?_;intro K hK;simp[cC,execOp,bJ,e8,h1,go_sem];exact hK _ _ ⟨rfl,hWR,.inl rfl⟩
  ·intro D V wx hD hanc hdesc hin hWR;have hA:=hWR;have e9:V 9= .pointer (some ⟨b',off',none⟩):=(hanc 4 (by kernel_rfl)).2
   have s0:=(hA.below.cell (p:=⟨b',off',none⟩) hb').trans r2.out;have s1:=(hA.below.cell (p:=⟨b',off'+1,none⟩) hb').trans r3.out;refine opK ?_;intro K hK;simp[cC,execOp,bJ,e9,s0,s1,go_sem];exact hK _ _ ⟨rfl,hWR,.inl rfl⟩
  ·intro D V wx hD hanc hdesc hin hWR;have hA:=hWR;have e7:V 7= .agg #[.int .i64 ax,.int .i64 ay] :=(hanc 2 (by kernel_rfl)).2
   have e10:V 10= .agg #[.int .i64 bx,.int .i64 b_y] :=(hanc 5 (by kernel_rfl)).2
   refine opK ?_;intro K hK;simp[cC,execOp,bJ,e7,e10,go_sem];refine(Bm ax ay bx b_y wx).mono ?_;rintro e w1 ⟨rfl,hc⟩;exact⟨_,rfl,hK _ _ ⟨rfl,hA.trans hc,.inr (.inl hc.below)⟩⟩
  ·intro D V wx hD hanc hdesc hin hWR;have hA:=hWR;have e11:V 11= .int .i64 (pD ax ay bx b_y):=(hanc 6 (by kernel_rfl)).2
   refine opK ?_;intro K hK;simp[cC,execOp,bJ,e11,go_sem];exact hK _ _ ⟨rfl,hWR,.inl rfl⟩
 intro D V wx hall hf hWR;have f0:V 5= .slice (some ⟨b,off,none⟩) xs.length xc:=hf 0 (by decide)
 have f1:V 6= .pointer (some ⟨b,off,none⟩):=hf 1 (by decide)
 have f2:V 7= .agg #[.int .i64 ax,.int .i64 ay] :=hf 2 (by decide)
 have f3:V 8= .slice (some ⟨b',off',none⟩) ys.length yc:=hf 3 (by decide)
 have f4:V 9= .pointer (some ⟨b',off',none⟩):=hf 4 (by decide)
 have f5:V 10= .agg #[.int .i64 bx,.int .i64 b_y] :=hf 5 (by decide)
 have f6:V 11= .int .i64 (pD ax ay bx b_y):=hf 6 (by decide)
 have f7:V 4= .int .i64 (pD ax ay bx b_y):=hf 7 (by decide)
 clear hf hall;simp only[eQ,List.foldl_cons,List.foldl_nil,f0,f1,f2,f3,f4,f5,f6,f7];simp only[Act.put,List.setIfInBounds_toArray,List.set_cons_succ,List.set_cons_zero];clear f0 f1 f2 f3 f4 f5 f6 f7
 go_wp2
 go_ret
 exact⟨pH HC.out.symm,hWR⟩
end Go.Proofs.YtdaeofhdgabhjaaGreat
namespace Go.Proofs.YtdaeofhdgabhjaaGreat
open Go.RowKit Go.Sort Go.Shelf Go.Lib
section
variable {α:Type} [Inhabited α]
theorem El{enc:α->Value}{w:World}{g n:Nat}{d:Array α}{os:Array Obj}{cur:Array Value}{t:TypeId}(hb:w.heap[g]? =some (.cells cur t (0,0))):(sortWorld enc w g 0 n d os).heap[g]? =some (.cells (putCells enc 0 d cur) t (0,0)):=by
 have hlt:=(Array.getElem?_eq_some_iff.1 hb).1;unfold sortWorld Sort.grow putRow mapBlock;simp only[heap_ahead];rw[Array.getElem?_append_left (by simpa using hlt),Array.getElem?_modify,if_pos rfl,hb]
 rfl
theorem vC{enc:α->Value}{w:World}{g n:Nat}{d:Array α}{os:Array Obj}:w.grownBy (sortWorld enc w g 0 n d os) (some g):=by
 refine⟨rfl,rfl,rfl,?_,?_⟩
 ·unfold sortWorld Sort.grow putRow mapBlock;simp
 ·intro k hk hne;unfold sortWorld Sort.grow putRow mapBlock;simp only[heap_ahead];rw[Array.getElem?_append_left (by simpa using hk),Array.getElem?_modify,if_neg (fun e=>hne (by rw[e]))]
theorem Ka{enc:α->Value}{d:Array α}{cur:Array Value}(h:d.size<=cur.size):(putCells enc 0 d cur).toList.take d.size=d.toList.map enc:=by
 apply List.ext_getElem?;intro i;rw[List.getElem?_take];by_cases hi:i<d.size
 ·rw[if_pos hi];unfold putCells;simp[hi,show i<cur.size by omega]
 ·rw[if_neg hi,List.getElem?_eq_none (by simp;omega)]
end
theorem yN(g:Nat)(hg:∀args w,(callFunc g args).run Tryz.prog w= .ok (.enter g args) w)(cf:Geo.aD->Geo.aD->Int)(base:Nat)(v:Value)(rs:List RV)(w:World)(hl:rs.length<=1000000)
  (hrow:w.ownsRow base 23 1 v rs.length (rs.map RV.enc)) (hok:∀x∈rs,RingOk base w v x) (hO:SWO (ltOf fun x y:{x:RV//x∈rs}=>cf x.1.r y.1.r))
  (hcmp:∀x∈rs,∀y∈rs,∀wx,RdV wx x.a x.r->RdV wx y.a y.r->Calls Tryz.prog g #[x.enc,y.enc] wx fun e w'=>e= .returned (.int .i64 (cf x.r y.r))/\Lay wx w'):
  Calls Tryz.prog 68 #[v,.func (.func g) #[] #[]] w fun e w'=>e= .returned (.tuple #[])/\∃rs':List RV,rs'.Perm rs/\rs'.Pairwise (fun a b=>¬cf b.r a.r<0)/\w'.ownsRow base 23 1 v rs'.length (rs'.map RV.enc)/\(∀x∈rs',RingOk base w' v x)/\w.grownBy w' v.ownBlock:=by
 by_cases hr0:rs=[]
 ·subst hr0;have hv:∃p cap,v= .slice p 0 cap:=by
   rcases hrow.2 with⟨h1,_⟩|⟨gb,cap,cur,h1,_⟩
   ·exact⟨_,_,h1⟩
   ·exact⟨_,_,h1⟩
  obtain⟨p,cap,rfl⟩:=hv;have h:=AnyF.slices_SortFunc_none (P:=Tryz.prog) (ρ:=Tryz.sort68_ren) {Tryz.sort68 with} p cap (.func (.func g) #[] #[]) w
  change Calls Tryz.prog 68 _ _ _ at h;refine h.mono ?_;rintro e w' ⟨rfl,rfl⟩;exact⟨rfl,[],List.Perm.refl _,List.Pairwise.nil,hrow,hok,⟨rfl,rfl,rfl,Nat.le_refl _,fun _ _ _=>rfl⟩⟩
 ·obtain⟨x0,hx0⟩:=List.exists_mem_of_ne_nil _ hr0;have:Inhabited {x:RV//x∈rs}:=⟨⟨x0,hx0⟩⟩;rcases hrow.2 with⟨_,h1⟩|⟨gb,cap,cur,rfl,hbb,hh,hn,hcap,hsz,htk⟩
  ·exact absurd (List.length_eq_zero_iff.1 h1) hr0
  ·obtain⟨d,hd⟩:∃d:Array {x:RV//x∈rs},d=rs.attach.toArray:=⟨_,rfl⟩;have hds:d.size=rs.length:=by rw[hd];simp
   have hdm:d.toList.map (·.1)=rs:=by rw[hd];simp
   have hcs:rs.length<=cur.size:=by rw[hsz];omega
   have hH:Holds (fun x:{x:RV//x∈rs}=>RV.enc x.1) w gb 0 d:=by
    intro j hj;have e1:cur[j]? =some (RV.enc d[j]!.1):=by
     have e2:(cur.toList.take (rs.length*1))[j]? =(rs.map RV.enc)[j]? :=by rw[htk]
     rw[List.getElem?_take,if_pos (by omega)]at e2
     have e3:(rs.map RV.enc)[j]? =some (RV.enc d[j]!.1):=by
      have e4:((d.toList.map (·.1)).map RV.enc)[j]? =some (RV.enc d[j]!.1):=by
       rw[List.map_map,List.getElem?_map];simp[hj]
      rw[hdm]at e4;exact e4
     rw[e3]at e2;simpa using e2
    refine⟨?_,?_⟩
    ·rw[Nat.zero_add];exact(cell_of_row w gb j cur 23 (0,0) hh).trans e1
    ·simp[World.frozen?,hh]
   have hblk:gb<w.heap.size:=(Array.getElem?_eq_some_iff.1 hh).1;have h:=Any.slices_SortFunc (P:=Tryz.prog) (ρ:=Tryz.sort68_ren) Tryz.sort68 (fun x:{x:RV//x∈rs}=>RV.enc x.1) (fun _=>rfl) (fun x y=>cf x.1.r y.1.r) hO g #[] gb 0 cap d w hg (by
    intro m os dk hdk x y;have hG:=vC (enc:=fun x:{x:RV//x∈rs}=>RV.enc x.1) (w:=w) (g:=gb) (n:=m) (d:=dk) (os:=os)
    have h1:=hcmp x.1 x.2 y.1 y.2 _ ((hok x.1 x.2).rd.grown (hok x.1 x.2).sep hG) ((hok y.1 y.2).rd.grown (hok y.1 y.2).sep hG);rw[show(#[RV.enc x.1,RV.enc y.1] ++(#[] :Array Value))= #[RV.enc x.1,RV.enc y.1] by simp]
    exact h1.mono fun e w' ⟨he,hL⟩=>⟨he,hL.grow⟩) hH hblk (by omega)
   change Calls Tryz.prog 68 _ _ _ at h;rw[hds]at h;refine h.mono ?_;rintro e w' ⟨rfl,d',n,os,hp,hs,rfl⟩;obtain⟨p1,_,p3⟩:=hp;have hG:=vC (enc:=fun x:{x:RV//x∈rs}=>RV.enc x.1) (w:=w) (g:=gb) (n:=n) (d:=d') (os:=os)
   have hperm:d'.toList.Perm d.toList:=by
    have e1:(d'.extract 0 rs.length).toList=d'.toList:=by rw[<-hds,<-p1];simp
    have e2:(d.extract 0 rs.length).toList=d.toList:=by rw[<-hds];simp
    rwa[e1,e2]at p3
   have hpr:(d'.toList.map (·.1)).Perm rs:=by
    have:=hperm.map (·.1)
    rwa[hdm]at this
   have hlen:(d'.toList.map (·.1)).length=rs.length:=hpr.length_eq
   refine⟨rfl,d'.toList.map (·.1),hpr,?_,?_,?_,hG⟩
   ·rw[List.pairwise_map,List.pairwise_iff_getElem];intro i j hi hj hij;have hj':j<d'.size:=by simpa using hj
    have:=hs i j (Nat.zero_le _) hij (by rw[<-hds,<-p1];exact hj')
    unfold ltOf at this;rw[getElem!_pos d' i (by omega),getElem!_pos d' j hj']at this
    simpa using this
   ·refine⟨by simp,.inr ⟨gb,cap,_,by rw[hlen],hbb,El hh,by omega,hcap,by unfold putCells;simpa using hsz,?_⟩⟩
    rw[hlen,Nat.mul_one,<-hds,<-p1,Ka (by omega),List.map_map]
    rfl
   ·intro x hx;have hx2:=hpr.mem_iff.1 hx;have ok:=hok x hx2;exact⟨ok.rd.grown ok.sep hG,ok.fresh,ok.cap,ok.len,ok.sep⟩
end Go.Proofs.YtdaeofhdgabhjaaGreat
namespace Go.Proofs.YtdaeofhdgabhjaaGreat
open Go.RowKit
theorem Zt(p q:Geo.V):pD p.x p.y q.x q.y=Geo.eJ p q:=by
 unfold pD orI Geo.eJ fX Geo.fX;grind
theorem Pu{xs ys:Geo.aD}{k:Nat}(hx:k<xs.length)(hy:k<ys.length):Geo.cD (xs.drop k) (ys.drop k)=if Geo.eJ (Geo.nth xs k) (Geo.nth ys k)=0 then Geo.cD (xs.drop (k+1)) (ys.drop (k+1))else Geo.eJ (Geo.nth xs k) (Geo.nth ys k):=by
 have e1:Geo.nth xs k=xs[k] :=by unfold Geo.nth;simp[List.getD_eq_getElem?_getD,hx]
 have e2:Geo.nth ys k=ys[k] :=by unfold Geo.nth;simp[List.getD_eq_getElem?_getD,hy]
 rw[List.drop_eq_getElem_cons hx,List.drop_eq_getElem_cons hy,e1,e2];by_cases h:Geo.eJ xs[k] ys[k] =0
 ·rw[if_pos h];show(if Geo.eJ xs[k] ys[k]≠0 then _ else _)=_
  rw[if_neg (by simpa using h)]
 ·rw[if_neg h];show(if Geo.eJ xs[k] ys[k]≠0 then _ else _)=_
  rw[if_pos h]
theorem Xs{xs ys:Geo.aD}{k:Nat}(hx:k<xs.length)(hy:ys.length<=k):Geo.cD (xs.drop k) (ys.drop k)=1:=by
 rw[List.drop_eq_getElem_cons hx,List.drop_eq_nil_of_le hy];rfl
theorem Uh{xs ys:Geo.aD}{k:Nat}(hx:xs.length<=k)(hk:k<=xs.length):Geo.cD (xs.drop k) (ys.drop k)=if xs.length<ys.length then-1 else 0:=by
 rw[List.drop_eq_nil_of_le hx];by_cases h:xs.length<ys.length
 ·rw[if_pos h,List.drop_eq_getElem_cons (show k<ys.length by omega)];rfl
 ·rw[if_neg h,List.drop_eq_nil_of_le (show ys.length<=k by omega)];rfl
set_option maxRecDepth 100000 in
set_option maxHeartbeats 2000000 in
theorem Et(xa ya:Option Addr)(xc yc:Nat)(xs ys:Geo.aD)(w:World)(hx:RdV w xa xs)(hy:RdV w ya ys)(hlx:xs.length<=1000)(_hly:ys.length<=1000):
  Calls Tryz.prog 77 #[.slice xa xs.length xc,.slice ya ys.length yc,.func (.func 78) #[] #[]] w fun e w'=>e= .returned (.int .i64 (Geo.cD xs ys))/\Lay w w':=by
 go_enter Tryz.func77,Tryz.ntmps77
 go_wp2
 go_loopw [7,8,9,10,13] (fun _ _ _ _ i wr=>∃k:Nat,k<=xs.length/\i= .int .i64 k/\Hid (Geo.cD xs ys=Geo.cD (xs.drop k) (ys.drop k))/\Lay w wr) (fun _ _ _ _ i _=>xs.length-(intOf i).toNat)
 case atStart=>exact⟨0,by omega,rfl,Lib.hid (by simp),Lay.refl _⟩
 case round=>
  obtain⟨k,hk,rfl,HF,hb⟩:=hrel;by_cases hlt:k<xs.length
  ·obtain⟨b,off,rfl,hbl,p0,p1⟩:=(hx.below hb.below) k hlt;by_cases hly2:k<ys.length
   ·obtain⟨b',off',rfl,hbl',q0,q1⟩:=(hy.below hb.below) k hly2;have HS:=Lib.hid (HF.out.trans (Pu hlt hly2));obtain⟨⟨ax,ay⟩,hz⟩:∃z,z=Geo.nth xs k:=⟨_,rfl⟩;obtain⟨⟨bx,b_y⟩,hz'⟩:∃z,z=Geo.nth ys k:=⟨_,rfl⟩;rw[<-hz]at p0 p1;rw[<-hz']at q0 q1;rw[<-hz,<-hz']at HS;dsimp only at p0 p1 q0 q1;clear hz hz';have q0':(wr.alloc (.cells #[.int .i64 ax,.int .i64 ay] 44)).cell? ⟨b',off'+k*2,none⟩=some (.int .i64 bx):=(((Below.refl _ wr).alloc (Nat.le_refl _) _).cell (p:=⟨b',_,none⟩) hbl').trans q0;have q1':(wr.alloc (.cells #[.int .i64 ax,.int .i64 ay] 44)).cell? ⟨b',off'+k*2+1,none⟩=some (.int .i64 b_y):=(((Below.refl _ wr).alloc (Nat.le_refl _) _).cell (p:=⟨b',_,none⟩) hbl').trans q1;have hne:¬ys.length<=k:=by omega
    go_wp2_with fail
    refine(Bm ax ay bx b_y _).mono ?_;rintro e w1 ⟨rfl,hb1⟩;have HC:Hid (pD ax ay bx b_y=Geo.eJ ⟨ax,ay⟩ ⟨bx,b_y⟩):=Lib.hid (Zt ⟨ax,ay⟩ ⟨bx,b_y⟩);rw[HC.out];have hb2:=((hb.alloc (.cells #[.int .i64 ax,.int .i64 ay] 44)).alloc (.cells #[.int .i64 bx,.int .i64 b_y] 44)).trans hb1;clear HC hb1 p0 p1 q0 q1 q0' q1';generalize Geo.eJ ⟨ax,ay⟩ ⟨bx,b_y⟩=C at HS|-;by_cases hc:C=0
    ·subst hc;have HS2:Hid (Geo.cD xs ys=Geo.cD (xs.drop (k+1)) (ys.drop (k+1))):=Lib.hid (HS.out.trans (if_pos rfl))
     go_wp2
     go_roundw
     case rel=>exact⟨k+1,by omega,by go_num,HS2,hb2⟩
     case measure=>simp[intOf];omega
    ·have HS2:Hid (Geo.cD xs ys=C):=Lib.hid (HS.out.trans (if_neg hc));have e1:(C !=0)=true:=by simp[hc]
     have e2:(C==0)=false:=by simp[hc]
     go_wp2
     go_ret
     exact⟨pH HS2.out.symm,hb2⟩
   ·have HS:=Lib.hid (HF.out.trans (Xs hlt (show ys.length<=k by omega)))
    go_wp2
    go_ret
    exact⟨pH HS.out.symm,hb.alloc _⟩
  ·have HS:=Lib.hid (HF.out.trans (Uh (show xs.length<=k by omega) hk))
   by_cases hq:xs.length<ys.length
   ·have HS2:=Lib.hid (HS.out.trans (if_pos hq))
    go_wp2
    go_ret
    exact⟨pH HS2.out.symm,hb⟩
   ·have HS2:=Lib.hid (HS.out.trans (if_neg hq))
    go_wp2
    go_ret
    exact⟨pH HS2.out.symm,hb⟩
set_option maxHeartbeats 400000 in
theorem Er(xa ya:Option Addr)(xc yc:Nat)(xs ys:Geo.aD)(w:World)(hx:RdV w xa xs)(hy:RdV w ya ys)(hlx:xs.length<=1000)(hly:ys.length<=1000):
  Calls Tryz.prog 26 #[.slice xa xs.length xc,.slice ya ys.length yc] w fun e w'=>e= .returned (.int .i64 (Geo.cD xs ys))/\Lay w w':=by
 go_enter Tryz.func26,Tryz.ntmps26
 go_wp2_with (go_at_call 77;(with_reducible refine(Et _ _ _ _ _ _ _ hx hy hlx hly).mono ?_);rintro e w1 ⟨rfl,hb1⟩)
 go_ret
 exact⟨rfl,hb1⟩
end Go.Proofs.YtdaeofhdgabhjaaGreat
namespace Go.Proofs.YtdaeofhdgabhjaaGreat
open Go.RowKit
theorem Ug{rs:List RV}:Sort.SWO (ltOf fun x y:{x:RV//x∈rs}=>Geo.cD x.1.r y.1.r):=by
 have h:∀x y:{x:RV//x∈rs},ltOf (fun x y:{x:RV//x∈rs}=>Geo.cD x.1.r y.1.r) x y=true↔Geo.cD x.1.r y.1.r<0:=by
  intro x y;unfold ltOf;rw[decide_eq_true_eq]
 refine⟨?_,?_,?_⟩
 ·intro x;rw[Bool.eq_false_iff,ne_eq,h];have:=Geo.Pv x.1.r;omega
 ·intro x y z h1 h2;rw[h]at*;exact Geo.sF _ _ _ h1 h2
 ·intro x y z h1 h2;rw[Bool.eq_false_iff,ne_eq,h]at*;have e1:=Geo.iK x.1.r y.1.r;have e2:=Geo.iK y.1.r z.1.r;have e3:=Geo.iK x.1.r z.1.r;have:= @Geo.Bk z.1.r y.1.r x.1.r;unfold Geo.kO at this;omega
theorem Xr{a b:Geo.aD}(h:¬Geo.cD b a<0):Geo.kO a b:=by
 have:=Geo.iK a b;unfold Geo.kO;omega
theorem aA5{C:cF}{w:World}{b:Nat}(hC:∀b' o v,C b' o v->w.cell? ⟨b',o,none⟩=some v/\b'≠b){r:List Geo.V}{v:Value}(h:bI C (fN r) v):
  ∃a c,v= .slice a r.length c/\RdV w a r/\r.length<=c/\(0<r.length->∀ad,a=some ad->ad.block≠b):=by
 obtain⟨a,c,hv,h1,h2,_⟩:=Gv (fun b' o v h=>(hC b' o v h).1) h
 refine⟨a,c,hv,h1,h2,fun h0 ad ha=> ?_⟩
 unfold fN bI at h;obtain⟨a',c',hv',_,_,h3⟩:=h;rw[hv]at hv';simp only[Value.slice.injEq,true_and]at hv';obtain⟨rfl,rfl⟩:=hv';obtain⟨_,h5⟩:=h3 _ ha;have hl:0<(jB r).length:=by rw[Kc.length];omega
 obtain⟨u,h6,_⟩:=h5.get _ _ _ 0 _ (List.getElem?_eq_getElem hl);exact(hC _ _ _ h6).2
structure RingIn(C:cF)(w:World)(b:Nat)(x:RV):Prop where
 rep:bI C (fN x.r) x.enc
 rd:RdV w x.a x.r
 cap:x.r.length<=x.c
 sep:0<x.r.length->∀ad,x.a=some ad->ad.block≠b
theorem Lc{C:cF}{w:World}{b:Nat}(hC:∀b' o v,C b' o v->w.cell? ⟨b',o,none⟩=some v/\b'≠b):∀(l:List Geo.aD) (us:List Value),
  (∀(i:Nat) x,(l.map fN)[i]? =some x->∃v,us[i]? =some v/\bI C x v)->∃rs:List RV,rs.map RV.r=l/\rs.map RV.enc=us.take l.length/\∀x∈rs,RingIn C w b x
 |[],us,_=>⟨[],rfl,by simp,by simp⟩
 |r::l,us,h=>by
  obtain⟨v,h1,h2⟩:=h 0 (fN r) rfl;cases us with
  |nil=>simp at h1
  |cons u us=>
   simp at h1;subst h1;obtain⟨rs,h3,h4,h5⟩:=Lc hC l us fun i x hi=>by simpa using h (i+1) x (by simpa using hi)
   obtain⟨a,c,rfl,g1,g2,g3⟩:=aA5 hC h2;refine⟨⟨a,c,r⟩::rs,by simp[h3],by simp[h4,RV.enc],?_⟩
   intro x hx;rcases List.mem_cons.1 hx with rfl|hx
   ·exact⟨h2,g1,g2,g3⟩
   ·exact h5 x hx
theorem Xf{w w':World}(h:w.grownBy w' none):Below w.heap.size w w':=⟨h.os,h.tape,h.output,h.size,fun k hk=>h.block k hk (by simp)⟩
theorem aNq(args:Array Value)(w:World):(callFunc 26 args).run Tryz.prog w= .ok (.enter 26 args) w:=nM (by kernel_rfl) args w
theorem aJh{rs:List RV}(h:∀x∈rs,x.r.length<=1000):∀x∈rs,∀y∈rs,∀wx,RdV wx x.a x.r->RdV wx y.a y.r->Calls Tryz.prog 26 #[x.enc,y.enc] wx fun e w'=>e= .returned (.int .i64 (Geo.cD x.r y.r))/\Lay wx w':=
 fun x hx y hy wx h1 h2=>Er x.a y.a x.c y.c x.r y.r wx h1 h2 (h x hx) (h y hy)
theorem La(g:Nat)(hg:∀args w,(callFunc g args).run Tryz.prog w= .ok (.enter g args) w)(cf:Geo.aD->Geo.aD->Int)(l m:List Geo.aD)(hn:l.length<=1000000)(hl:∀r∈l,r.length<=1000)(hlen:m.length=l.length)
  (hO:∀rs:List RV,rs.map RV.r=l->Sort.SWO (ltOf fun x y:{x:RV//x∈rs}=>cf x.1.r y.1.r))
  (hc:∀rs:List RV,rs.map RV.r=l->∀x∈rs,∀y∈rs,∀wx,RdV wx x.a x.r->RdV wx y.a y.r->Calls Tryz.prog g #[x.enc,y.enc] wx fun e w'=>e= .returned (.int .i64 (cf x.r y.r))/\Lay wx w')
  (hu:∀k:List Geo.aD,k.Perm l->k.Pairwise (fun a b=>¬cf b a<0)->k=m):zT Tryz.prog 68 (some l.length) [.fn (.func g) [] []] 23 1 (l.map fN) (m.map fN):=by
 have hfn:∀(C:cF) (vs:List Value),cG C [.fn (.func g) [] []] vs->vs=[.func (.func g) #[] #[]] :=by
  intro C vs h;unfold cG at h;obtain⟨v,r,rfl,h1,h2⟩:=h;unfold cG at h2;subst h2;unfold bI at h1;obtain⟨a,b,rfl,h3,h4⟩:=h1;unfold cG at h3 h4;subst h3;subst h4;rfl
 refine⟨by kernel_rfl,by simp[hlen],?_,?_⟩
 ·intro C w b c arr vs hC hL hnc hA;rw[hfn C vs hA];have hnc:=hnc _ rfl;obtain⟨h1,h2,h3⟩:=hL.row (by decide)
  obtain⟨rs,g1,g2,g3⟩:=Lc hC l arr.toList fun i x hi=>by
   obtain⟨v,k1,_,k2⟩:=hL.cells i x hi;exact⟨v,by simpa using k1,k2⟩
  have hrl:rs.length=l.length:=by rw[<-g1,List.length_map]
  have hr1:∀x∈rs,x.r.length<=1000:=fun x hx=>hl _ (by rw[<-g1];exact List.mem_map_of_mem hx)
  have hrow:w.ownsRow 0 23 1 (.slice (some ⟨b,0,none⟩) l.length c) rs.length (rs.map RV.enc):=
   ⟨by simp,.inr ⟨b,c,arr,by rw[hrl],Nat.zero_le _,hL.blk,by omega,h3,h1,by rw[Nat.mul_one,hrl,g2]⟩⟩
  refine(yN g hg cf 0 _ rs w (by omega) hrow ?_ (hO rs g1) (hc rs g1)).mono ?_
  ·intro x hx;refine⟨(g3 x hx).rd,fun ad _=>Nat.zero_le _,(g3 x hx).cap,hr1 x hx,fun h0 ad ha e=>(g3 x hx).sep h0 ad ha ?_⟩
   simp only[Value.ownBlock,Option.some.injEq]at e;exact e.symm
  ·rintro e w' ⟨rfl,rs',hp,hs,hrow',hok',hg⟩;have hso:rs'.map RV.r=m:=by
    refine hu _ (by rw[<-g1];exact hp.map _) ?_
    rw[List.pairwise_map];exact hs
   obtain⟨hz,hcase⟩:=hrow';rcases hcase with⟨e,_⟩|⟨gb,cap,cur,e,_,hblk,hnc',hcm,hsz,htk⟩
   ·cases e
   ·simp only[Value.slice.injEq,Option.some.injEq,Addr.mk.injEq,and_true]at e;obtain⟨rfl,e2,rfl⟩:=e;refine⟨cur,rfl,⟨hblk,fun h=>absurd h (by decide),fun _=>⟨hsz,by rw[List.length_map,hlen];omega,hcm⟩,?_⟩,hg⟩
    intro i x hi;rw[<-hso,List.map_map]at hi;rw[List.getElem?_map]at hi;cases hx:rs'[i]? with
    |none=>rw[hx]at hi;cases hi
    |some y=>
     rw[hx]at hi;simp only[Option.map_some,Option.some.injEq,Function.comp]at hi;subst hi;have hi':i<rs'.length:=(List.getElem?_eq_some_iff.1 hx).1;have hy:y∈rs:=hp.mem_iff.1 (List.mem_of_getElem? hx);have h7:(rs'.map RV.enc)[i]? =some y.enc:=by rw[List.getElem?_map,hx];rfl
     rw[<-htk,List.getElem?_take_of_lt (by omega)]at h7
     exact⟨y.enc,by simpa using h7,rfl,(g3 y hy).rep⟩
 ·intro h0 C w vs hC hA;rw[hfn C vs hA];have hl0:l=[] :=List.length_eq_zero_iff.1 (by simpa using h0)
  subst hl0;refine(yN g hg cf 0 (.slice none 0 0) [] w (by simp) ⟨by simp,.inl ⟨rfl,rfl⟩⟩ (by simp) (hO [] rfl) (hc [] rfl)).mono ?_
  rintro e w' ⟨rfl,rs',_,_,_,_,hg⟩;exact⟨rfl,Xf hg⟩
theorem aAp(a b:Geo.aD):Uu a b<0↔Geo.bX (Geo.nth a 0) (Geo.nth b 0)=true:=by
 unfold Uu;rw[Zt];exact Ak _ _
theorem aI5(args:Array Value)(w:World):(callFunc 127 args).run Tryz.prog w= .ok (.enter 127 args) w:=nM (by kernel_rfl) args w
theorem aD8{rs:List RV}:Sort.SWO (ltOf fun x y:{x:RV//x∈rs}=>Uu x.1.r y.1.r):=by
 have h:∀x y:{x:RV//x∈rs},ltOf (fun x y:{x:RV//x∈rs}=>Uu x.1.r y.1.r) x y=true↔Geo.bX (Geo.nth x.1.r 0) (Geo.nth y.1.r 0)=true:=by
  intro x y;unfold ltOf;rw[decide_eq_true_eq,aAp]
 refine⟨?_,?_,?_⟩
 ·intro x;rw[Bool.eq_false_iff,ne_eq,h,Lt];simp
 ·intro x y z h1 h2;rw[h]at*;revert h1 h2;unfold Geo.bX;grind
 ·intro x y z h1 h2;rw[Bool.eq_false_iff,ne_eq,h]at*;revert h1 h2;unfold Geo.bX;grind
theorem Wh(l:List Geo.aD)(hn:l.length<=1000000)(hl:∀r∈l,r.length<=1000):zT Tryz.prog 68 (some l.length) [.fn (.func 26) [] []] 23 1 (l.map fN) ((Geo.Dj l).map fN):=
 La 26 aNq Geo.cD l _ hn hl (Geo.oA l).length_eq (fun _ _=>Ug) (fun rs hr=>aJh fun x hx=>hl _ (by rw[<-hr];exact List.mem_map_of_mem hx))
  fun k hp hs=>Geo.Pg hp (hs.imp fun h=>Xr h)
theorem To(l:List Geo.aD)(hn:l.length<=1000000)(hl:∀r∈l,0<r.length/\r.length<=1000)(ha:∀a∈l,∀b∈l,Geo.leH a b->Geo.leH b a->a=b):zT Tryz.prog 68 (some l.length) [.fn (.func 127) [] []] 23 1 (l.map fN) ((Geo.zV l).map fN):=by
 have hm:∀rs:List RV,rs.map RV.r=l->∀x∈rs,x.r∈l:=fun rs hr x hx=>by rw[<-hr];exact List.mem_map_of_mem hx
 refine La 127 aI5 Uu l _ hn (fun r hr=>(hl r hr).2) (Geo.iR l).length_eq (fun _ _=>aD8) (fun rs hr x hx y hy wx h1 h2=> ?_) fun k hp hs=> ?_
 ·have g1:=hl _ (hm rs hr x hx);have g2:=hl _ (hm rs hr y hy);exact Xt x.a y.a x.c y.c x.r y.r wx h1 h2 g1.1 g2.1 g1.2 g2.2
 ·have hs:k.Pairwise Geo.leH:=hs.imp fun{a b} h=>by
   rw[aAp]at h;exact(Geo.gJ _ _).1 (by simpa using h)
  exact List.Perm.eq_of_pairwise (fun a b h1 h2 h3 h4=>ha a (hp.mem_iff.1 h1) b ((Geo.iR l).mem_iff.1 h2) h3 h4) hs (Geo.Ph l) (hp.trans (Geo.iR l).symm)
def d68:List SV->Option (List Geo.aD×Bool)
 |[.lst .R l,.fnp 26 [] []] =>some (l,true)
 |[.lst .R l,.fnp 127 [] []] =>some (l,false)
 |_=>none
def r68:List Geo.aD×Bool->List Geo.aD
 |(l,true)=>Geo.Dj l
 |(l,false)=>Geo.zV l
def p68:List Geo.aD×Bool->List Prop
 |(l,true)=>[l.length<=1000000,∀r∈l,r.length<=1000]
 |(l,false)=>[l.length<=1000000,∀r∈l,0<r.length/\r.length<=1000,∀a∈l,∀b∈l,Geo.leH a b->Geo.leH b a->a=b]
theorem aD5{l:List Geo.aD}{rest:List SV}{x:List Geo.aD×Bool}(h:d68 (.lst .R l::rest)=some x):(rest=[.fnp 26 [] []]/\x=(l,true))\/(rest=[.fnp 127 [] []]/\x=(l,false)):=by
 unfold d68 at h;split at h
 ·rename_i e;cases e;cases h;exact .inl ⟨rfl,rfl⟩
 ·rename_i e;cases e;cases h;exact .inr ⟨rfl,rfl⟩
 ·cases h
def c68:Con:=⟨List Geo.aD×Bool,d68,p68,.mutR .R 23 r68⟩
theorem k68:c68.Ok Tryz.prog 68:=by
 intro l rest x hd hp;rcases aD5 hd with⟨rfl,rfl⟩|⟨rfl,rfl⟩
 ·refine⟨[.fn (.func 26) [] []],rfl,?_⟩;rw[Dl];show zT _ _ _ _ _ _ _ (LT.R.enc (Geo.Dj l));rw[Dl];exact Wh l (hp _ List.mem_cons_self) (hp _ (List.mem_cons_of_mem _ List.mem_cons_self))
 ·refine⟨[.fn (.func 127) [] []],rfl,?_⟩;rw[Dl];show zT _ _ _ _ _ _ _ (LT.R.enc (Geo.zV l));rw[Dl];exact To l (hp _ List.mem_cons_self) (hp _ (List.mem_cons_of_mem _ List.mem_cons_self)) (hp _ (List.mem_cons_of_mem _ (List.mem_cons_of_mem _ List.mem_cons_self)))
noncomputable def t68:Tab:=cJ [(68,c68)] tS
theorem aKt:t68.Ok Tryz.prog:=aH tSo ⟨k68,trivial⟩
end Go.Proofs.YtdaeofhdgabhjaaGreat
namespace Go.Proofs.YtdaeofhdgabhjaaGreat
open Go.RowKit
set_option maxRecDepth 100000
noncomputable section
open Geo (aE nth aA)
theorem Cp{p:Geo.Pt}{w:Int}:∀{l:List Geo.aD} {k:Nat},k<l.length->(∀j,j<k->¬Geo.bH (aA l j) p=2/\¬Geo.bH (aA l j) p=1)->(Geo.bH (aA l k) p=2->0=Geo.kX p l w)/\(¬Geo.bH (aA l k) p=2->Geo.bH (aA l k) p=1->1=Geo.kX p l w)
 |[],k,h,_=>by simp at h
 |r::l,0,h,_=>by
  unfold Geo.kX;refine⟨fun e=> ?_,fun e1 e2=> ?_⟩
  ·rw[if_pos (show Geo.bH r p=2 from e)]
  ·rw[if_neg (show¬Geo.bH r p=2 from e1),if_pos (show Geo.bH r p=1 from e2)]
 |r::l,k+1,h,h1=>by
  unfold Geo.kX;obtain⟨e1,e2⟩:=h1 0 (by omega)
  rw[if_neg (show¬Geo.bH r p=2 from e1),if_neg (show¬Geo.bH r p=1 from e2)]
  exact Cp (l:=l) (k:=k) (by simpa using h) fun j hj=>h1 (j+1) (by omega)
theorem Iw{p:Geo.Pt}{w:Int}:∀{l:List Geo.aD},(∀j,j<l.length->¬Geo.bH (aA l j) p=2/\¬Geo.bH (aA l j) p=1)->w=Geo.kX p l w
 |[],_=>rfl
 |r::l,h1=>by
  unfold Geo.kX;obtain⟨e1,e2⟩:=h1 0 (by simp)
  rw[if_neg (show¬Geo.bH r p=2 from e1),if_neg (show¬Geo.bH r p=1 from e2)]
  exact Iw (l:=l) fun j hj=>h1 (j+1) (by simpa using hj)
def c66:Con:=con (ac aSh (a1 aT)) (fun(s,_)=>[Fit s]) (fun(s,p)=> .int .i64 (Geo.dG s p))
theorem k66:c66.Ok Tryz.prog 66:=aU (bL aKt) (raw:=bO) (fun(s,p)=>[cnt 7 21 s.holes.length (aW fun j=>¬Geo.bH (aA s.holes j) p=2/\¬Geo.bH (aA s.holes j) p=1)]
  ) (fun(_,_)=>⟨_,rfl⟩) fun(s,p) hp=>bM (q:=Fit s/\((!Geo.bV s)=true->0=Geo.dG s p)/\
 ((!Geo.bV s)=false->s.outer.length<=1000/\(¬Geo.bH s.outer p=2->Geo.bH s.outer p=Geo.dG s p)/\
  (¬(¬Geo.bH s.outer p=2)->(0=(0:Int)/\(0:Nat)<=s.holes.length/\aW (fun j=>¬Geo.bH (aA s.holes j) p=2/\¬Geo.bH (aA s.holes j) p=1) 0)/\
   (∀x:Nat,x<=s.holes.length/\aW (fun j=>¬Geo.bH (aA s.holes j) p=2/\¬Geo.bH (aA s.holes j) p=1) x->((x:Int)<s.holes.length->ix (x:Int) s.holes.length/\(aA s.holes x).length<=1000/\(Geo.bH (aA s.holes x) p=2->0=Geo.dG s p)/\
     (¬Geo.bH (aA s.holes x) p=2->(Geo.bH (aA s.holes x) p=1->1=Geo.dG s p)/\
      (¬Geo.bH (aA s.holes x) p=1->aG ((x:Int)+1)/\(x:Int)+1=((x+1:Nat):Int)/\x+1<=s.holes.length/\aW (fun j=>¬Geo.bH (aA s.holes j) p=2/\¬Geo.bH (aA s.holes j) p=1) (x+1)/\s.holes.length-(x+1)<s.holes.length-x)))/\
    (¬(x:Int)<s.holes.length->Geo.bH s.outer p=Geo.dG s p))))) (by kernel_rfl) (by
  change Fit s at hp;have w0:(!Geo.bV s)=true->0=Geo.dG s p:=fun h=>by unfold Geo.dG;rw[if_pos h]
  have w1:(!Geo.bV s)=false->¬Geo.bH s.outer p=2->Geo.bH s.outer p=Geo.dG s p:=fun h h2=>by unfold Geo.dG;rw[h];exact(if_pos h2).symm
  have w2:(!Geo.bV s)=false->¬¬Geo.bH s.outer p=2->Geo.dG s p=Geo.kX p s.holes 2:=fun h h2=>by unfold Geo.dG;rw[h];exact if_neg h2
  have hl:∀x:Nat,(x:Int)<s.holes.length->(aA s.holes x).length<=1000:=fun x h=>hp.2.2 _ (Geo.fD (by omega))
  have hn:=hp.2.1;have ho:=hp.1;have a2:∀x:Nat,(x:Int)<s.holes.length->aW (fun j=>¬Geo.bH (aA s.holes j) p=2/\¬Geo.bH (aA s.holes j) p=1) x->Geo.bH (aA s.holes x) p=2->0=Geo.kX p s.holes 2:=fun x h1 h2 h3=>(Cp (by omega) h2).1 h3
  have a1:∀x:Nat,(x:Int)<s.holes.length->aW (fun j=>¬Geo.bH (aA s.holes j) p=2/\¬Geo.bH (aA s.holes j) p=1) x->¬Geo.bH (aA s.holes x) p=2->Geo.bH (aA s.holes x) p=1->1=Geo.kX p s.holes 2:=fun x h1 h2 h3 h4=>(Cp (by omega) h2).2 h3 h4
  have a0:∀x:Nat,¬(x:Int)<s.holes.length->x<=s.holes.length->aW (fun j=>¬Geo.bH (aA s.holes j) p=2/\¬Geo.bH (aA s.holes j) p=1) x->2=Geo.kX p s.holes 2:=fun x h1 h2 h3=>by
   obtain rfl:x=s.holes.length:=by omega
   exact Iw h3
  have hf:=hp;clear hp
  repeat' first|with_reducible apply And.intro|with_reducible intro
  all_goals repeat with_reducible cases‹_/\aW _ _›
  all_goals first|assumption|rfl|omega|(unfold ix;omega)|(unfold aG;omega)|exact bC _|exact w0 ‹_› |exact w1 ‹_› ‹_› |exact hl _ ‹_› |(rw[w2 ‹_› ‹_›];exact a2 _ ‹_› ‹_› ‹_›)|(rw[w2 ‹_› ‹_›];exact a1 _ ‹_› ‹_› ‹_› ‹_›)|(rw[w2 ‹_› ‹_›,Decidable.of_not_not ‹¬¬Geo.bH s.outer p=2›];exact a0 _ ‹_› ‹_› ‹_›)|exact aC ‹_› ⟨‹_›,‹_›⟩)
def t66:Tab:=cJ [(66,c66)] t68
theorem aKv:t66.Ok Tryz.prog:=aH aKt ⟨k66,trivial⟩
def fW(s:Geo.Shape):Geo.Shape:=if Geo.bV s=true then Geo.cE s else⟨[],[]⟩
theorem Wz{s:Geo.Shape}(h:Geo.VS s):∀a∈s.holes.map Geo.cK,∀b∈s.holes.map Geo.cK,Geo.leH a b->Geo.leH b a->a=b:=by
 have hn:=h.nodup;unfold Geo.aR Geo.aJ at hn;rw[List.flatten_cons,List.nodup_append]at hn;have hn2:((s.holes.map Geo.cK).flatten).Nodup:=(Geo.rY s.holes).nodup_iff.2 hn.2.1;have hne:∀r∈s.holes.map Geo.cK,nth r 0∈r:=by
  intro r hr;obtain⟨q,hq,rfl⟩:=List.mem_map.1 hr;have h3:=(h.ring (show q∈Geo.aJ s by simp[Geo.aJ,hq])).three
  exact Geo.fL.2 ⟨0,by rw[Geo.dM];omega,rfl⟩
 intro a ha b hb h1 h2;have e:nth a 0=nth b 0:=Geo.vX h1 h2;exact Geo.lM _ hn2 a ha b hb (nth a 0) (hne a ha) (by rw[e];exact hne b hb)
theorem wT{s:Geo.Shape}(h:Geo.VS s):s.holes.map Geo.dC=s.holes.map Geo.cK:=List.map_congr_left fun r hr=>by
 unfold Geo.dC;rw[(Geo.cS r).2 (h.ring (by simp[Geo.aJ,hr]))];rfl
def c57:Con:=con (a1 aSh) (fun s=>[Fit s]) (fun s=>aSh.enc (fW s))
theorem k57:c57.Ok Tryz.prog 57:=aU (bL aKv) (raw:=bO) (fun s=>[(5,.mk Nat (fun F _=>rH F 17) [15] (fun k=>[k<=s.holes.length]) (fun k=>[(17,.int .i64 (k:Int))]) (fun k=>[(9,.box 26 [.lst .V (Geo.dC s.outer),.own 15 .R k]),(15,.row 23 .R ((s.holes.take k).map Geo.dC))]) (fun k=>s.holes.length-k) (fun _=>[]))]
  ) (fun _=>⟨_,rfl⟩) fun s hp=>bM (q:=Fit s/\((!Geo.bV s)=true->(fW s).outer=([] :List Geo.V)/\(fW s).holes=([] :List (List Geo.V)))/\
 ((!Geo.bV s)=false->s.outer.length<=1000/\(0=(0:Int)/\Geo.dC s.outer=Geo.dC s.outer/\(0:Nat)=0/\List.map Geo.dC (List.take 0 s.holes)=([] :List (List Geo.V))/\(0:Nat)<=s.holes.length)/\
  (∀x:Nat,x<=s.holes.length->((x:Int)<s.holes.length->ix (x:Int) s.holes.length/\(aA s.holes x).length<=1000/\x=(List.map Geo.dC (List.take x s.holes)).length/\(List.map Geo.dC (List.take x s.holes)).length+[Geo.dC (aA s.holes x)].length<=1000000/\aG ((x:Int)+1)/\(x:Int)+1=((x+1:Nat):Int)/\Geo.dC s.outer=Geo.dC s.outer/\(List.map Geo.dC (List.take x s.holes)++[Geo.dC (aA s.holes x)]).length=x+1/\List.map Geo.dC (List.take x s.holes)++[Geo.dC (aA s.holes x)] =List.map Geo.dC (List.take (x+1) s.holes)/\x+1<=s.holes.length/\s.holes.length-(x+1)<s.holes.length-x)/\
   (¬(x:Int)<s.holes.length->x=(List.map Geo.dC (List.take x s.holes)).length/\(List.map Geo.dC (List.take x s.holes)).length<=1000000/\(∀r:Geo.aD,r∈List.map Geo.dC (List.take x s.holes)->(0:Nat)<r.length/\r.length<=1000)/\(∀a:Geo.aD,a∈List.map Geo.dC (List.take x s.holes)->(∀b:Geo.aD,b∈List.map Geo.dC (List.take x s.holes)->Geo.leH a b->Geo.leH b a->a=b))/\x=(r68 (List.map Geo.dC (List.take x s.holes),false)).length/\Geo.dC s.outer=(fW s).outer/\r68 (List.map Geo.dC (List.take x s.holes),false)=(fW s).holes)))) (by kernel_rfl) (by
  change Fit s at hp;have c0:(!Geo.bV s)=true->fW s=⟨[],[]⟩:=fun h=>by unfold fW;rw[nb' h];rfl
  have c1:(!Geo.bV s)=false->fW s=Geo.cE s:=fun h=>by unfold fW;rw[nb h];rfl
  have V:(!Geo.bV s)=false->Geo.VS s:=fun h=>(Geo.fU s).1 (nb h)
  have hl:∀x:Nat,(x:Int)<s.holes.length->(aA s.holes x).length<=1000:=fun x h=>hp.2.2 _ (Geo.fD (by omega))
  have hn:=hp.2.1;have ho:=hp.1;have e1:∀x:Nat,x<=s.holes.length->(List.map Geo.dC (List.take x s.holes)).length=x:=fun x h=>by rw[List.length_map,List.length_take];omega
  have e2:∀x:Nat,(x:Int)<s.holes.length->List.map Geo.dC (List.take x s.holes)++[Geo.dC (aA s.holes x)] =List.map Geo.dC (List.take (x+1) s.holes):=fun x h=>by
   rw[List.take_succ_eq_append_getElem (by omega),List.map_append,gY (by omega)];rfl
  have e3:∀x:Nat,¬(x:Int)<s.holes.length->List.take x s.holes=s.holes:=fun x h=>List.take_of_length_le (by omega)
  have g1:(!Geo.bV s)=false->∀x:Nat,¬(x:Int)<s.holes.length->∀r∈List.map Geo.dC (List.take x s.holes),0<r.length/\r.length<=1000:=fun h x hx r hr=>by
   rw[e3 x hx,wT (V h)]at hr;obtain⟨q,hq,rfl⟩:=List.mem_map.1 hr;rw[Geo.dM];have h3:=((V h).ring (show q∈Geo.aJ s by simp[Geo.aJ,hq])).three
   have:=hp.2.2 q hq;omega
  have g2:(!Geo.bV s)=false->∀x:Nat,¬(x:Int)<s.holes.length->∀a∈List.map Geo.dC (List.take x s.holes),∀b∈List.map Geo.dC (List.take x s.holes),Geo.leH a b->Geo.leH b a->a=b:=fun h x hx=>by
   rw[e3 x hx,wT (V h)];exact Wz (V h)
  have g3:∀l,(r68 (l,false)).length=l.length:=fun l=>(Geo.iR l).length_eq
  have g4:(!Geo.bV s)=false->Geo.dC s.outer=(fW s).outer:=fun h=>by
   rw[c1 h];unfold Geo.dC;rw[(Geo.cS _).2 ((V h).ring (by simp[Geo.aJ]))];rfl
  have g5:(!Geo.bV s)=false->∀x:Nat,¬(x:Int)<s.holes.length->r68 (List.map Geo.dC (List.take x s.holes),false)=(fW s).holes:=fun h x hx=>by
   rw[e3 x hx,wT (V h),c1 h];rfl
  have hf:=hp;clear hp
  repeat' first|with_reducible apply And.intro|with_reducible intro
  all_goals first|assumption|rfl|omega|(unfold ix;omega)|(unfold aG;omega)|(rw[c0 ‹_›];done)|exact hl _ ‹_› |exact e2 _ ‹_› |exact(e1 _ ‹_›).symm|(rw[e1 _ ‹_›];simp;omega)|(rw[e1 _ ‹_›];omega)|(rw[List.length_append,e1 _ ‹_›];simp;done)|exact(g1 ‹_› _ ‹_› _ ‹_›).1|exact(g1 ‹_› _ ‹_› _ ‹_›).2|exact g2 ‹_› _ ‹_› _ ‹_› _ ‹_› ‹_› ‹_› |(rw[g3,e1 _ ‹_›];done)|exact g4 ‹_› |exact g5 ‹_› _ ‹_›)
def t57:Tab:=cJ [(57,c57)] t66
theorem aKD:t57.Ok Tryz.prog:=aH aKv ⟨k57,trivial⟩
def aMq:Con:=con (a1 aS) (fun s=>[bd 1000000000 s.a,bd 1000000000 s.b]) (fun s=>aT.enc (Geo.dR s))
theorem aOr:aMq.Ok Tryz.prog 183:=aU (bL aKD) (raw:=bO) (fun s=>[jb 3 26 (decide ((s.a.x+s.b.x).tmod 2=0)&&decide ((s.a.y+s.b.y).tmod 2=0))]
  ) (fun _=>⟨_,rfl⟩) fun s hp=>bM (q:=aG (s.a.x+s.b.x)/\aG (s.a.y+s.b.y)/\((2:Int)≠0/\(Int.tmod (s.a.x+s.b.x) 2=0->(2:Int)≠0/\decide (Int.tmod (s.a.y+s.b.y) 2=0)=(decide (Int.tmod (s.a.x+s.b.x) 2=0)&&decide (Int.tmod (s.a.y+s.b.y) 2=0)))/\
  (¬Int.tmod (s.a.x+s.b.x) 2=0->false=(decide (Int.tmod (s.a.x+s.b.x) 2=0)&&decide (Int.tmod (s.a.y+s.b.y) 2=0))))/\
 (∀y:Unit,((decide (Int.tmod (s.a.x+s.b.x) 2=0)&&decide (Int.tmod (s.a.y+s.b.y) 2=0))=true->(2:Int)≠0/\aG (Int.tdiv (s.a.x+s.b.x) 2)/\(2:Int)≠0/\aG (Int.tdiv (s.a.y+s.b.y) 2)/\Int.tdiv (s.a.x+s.b.x) 2=(Geo.dR s).x/\Int.tdiv (s.a.y+s.b.y) 2=(Geo.dR s).y/\1=(Geo.dR s).den)/\
  ((decide (Int.tmod (s.a.x+s.b.x) 2=0)&&decide (Int.tmod (s.a.y+s.b.y) 2=0))=false->s.a.x+s.b.x=(Geo.dR s).x/\s.a.y+s.b.y=(Geo.dR s).y/\2=(Geo.dR s).den))) (by kernel_rfl) (by
  change bd 1000000000 s.a/\bd 1000000000 s.b at hp;unfold bd at hp;have k1:aG (s.a.x+s.b.x):=dY (by omega)
  have k2:aG (s.a.y+s.b.y):=dY (by omega)
  have q1:=qJ (x:=s.a.x+s.b.x) (g:=2) (B:=4000000000) (by omega)
  have q2:=qJ (x:=s.a.y+s.b.y) (g:=2) (B:=4000000000) (by omega)
  have k3:aG (Int.tdiv (s.a.x+s.b.x) 2):=dY (by omega)
  have k4:aG (Int.tdiv (s.a.y+s.b.y) 2):=dY (by omega)
  have m1:(decide (Int.tmod (s.a.x+s.b.x) 2=0)&&decide (Int.tmod (s.a.y+s.b.y) 2=0))=true->Geo.dR s=⟨(s.a.x+s.b.x).tdiv 2,(s.a.y+s.b.y).tdiv 2,1⟩:=fun h=>by
   simp only[Bool.and_eq_true,decide_eq_true_eq]at h;exact if_pos h
  have m2:(decide (Int.tmod (s.a.x+s.b.x) 2=0)&&decide (Int.tmod (s.a.y+s.b.y) 2=0))=false->Geo.dR s=⟨s.a.x+s.b.x,s.a.y+s.b.y,2⟩:=fun h=>if_neg fun h2=>by
   rw[decide_eq_true h2.1,decide_eq_true h2.2]at h;cases h
  clear hp q1 q2;refine⟨k1,k2,⟨by decide,fun h=>⟨by decide,by rw[decide_eq_true h];rfl⟩,fun h=>by rw[decide_eq_false h];rfl⟩,fun _=>⟨fun h=>⟨by decide,k3,by decide,k4,?_⟩,fun h=> ?_⟩⟩
  ·rw[m1 h];exact⟨rfl,rfl,rfl⟩
  ·rw[m2 h];exact⟨rfl,rfl,rfl⟩)
def aK8:Tab:=cJ [(183,aMq)] t57
theorem aHq:aK8.Ok Tryz.prog:=aH aKD ⟨aOr,trivial⟩
def aMX:Con:=con (ac aS (a1 aS)) (fun(_,_)=>[]) (fun(s,t)=> .bool (Geo.cN s t)
 )
theorem aOY:aMX.Ok Tryz.prog 134:=aU (bL aHq) (raw:=bO) (fun(_,_)=>[]) (fun(_,_)=>⟨_,rfl⟩) fun(s,t) _=>bM (q:=(Geo.cR s t=0->true=Geo.cN s t)/\
 (¬Geo.cR s t=0->(Geo.cR s t=1->(s.a=t.a->true=Geo.cN s t)/\
   (¬s.a=t.a->(s.a=t.b->true=Geo.cN s t)/\
    (¬s.a=t.b->(s.b=t.a->true=Geo.cN s t)/\
     (¬s.b=t.a->decide (s.b=t.b)=Geo.cN s t))))/\
  (¬Geo.cR s t=1->false=Geo.cN s t))) (by kernel_rfl) (by
  have hd:∀a b:Geo.V,(a==b)=decide (a=b):=fun a b=>by rw[Bool.eq_iff_iff];simp
  unfold Geo.cN Geo.Bw;simp only[hd]
  repeat' first|with_reducible apply And.intro|with_reducible intro
  all_goals repeat with_reducible cases‹_/\_›
  all_goals simp[*])
def aLJ:Tab:=cJ [(134,aMX)] aK8
theorem aHY:aLJ.Ok Tryz.prog:=aH aHq ⟨aOY,trivial⟩
def aPS:Ar Geo.S where
 enc s:= .pro [.int .i64 s.a.x,.int .i64 s.a.y,.int .i64 s.b.x,.int .i64 s.b.y] 0
 dec s:=match s with
  | .pro [.int .i64 x,.int .i64 y,.int .i64 z,.int .i64 w] 0=>some ⟨⟨x,y⟩,⟨z,w⟩⟩
  |_=>none
 ok s a h:=by(split at h<;>cases h;rfl)
 pl _:=⟨_,rfl⟩
def aIv:Ar (Geo.S×Unit):=aCl 133 (ac aPS a0)
def aMY:Con:=con (ac aS (a1 aPS)) (fun(_,_)=>[]) (fun(d,c)=> .bool (!Geo.cN c d)
 )
theorem aOZ:aMY.Ok Tryz.prog 133:=aU (bL aHY) (raw:=bO) (fun(_,_)=>[]) (fun(_,_)=>⟨_,rfl⟩) fun(d,c) _=>bM (q:=(!Geo.cN c d)=(!Geo.cN c d)) (by kernel_rfl) (by
 rfl)
def aLK:Tab:=cJ [(133,aMY)] aLJ
theorem aHZ:aLK.Ok Tryz.prog:=aH aHY ⟨aOZ,trivial⟩
def aMr:Con:=con (ac (aL .S) (a1 aIv)) (fun(l,_)=>[l.length<=1000000]) (fun(l,c)=> .int .i64 (fI (fun d=> !Geo.cN c.1 d) l))
theorem aOs:aMr.Ok Tryz.prog 182:=aU (bL aHZ) (raw:=bO) (fun(l,c)=>[cnt 2 8 l.length (aW fun j=>(!Geo.cN c.1 (aX l j))=false)]
  ) (fun(_,_)=>⟨_,rfl⟩) fun(l,c) hp=>bM (q:=(0=(0:Int)/\(0:Nat)<=l.length/\aW (fun j=>(!Geo.cN c.1 (aX l j))=false) 0)/\
 (∀x:Nat,x<=l.length/\aW (fun j=>(!Geo.cN c.1 (aX l j))=false) x->((x:Int)<l.length->ix (x:Int) l.length/\((!Geo.cN c.1 (aX l x))=true->(x:Int)=fI (fun d=>(!Geo.cN c.1 d)) l)/\
   ((!Geo.cN c.1 (aX l x))=false->aG ((x:Int)+1)/\(x:Int)+1=((x+1:Nat):Int)/\x+1<=l.length/\aW (fun j=>(!Geo.cN c.1 (aX l j))=false) (x+1)/\l.length-(x+1)<l.length-x))/\
  (¬(x:Int)<l.length-> -1=fI (fun d=>(!Geo.cN c.1 d)) l))) (by kernel_rfl) (by
  change l.length<=1000000 at hp
  repeat' first|with_reducible apply And.intro|with_reducible intro
  all_goals repeat with_reducible cases‹_/\_›
  all_goals first|assumption|rfl|exact trivial|exact nb ‹_› |exact nb' ‹_› |omega|exact cV (by omega)|(unfold ix;omega)|(unfold aG;omega)|exact bC _|exact aC ‹_› ‹_› |(refine aC ‹_› ?_;simp_all;done)|exact Dk (t:= .S) (by omega) ‹_› ‹_› |(obtain rfl:_=l.length:=Nat.le_antisymm ‹_› (by omega);exact yZ (t:= .S) ‹_›)|grind)
def aK9:Tab:=cJ [(182,aMr)] aLK
theorem aHr:aK9.Ok Tryz.prog:=aH aHZ ⟨aOs,trivial⟩
def aMZ:Con:=con (ac (aL .S) (a1 aIv)) (fun(l,_)=>[l.length<=1000000]) (fun(l,c)=> .bool (l.any fun d=> !Geo.cN c.1 d)
 )
theorem aO0:aMZ.Ok Tryz.prog 132:=aU (bL aHr) (raw:=bO) (fun(_,_)=>[]) (fun(_,_)=>⟨_,rfl⟩) fun(l,c) hp=>bM (q:=l.length<=1000000/\decide (0<=fI (fun d=>(!Geo.cN c.1 d)) l)=List.any l (fun d=>(!Geo.cN c.1 d))) (by kernel_rfl) (by
 change l.length<=1000000 at hp;exact⟨hp,By _ _⟩)
def aLL:Tab:=cJ [(132,aMZ)] aK9
theorem aH0:aLL.Ok Tryz.prog:=aH aHr ⟨aO0,trivial⟩
def aMW:Con:=con (ac aSh (ac (aL .S) (a1 aS))) (fun(s,l,c)=>[Fit s,l.length<=1000000,bd 1000000000 c.a,bd 1000000000 c.b]) (fun(s,l,c)=> .bool ((l.all fun e=>Geo.cN e c)&&Geo.dG s (Geo.dR c)==2))
theorem aOX:aMW.Ok Tryz.prog 135:=aU (bL aH0) (raw:=bO) (fun(_,l,c)=>[cnt 2 11 l.length (aW fun j=>Geo.cN (aX l j) c=true)]
  ) (fun(_,_,_)=>⟨_,rfl⟩) fun(s,l,c) hp=>bM (q:=(0=(0:Int)/\(0:Nat)<=l.length/\aW (fun j=>Geo.cN (aX l j) c=true) 0)/\
 (∀x:Nat,x<=l.length/\aW (fun j=>Geo.cN (aX l j) c=true) x->((x:Int)<l.length->ix (x:Int) l.length/\((!Geo.cN (aX l x) c)=true->false=(List.all l (fun e=>Geo.cN e c)&&Geo.dG s (Geo.dR c)==2))/\
   ((!Geo.cN (aX l x) c)=false->aG ((x:Int)+1)/\(x:Int)+1=((x+1:Nat):Int)/\x+1<=l.length/\aW (fun j=>Geo.cN (aX l j) c=true) (x+1)/\l.length-(x+1)<l.length-x))/\
  (¬(x:Int)<l.length->bd 1000000000 c.a/\bd 1000000000 c.b/\Fit s/\decide (Geo.dG s (Geo.dR c)=2)=(List.all l (fun e=>Geo.cN e c)&&Geo.dG s (Geo.dR c)==2)))) (by kernel_rfl) (by
  change Fit s/\l.length<=1000000/\bd 1000000000 c.a/\bd 1000000000 c.b at hp;have n1:∀x:Nat,(x:Int)<l.length->(!Geo.cN (aX l x) c)=true->false=(List.all l (fun e=>Geo.cN e c)&&Geo.dG s (Geo.dR c)==2):=fun x h1 h2=>by
   rw[Nq (t:= .S) (l:=l) (q:=fun e=>Geo.cN e c) (j:=x) (by omega) (nb' h2)];rfl
  have n2:∀x:Nat,¬(x:Int)<l.length->x<=l.length->aW (fun j=>Geo.cN (aX l j) c=true) x->decide (Geo.dG s (Geo.dR c)=2)=(List.all l (fun e=>Geo.cN e c)&&Geo.dG s (Geo.dR c)==2):=fun x h1 h2 h3=>by
   obtain rfl:x=l.length:=by omega
   rw[Fp (t:= .S) (l:=l) (q:=fun e=>Geo.cN e c) h3,Bool.true_and,Bool.eq_iff_iff];simp
  obtain⟨hf,hll,hb1,hb2⟩:=hp
  repeat' first|with_reducible apply And.intro|with_reducible intro
  all_goals repeat with_reducible cases‹_/\aW _ _›
  all_goals first|assumption|rfl|omega|(unfold ix;omega)|(unfold aG;omega)|exact bC _|exact n1 _ ‹_› ‹_› |exact n2 _ ‹_› ‹_› ‹_› |exact aC ‹_› (nb ‹_›))
def aLI:Tab:=cJ [(135,aMW)] aLL
theorem aHX:aLI.Ok Tryz.prog:=aH aH0 ⟨aOX,trivial⟩
def pK(s:Geo.Shape)(v:List Geo.V)(i k:Nat):List (Nat×Nat):=Geo.rowP s v (Geo.dB s v i) i (k-(i+1))
def tkB(s:Geo.Shape)(v:List Geo.V)(i k:Nat):Bool:= !((pK s v i k).any fun d=> !(Geo.cN ⟨nth v i,nth v k⟩ (Geo.fB v d)))&&Geo.fY s ⟨nth v i,nth v k⟩
section
variable {s:Geo.Shape} {v:List Geo.V} {i k:Nat}
theorem aFB:pK s v i (i+1)=Geo.dB s v i:=by unfold pK;rw[Nat.sub_self];rfl
theorem Zr(h:i<k):pK s v i (k+1)=if tkB s v i k=true then pK s v i k++[(i,k)]else pK s v i k:=by
 unfold tkB pK;rw[show k+1-(i+1)=(k-(i+1))+1 by omega]
 show Geo.zU s v _ i (i+1+(k-(i+1)))=_;rw[show i+1+(k-(i+1))=k by omega];rfl
theorem aJb(h:¬(k:Int)<v.length)(h2:k<=v.length):pK s v i k=Geo.dB s v (i+1):=by
 obtain rfl:k=v.length:=by omega
 rfl
theorem Gt(acc:List (Nat×Nat)):∀m,(Geo.rowP s v acc i m).length<=acc.length+m
 |0=>Nat.le_refl _
 |m+1=>by
  have:=Gt acc m;unfold Geo.rowP Geo.zU;split
  ·rw[List.length_append];simp only[List.length_cons,List.length_nil];omega
  ·omega
theorem rQ:∀i,(Geo.dB s v i).length<=i*v.length
 |0=>by simp[Geo.dB]
 |i+1=>by
  have h1:=rQ i;have h2:=Gt (s:=s) (v:=v) (i:=i) (Geo.dB s v i) (v.length-(i+1));unfold Geo.dB;rw[Nat.add_mul];omega
theorem aJa(hv:v.length<=900)(hi:i<=v.length)(hk:k<=v.length):(pK s v i k).length<=820000:=by
 have h1:=rQ (s:=s) (v:=v) i;have h2:=Gt (s:=s) (v:=v) (i:=i) (Geo.dB s v i) (k-(i+1));have h3:i*v.length<=900*900:=Nat.mul_le_mul (by omega) hv
 unfold pK;omega
end
def c60:Con:=con (ac aSh (a1 (aL .V))) (fun(s,v)=>[Fit s,v.length<=900,(∀x∈v,bd 1000000000 x),(aE s).length<=1000000]) (fun(s,v)=> .lst .P (Geo.dD s v))
set_option maxHeartbeats 1000000 in
theorem k60:c60.Ok Tryz.prog 60:=aU (bL aHX) (raw:=bO) (fun(s,v)=>[(5,.mk Nat (fun F _=>rH F 16) [10,11] (fun i=>[i<=v.length]) (fun i=>[(16,.int .i64 (i:Int)),(6,.own 10 .P (Geo.dB s v i).length),(7,.own 11 .S (Geo.dB s v i).length)]) (fun i=>[(10,.row 67 .P (Geo.dB s v i)),(11,.row 46 .S ((Geo.dB s v i).map (Geo.fB v)))]) (fun i=>v.length-i) fun i=>
  [(8,.mk Nat (fun F _=>rH F 9) [10,11] (fun k=>[i<k,k<=v.length]) (fun k=>[(9,.int .i64 (k:Int)),(6,.own 10 .P (pK s v i k).length),(7,.own 11 .S (pK s v i k).length)]) (fun k=>[(10,.row 67 .P (pK s v i k)),(11,.row 46 .S ((pK s v i k).map (Geo.fB v)))]) (fun k=>v.length-k) fun k=>[jb 13 46 (tkB s v i k)])])]
  ) (fun(_,_)=>⟨_,rfl⟩) fun(s,v) hp=>bM (q:=Fit s/\(0=(0:Int)/\(Geo.dB s v 0).length=0/\(Geo.dB s v 0).length=0/\Geo.dB s v 0=([] :List (Prod Nat Nat))/\List.map (Geo.fB v) (Geo.dB s v 0)=([] :List Geo.S)/\(0:Nat)<=v.length)/\
 (∀x:Nat,x<=v.length->((x:Int)<v.length->aG ((x:Int)+1)/\((x:Int)+1=((x+1:Nat):Int)/\(Geo.dB s v x).length=(pK s v x (x+1)).length/\(Geo.dB s v x).length=(pK s v x (x+1)).length/\Geo.dB s v x=pK s v x (x+1)/\List.map (Geo.fB v) (Geo.dB s v x)=List.map (Geo.fB v) (pK s v x (x+1))/\x<x+1/\x+1<=v.length)/\
   (∀x_1:Nat,x<x_1/\x_1<=v.length->((x_1:Int)<v.length->ix (x:Int) v.length/\ix (x_1:Int) v.length/\(pK s v x x_1).length=(List.map (Geo.fB v) (pK s v x x_1)).length/\(List.map (Geo.fB v) (pK s v x x_1)).length<=1000000/\(((!List.any (List.map (Geo.fB v) (pK s v x x_1)) (fun d=>(!Geo.cN (⟨(nth v x),(nth v x_1)⟩:Geo.S) d)))=true->Fit s/\(aE s).length<=1000000/\bd 1000000000 (⟨(nth v x),(nth v x_1)⟩:Geo.S).a/\bd 1000000000 (⟨(nth v x),(nth v x_1)⟩:Geo.S).b/\(List.all (aE s) (fun e=>Geo.cN e (⟨(nth v x),(nth v x_1)⟩:Geo.S))&&Geo.dG s (Geo.dR (⟨(nth v x),(nth v x_1)⟩:Geo.S))==2)=tkB s v x x_1)/\
      ((!List.any (List.map (Geo.fB v) (pK s v x x_1)) (fun d=>(!Geo.cN (⟨(nth v x),(nth v x_1)⟩:Geo.S) d)))=false->false=tkB s v x x_1))/\
     (∀y:Unit,(tkB s v x x_1=true->(pK s v x x_1).length=(List.map (Geo.fB v) (pK s v x x_1)).length/\(List.map (Geo.fB v) (pK s v x x_1)).length+[(⟨(nth v x),(nth v x_1)⟩:Geo.S)].length<=1000000/\(pK s v x x_1).length=(pK s v x x_1).length/\(pK s v x x_1).length+[(x,x_1)].length<=1000000/\aG ((x_1:Int)+1)/\(x_1:Int)+1=((x_1+1:Nat):Int)/\(pK s v x x_1++[(x,x_1)]).length=(pK s v x (x_1+1)).length/\(List.map (Geo.fB v) (pK s v x x_1)++[(⟨(nth v x),(nth v x_1)⟩:Geo.S)]).length=(pK s v x (x_1+1)).length/\pK s v x x_1++[(x,x_1)] =pK s v x (x_1+1)/\List.map (Geo.fB v) (pK s v x x_1)++[(⟨(nth v x),(nth v x_1)⟩:Geo.S)] =List.map (Geo.fB v) (pK s v x (x_1+1))/\x<x_1+1/\x_1+1<=v.length/\v.length-(x_1+1)<v.length-x_1)/\
      (tkB s v x x_1=false->aG ((x_1:Int)+1)/\(x_1:Int)+1=((x_1+1:Nat):Int)/\(pK s v x x_1).length=(pK s v x (x_1+1)).length/\(pK s v x x_1).length=(pK s v x (x_1+1)).length/\pK s v x x_1=pK s v x (x_1+1)/\List.map (Geo.fB v) (pK s v x x_1)=List.map (Geo.fB v) (pK s v x (x_1+1))/\x<x_1+1/\x_1+1<=v.length/\v.length-(x_1+1)<v.length-x_1)))/\
    (¬(x_1:Int)<v.length->aG ((x:Int)+1)/\(x:Int)+1=((x+1:Nat):Int)/\(pK s v x x_1).length=(Geo.dB s v (x+1)).length/\(pK s v x x_1).length=(Geo.dB s v (x+1)).length/\pK s v x x_1=Geo.dB s v (x+1)/\List.map (Geo.fB v) (pK s v x x_1)=List.map (Geo.fB v) (Geo.dB s v (x+1))/\x+1<=v.length/\v.length-(x+1)<v.length-x)))/\
  (¬(x:Int)<v.length->(Geo.dB s v x).length=(Geo.dB s v x).length/\Geo.dB s v x=Geo.dD s v))) (by kernel_rfl) (by
  change Fit s/\v.length<=900/\((∀x∈v,bd 1000000000 x))/\(aE s).length<=1000000 at hp;obtain⟨hf,hv,hb,he⟩:=hp;have hb:∀x:Nat,(x:Int)<v.length->bd 1000000000 (nth v x):=fun x h=>hb _ (Geo.fK (by omega))
  have hL:∀i k:Nat,(i:Int)<v.length->k<=v.length->(pK s v i k).length<=820000:=fun i k h1 h2=>aJa hv (by omega) h2
  have z:=fun i=> @aFB s v i
  have sY:∀i k:Nat,i<k->tkB s v i k=true->pK s v i k++[(i,k)] =pK s v i (k+1):=fun i k h h2=>by rw[Zr h,if_pos h2]
  have sN:∀i k:Nat,i<k->tkB s v i k=false->pK s v i k=pK s v i (k+1):=fun i k h h2=>by rw[Zr h,if_neg (by rw[h2];simp)]
  have sM:∀i k:Nat,i<k->tkB s v i k=true->(pK s v i k).map (Geo.fB v)++[⟨nth v i,nth v k⟩] =(pK s v i (k+1)).map (Geo.fB v):=fun i k h h2=>by rw[<-sY i k h h2,List.map_append];rfl
  have pE:=fun(i k:Nat) (h:¬(k:Int)<v.length) (h2:k<=v.length)=> @aJb s v i k h h2
  have uE:∀i:Nat,¬(i:Int)<v.length->i<=v.length->Geo.dB s v i=Geo.dD s v:=fun i h1 h2=>by rw[show i=v.length by omega];rfl
  have tA:∀i k:Nat,(List.map (Geo.fB v) (pK s v i k)).any (fun d=> !Geo.cN ⟨nth v i,nth v k⟩ d)=(pK s v i k).any (fun d=> !Geo.cN ⟨nth v i,nth v k⟩ (Geo.fB v d)):=fun i k=>by rw[List.any_map];rfl
  have tY:∀i k:Nat,(!(List.map (Geo.fB v) (pK s v i k)).any (fun d=> !Geo.cN ⟨nth v i,nth v k⟩ d))=true->((aE s).all (fun e=>Geo.cN e ⟨nth v i,nth v k⟩)&&Geo.dG s (Geo.dR ⟨nth v i,nth v k⟩)==2)=tkB s v i k:=fun i k h=>by
   unfold tkB;rw[<-tA,h];rfl
  have tN:∀i k:Nat,(!(List.map (Geo.fB v) (pK s v i k)).any (fun d=> !Geo.cN ⟨nth v i,nth v k⟩ d))=false->false=tkB s v i k:=fun i k h=>by
   unfold tkB;rw[<-tA,h];rfl
  repeat' first|with_reducible apply And.intro|with_reducible intro
  all_goals repeat with_reducible cases‹_<_/\_›
  all_goals first|assumption|rfl|omega|(unfold ix;omega)|(unfold aG;omega)|exact hb _ ‹_› |exact tY _ _ ‹_› |exact tN _ _ ‹_› |(rw[z];done)|(rw[List.length_map];done)|(rw[List.length_map];exact Nat.le_trans (hL _ _ ‹_› ‹_›) (by decide))|(rw[List.length_map];exact Nat.le_trans (Nat.add_le_add_right (hL _ _ ‹_› ‹_›) 1) (by decide))|exact Nat.le_trans (Nat.add_le_add_right (hL _ _ ‹_› ‹_›) 1) (by decide)|exact sY _ _ ‹_› ‹_› |exact sM _ _ ‹_› ‹_› |exact sN _ _ ‹_› ‹_› |exact congrArg List.length (sN _ _ ‹_› ‹_›)|exact congrArg (List.map (Geo.fB v)) (sN _ _ ‹_› ‹_›)|exact congrArg List.length (sY _ _ ‹_› ‹_›)|(rw[sM _ _ ‹_› ‹_›,List.length_map];done)|exact pE _ _ ‹_› ‹_› |exact congrArg List.length (pE _ _ ‹_› ‹_›)|exact congrArg (List.map (Geo.fB v)) (pE _ _ ‹_› ‹_›)|exact uE _ ‹_› ‹_›)
def t60:Tab:=cJ [(60,c60)] aLI
theorem aKA:t60.Ok Tryz.prog:=aH aHX ⟨k60,trivial⟩
end
end Go.Proofs.YtdaeofhdgabhjaaGreat
namespace Go.Proofs.YtdaeofhdgabhjaaGreat
open Go.RowKit
set_option maxRecDepth 100000
noncomputable section
open Geo (aE nth aA)
theorem Gs{s:Geo.Shape}{v:List Geo.V}{acc:List (Nat×Nat)}{i:Nat}:∀{m:Nat} {p:Nat×Nat},p∈Geo.rowP s v acc i m->p∈acc\/(p.1=i/\i<p.2/\p.2<i+1+m)
 |0,p,h=> .inl h
 |m+1,p,h=>by
  unfold Geo.rowP Geo.zU at h;split at h
  ·rcases List.mem_append.1 h with h|h
   ·rcases Gs h with h|⟨h1,h2,h3⟩
    ·exact .inl h
    ·exact .inr ⟨h1,h2,by omega⟩
   ·simp at h;subst h;exact .inr ⟨rfl,by show i<i+1+m;omega,by show i+1+m<_;omega⟩
  ·rcases Gs h with h|⟨h1,h2,h3⟩
   ·exact .inl h
   ·exact .inr ⟨h1,h2,by omega⟩
theorem Eb{s:Geo.Shape}{v:List Geo.V}:∀{i:Nat} {p:Nat×Nat},i<=v.length->p∈Geo.dB s v i->p.1<p.2/\p.2<v.length
 |0,p,_,h=>by simp[Geo.dB]at h
 |i+1,p,hi,h=>by
  unfold Geo.dB at h;rcases Gs h with h|⟨h1,h2,h3⟩
  ·exact Eb (by omega) h
  ·omega
theorem Ih{s:Geo.Shape}{v:List Geo.V}{p:Nat×Nat}(h:p∈Geo.dD s v):p.1<p.2/\p.2<v.length:=Eb (Nat.le_refl _) h
theorem Ue(r:Geo.aD):(Geo.edges r).length<=r.length:=by
 unfold Geo.edges;split<;>simp
theorem tX:∀l:List Geo.aD,(l.flatMap Geo.edges).length<=(l.map List.length).sum
 |[] =>by simp
 |r::l=>by
  have:=tX l;have:=Ue r;rw[List.flatMap_cons,List.length_append,List.map_cons,List.sum_cons];omega
theorem rO{s:Geo.Shape}(h:Geo.VS s):(aE s).length<=80:=by
 have h1:=tX (Geo.aJ s);have h2:=h.corners;unfold Geo.dO at h2;unfold aE;omega
theorem Xu{s:Geo.Shape}(h:Geo.VS s){r:Geo.aD}(hr:r∈(Geo.cE s).holes):3<=r.length/\r.length<=40:=by
 unfold Geo.cE at hr;have hr:=(Geo.iR _).subset hr;obtain⟨q,hq,rfl⟩:=List.mem_map.1 hr;have hv:=h.ring (r:=q) (by unfold Geo.aJ;exact List.mem_cons_of_mem _ hq)
 rw[Geo.dM];exact⟨hv.three,hv.most⟩
theorem Dd{s:Geo.Shape}(V:Geo.VS s):0<(Geo.cE s).outer.length/\∀r∈(Geo.cE s).holes,0<r.length:=
 ⟨by have h:=V.outer.three;show 0<(Geo.cK s.outer).length;rw[Geo.dM];omega,fun r hr=>by have:=Xu V hr;omega⟩
def c17:Con:=con (a1 aSh) (fun s=>[Fit s]) (fun s=> .tup [.lst .V (vOf s),.int .i64 (eOf s)])
theorem k17:c17.Ok Tryz.prog 17:=aU (bL aKA) (raw:=bO) (fun s=>[(5,.mk Nat (fun F _=>rH F 14) [12] (fun k=>[k<=(Geo.aJ (fW s)).length]) (fun k=>[(14,.int .i64 (k:Int)),(4,.own 12 .V ((Geo.aJ (fW s)).take k).flatten.length)]) (fun k=>[(12,.row 44 .V ((Geo.aJ (fW s)).take k).flatten)]) (fun k=>(Geo.aJ (fW s)).length-k) (fun _=>[]))]
  ) (fun _=>⟨_,rfl⟩) fun s hp=>bM (q:=Fit s/\((!Geo.bV s)=true->vOf s=([] :List Geo.V)/\11=eOf s)/\
 ((!Geo.bV s)=false->Fit s/\Fit (fW s)/\(0:Nat)<(fW s).outer.length/\(∀r:Geo.aD,r∈(fW s).holes->(0:Nat)<r.length)/\(0=(0:Int)/\(List.flatten (List.take 0 (Geo.aJ (fW s)))).length=0/\List.flatten (List.take 0 (Geo.aJ (fW s)))=([] :List Geo.V)/\(0:Nat)<=(Geo.aJ (fW s)).length)/\
  (∀x:Nat,x<=(Geo.aJ (fW s)).length->((x:Int)<(Geo.aJ (fW s)).length->ix (x:Int) (Geo.aJ (fW s)).length/\(List.flatten (List.take x (Geo.aJ (fW s)))).length=(List.flatten (List.take x (Geo.aJ (fW s)))).length/\(List.flatten (List.take x (Geo.aJ (fW s)))).length+(aA (Geo.aJ (fW s)) x).length<=1000000/\aG ((x:Int)+1)/\(x:Int)+1=((x+1:Nat):Int)/\(List.flatten (List.take x (Geo.aJ (fW s)))++aA (Geo.aJ (fW s)) x).length=(List.flatten (List.take (x+1) (Geo.aJ (fW s)))).length/\List.flatten (List.take x (Geo.aJ (fW s)))++aA (Geo.aJ (fW s)) x=List.flatten (List.take (x+1) (Geo.aJ (fW s)))/\x+1<=(Geo.aJ (fW s)).length/\(Geo.aJ (fW s)).length-(x+1)<(Geo.aJ (fW s)).length-x)/\
   (¬(x:Int)<(Geo.aJ (fW s)).length->(List.flatten (List.take x (Geo.aJ (fW s)))).length=(List.flatten (List.take x (Geo.aJ (fW s)))).length/\List.flatten (List.take x (Geo.aJ (fW s)))=vOf s/\0=eOf s)))) (by kernel_rfl) (by
  change Fit s at hp;have hq:=Geo.lW s;have v0:(!Geo.bV s)=true->vOf s=[] :=fun h=>by unfold vOf;rw[<-hq,nb' h];rfl
  have v1:(!Geo.bV s)=true->11=eOf s:=fun h=>by unfold eOf;rw[<-hq,nb' h];rfl
  have v2:(!Geo.bV s)=false->0=eOf s:=fun h=>by unfold eOf;rw[<-hq,nb h];rfl
  have c1:(!Geo.bV s)=false->fW s=Geo.cE s:=fun h=>by unfold fW;rw[nb h];rfl
  have V:(!Geo.bV s)=false->Geo.VS s:=fun h=>(Geo.fU s).1 (nb h)
  have f1:(!Geo.bV s)=false->Fit (fW s):=fun h=>by rw[c1 h];exact Cs hp
  have f2:(!Geo.bV s)=false->0<(fW s).outer.length:=fun h=>by rw[c1 h];exact(Dd (V h)).1
  have f3:(!Geo.bV s)=false->∀r∈(fW s).holes,0<r.length:=fun h=>by rw[c1 h];exact(Dd (V h)).2
  have f4:(!Geo.bV s)=false->(Geo.aJ (fW s)).flatten.length<=80:=fun h=>by rw[c1 h];exact Gm (V h)
  have f5:(!Geo.bV s)=false->(Geo.aJ (fW s)).flatten=vOf s:=fun h=>by rw[c1 h];unfold vOf;rw[<-hq,nb h];rfl
  have f6:(!Geo.bV s)=false->(Geo.aJ (fW s)).length<=1000:=fun h=>by have:=(f1 h).2.1;unfold Geo.aJ;rw[List.length_cons];omega
  generalize Geo.aJ (fW s)=L at f4 f5 f6|-;have e1:∀x:Nat,(x:Int)<L.length->(L.take x).flatten++aA L x=(L.take (x+1)).flatten:=fun x h=>by
   rw[List.take_succ_eq_append_getElem (by omega),List.flatten_append,List.flatten_singleton,gY (by omega)]
  have e2:∀x:Nat,(L.take x).flatten.length<=L.flatten.length:=fun x=>by
   conv=>rhs;rw[<-List.take_append_drop x L,List.flatten_append,List.length_append]
   omega
  have e4:(!Geo.bV s)=false->∀x:Nat,(x:Int)<L.length->(L.take x).flatten.length+(aA L x).length<=1000000:=fun h x hx=>by
   have h1:=e2 (x+1);rw[<-e1 x hx,List.length_append]at h1;have:=f4 h;omega
  have e5:(!Geo.bV s)=false->∀x:Nat,¬(x:Int)<L.length->(L.take x).flatten=vOf s:=fun h x hx=>by rw[List.take_of_length_le (by omega),f5 h]
  have e6:(!Geo.bV s)=false->∀x:Nat,x<=L.length->aG ((x:Int)+1):=fun h x hx=>dY (by have:=f6 h;omega)
  clear e2 c1 V
  repeat' first|with_reducible apply And.intro|with_reducible intro
  all_goals first|assumption|rfl|omega|exact v0 ‹_› |exact v1 ‹_› |exact v2 ‹_› |exact f1 ‹_› |exact f2 ‹_› |exact f3 ‹_› _ ‹_› |(unfold ix;omega)|exact e4 ‹_› _ ‹_› |exact e6 ‹_› _ ‹_› |exact e1 _ ‹_› |exact congrArg List.length (e1 _ ‹_›)|exact e5 ‹_› _ ‹_›)
def t17:Tab:=cJ [(17,c17)] t60
theorem aLc:t17.Ok Tryz.prog:=aH aKA ⟨k17,trivial⟩
def c19:Con:=con (a1 aSh) (fun s=>[Fit s]) (fun s=> .tup [.lst .S (dOf s),.int .i64 (eOf s)])
theorem k19:c19.Ok Tryz.prog 19:=aU (bL aLc) (raw:=bO) (fun s=>[(6,.mk Nat (fun F _=>rH F 21) [16] (fun k=>[k<=(Geo.dD s (vOf s)).length]) (fun k=>[(21,.int .i64 (k:Int)),(6,.own 16 .S k)]) (fun k=>[(16,.row 46 .S (((Geo.dD s (vOf s)).map (Geo.fB (vOf s))).take k))]) (fun k=>(Geo.dD s (vOf s)).length-k) (fun _=>[]))]
  ) (fun _=>⟨_,rfl⟩) fun s hp=>bM (q:=Fit s/\(¬eOf s=0->dOf s=([] :List Geo.S)/\eOf s=eOf s)/\
 (¬(¬eOf s=0)->Fit s/\(vOf s).length<=900/\(∀x:Geo.V,x∈vOf s->bd 1000000000 x)/\(aE s).length<=1000000/\(0=(0:Int)/\(0:Nat)=0/\List.take 0 (List.map (Geo.fB (vOf s)) (Geo.dD s (vOf s)))=([] :List Geo.S)/\(0:Nat)<=(Geo.dD s (vOf s)).length)/\
  (∀x:Nat,x<=(Geo.dD s (vOf s)).length->((x:Int)<(Geo.dD s (vOf s)).length->ix (x:Int) (Geo.dD s (vOf s)).length/\ix 0 2/\ix ((vE (Geo.dD s (vOf s)) x).1:Int) (vOf s).length/\ix 1 2/\ix ((vE (Geo.dD s (vOf s)) x).2:Int) (vOf s).length/\x=(List.take x (List.map (Geo.fB (vOf s)) (Geo.dD s (vOf s)))).length/\(List.take x (List.map (Geo.fB (vOf s)) (Geo.dD s (vOf s)))).length+[(⟨(nth (vOf s) (vE (Geo.dD s (vOf s)) x).1),(nth (vOf s) (vE (Geo.dD s (vOf s)) x).2)⟩:Geo.S)].length<=1000000/\aG ((x:Int)+1)/\(x:Int)+1=((x+1:Nat):Int)/\(List.take x (List.map (Geo.fB (vOf s)) (Geo.dD s (vOf s)))++[(⟨(nth (vOf s) (vE (Geo.dD s (vOf s)) x).1),(nth (vOf s) (vE (Geo.dD s (vOf s)) x).2)⟩:Geo.S)]).length=x+1/\List.take x (List.map (Geo.fB (vOf s)) (Geo.dD s (vOf s)))++[(⟨(nth (vOf s) (vE (Geo.dD s (vOf s)) x).1),(nth (vOf s) (vE (Geo.dD s (vOf s)) x).2)⟩:Geo.S)] =List.take (x+1) (List.map (Geo.fB (vOf s)) (Geo.dD s (vOf s)))/\x+1<=(Geo.dD s (vOf s)).length/\(Geo.dD s (vOf s)).length-(x+1)<(Geo.dD s (vOf s)).length-x)/\
   (¬(x:Int)<(Geo.dD s (vOf s)).length->x=(List.take x (List.map (Geo.fB (vOf s)) (Geo.dD s (vOf s)))).length/\List.take x (List.map (Geo.fB (vOf s)) (Geo.dD s (vOf s)))=dOf s/\0=eOf s)))) (by kernel_rfl) (by
  change Fit s at hp;have hq:=Geo.lW s;have d0:¬eOf s=0->dOf s=[] :=fun h=>(aJs h).1
  have R:¬¬eOf s=0->Geo.aQ s=true:=fun h=>Ff h
  have V:¬¬eOf s=0->Geo.VS s:=fun h=>vsR (R h)
  have hvl:=Bt s;have hvb:∀x∈vOf s,bd 1000000000 x:=fun x hx=>by
   obtain⟨i,hi,rfl⟩:=Geo.fL.1 hx;exact Uz hi (by decide)
  have he:¬¬eOf s=0->(aE s).length<=1000000:=fun h=>by have:=rO (V h);omega
  have dE:¬¬eOf s=0->(Geo.dD s (vOf s)).map (Geo.fB (vOf s))=dOf s:=fun h=>by
   rw[xJ (R h)];rw[Ns (R h)];exact(Geo.Ot (V h) (fun x hx=>(Geo.lK s).subset hx) ((Geo.lK s).nodup_iff.2 (V h).nodup)).1
  have pL:(Geo.dD s (vOf s)).length<=6400:=by
   have:=rQ (s:=s) (v:=vOf s) (vOf s).length;have h2:(vOf s).length*(vOf s).length<=80*80:=Nat.mul_le_mul hvl hvl;unfold Geo.dD;omega
  have pM:∀p∈Geo.dD s (vOf s),p.1<p.2/\p.2<(vOf s).length:=fun p hp=>Ih hp
  generalize Geo.dD s (vOf s)=P at dE pL pM|-;have pA:∀x:Nat,(x:Int)<P.length->(vE P x).1<(vOf s).length/\(vE P x).2<(vOf s).length:=fun x h=>by
   have h2:vE P x∈P:=by rw[Og (by omega)];exact List.getElem_mem _
   have:=pM _ h2;omega
  have p1:∀x:Nat,(x:Int)<P.length->ix ((vE P x).1:Int) (vOf s).length:=fun x h=>nW (pA x h).1
  have p2:∀x:Nat,(x:Int)<P.length->ix ((vE P x).2:Int) (vOf s).length:=fun x h=>nW (pA x h).2
  have e1:∀x:Nat,x<=P.length->(List.take x (P.map (Geo.fB (vOf s)))).length=x:=fun x h=>by rw[List.length_take,List.length_map];omega
  have e2:∀x:Nat,(x:Int)<P.length->List.take x (P.map (Geo.fB (vOf s)))++[⟨nth (vOf s) (vE P x).1,nth (vOf s) (vE P x).2⟩] =List.take (x+1) (P.map (Geo.fB (vOf s))):=fun x h=>by
   rw[List.take_succ_eq_append_getElem (by rw[List.length_map];omega),List.getElem_map,Og (by omega)];rfl
  have e3:¬¬eOf s=0->∀x:Nat,¬(x:Int)<P.length->List.take x (P.map (Geo.fB (vOf s)))=dOf s:=fun h x hx=>by rw[List.take_of_length_le (by rw[List.length_map];omega),dE h]
  clear pM dE pA hq
  repeat' first|with_reducible apply And.intro|with_reducible intro
  all_goals first|assumption|rfl|omega|exact d0 ‹_› |exact he ‹_› |exact hvb _ ‹_› |(unfold ix;omega)|(unfold aG;omega)|exact p1 _ ‹_› |exact p2 _ ‹_› |exact(e1 _ ‹_›).symm|(rw[e1 _ ‹_›];simp;omega)|(rw[List.length_append,e1 _ ‹_›];simp;done)|exact e2 _ ‹_› |exact e3 ‹_› _ ‹_› |exact(Decidable.of_not_not ‹¬¬eOf s=0›).symm)
def t19:Tab:=cJ [(19,c19)] t17
theorem aK1:t19.Ok Tryz.prog:=aH aLc ⟨k19,trivial⟩
def c67:Con:=con (ac aV (ac aV (a1 aV))) (fun(a,b,c)=>[bd 1000000000 a,bd 1000000000 b,bd 1000000000 c]) (fun(a,b,c)=>aT.enc (Geo.cU a b c))
theorem k67:c67.Ok Tryz.prog 67:=aU (bL aK1) (raw:=bO) (fun(a,b,c)=>[jb 3 32 (decide ((a.x+b.x+c.x).tmod 3=0)&&decide ((a.y+b.y+c.y).tmod 3=0))]
  ) (fun(_,_,_)=>⟨_,rfl⟩) fun(a,b,c) hp=>bM (q:=aG (a.x+b.x)/\aG (a.x+b.x+c.x)/\aG (a.y+b.y)/\aG (a.y+b.y+c.y)/\((3:Int)≠0/\(Int.tmod (a.x+b.x+c.x) 3=0->(3:Int)≠0/\decide (Int.tmod (a.y+b.y+c.y) 3=0)=(decide (Int.tmod (a.x+b.x+c.x) 3=0)&&decide (Int.tmod (a.y+b.y+c.y) 3=0)))/\
  (¬Int.tmod (a.x+b.x+c.x) 3=0->false=(decide (Int.tmod (a.x+b.x+c.x) 3=0)&&decide (Int.tmod (a.y+b.y+c.y) 3=0))))/\
 (∀y:Unit,((decide (Int.tmod (a.x+b.x+c.x) 3=0)&&decide (Int.tmod (a.y+b.y+c.y) 3=0))=true->(3:Int)≠0/\aG (Int.tdiv (a.x+b.x+c.x) 3)/\(3:Int)≠0/\aG (Int.tdiv (a.y+b.y+c.y) 3)/\Int.tdiv (a.x+b.x+c.x) 3=(Geo.cU a b c).x/\Int.tdiv (a.y+b.y+c.y) 3=(Geo.cU a b c).y/\1=(Geo.cU a b c).den)/\
  ((decide (Int.tmod (a.x+b.x+c.x) 3=0)&&decide (Int.tmod (a.y+b.y+c.y) 3=0))=false->a.x+b.x+c.x=(Geo.cU a b c).x/\a.y+b.y+c.y=(Geo.cU a b c).y/\3=(Geo.cU a b c).den))) (by kernel_rfl) (by
  change bd 1000000000 a/\bd 1000000000 b/\bd 1000000000 c at hp;unfold bd at hp;have k0:aG (a.x+b.x):=dY (by omega)
  have k0':aG (a.y+b.y):=dY (by omega)
  have k1:aG (a.x+b.x+c.x):=dY (by omega)
  have k2:aG (a.y+b.y+c.y):=dY (by omega)
  have q1:=qJ (x:=a.x+b.x+c.x) (g:=3) (B:=4000000000) (by omega)
  have q2:=qJ (x:=a.y+b.y+c.y) (g:=3) (B:=4000000000) (by omega)
  have k3:aG (Int.tdiv (a.x+b.x+c.x) 3):=dY (by omega)
  have k4:aG (Int.tdiv (a.y+b.y+c.y) 3):=dY (by omega)
  have m1:(decide (Int.tmod (a.x+b.x+c.x) 3=0)&&decide (Int.tmod (a.y+b.y+c.y) 3=0))=true->Geo.cU a b c=⟨(a.x+b.x+c.x).tdiv 3,(a.y+b.y+c.y).tdiv 3,1⟩:=fun h=>by
   simp only[Bool.and_eq_true,decide_eq_true_eq]at h;exact if_pos h
  have m2:(decide (Int.tmod (a.x+b.x+c.x) 3=0)&&decide (Int.tmod (a.y+b.y+c.y) 3=0))=false->Geo.cU a b c=⟨a.x+b.x+c.x,a.y+b.y+c.y,3⟩:=fun h=>if_neg fun h2=>by
   rw[decide_eq_true h2.1,decide_eq_true h2.2]at h;cases h
  clear hp q1 q2;refine⟨k0,k1,k0',k2,⟨by decide,fun h=>⟨by decide,by rw[decide_eq_true h];rfl⟩,fun h=>by rw[decide_eq_false h];rfl⟩,fun _=>⟨fun h=>⟨by decide,k3,by decide,k4,?_⟩,fun h=> ?_⟩⟩
  ·rw[m1 h];exact⟨rfl,rfl,rfl⟩
  ·rw[m2 h];exact⟨rfl,rfl,rfl⟩)
def t67:Tab:=cJ [(67,c67)] t19
theorem aKu:t67.Ok Tryz.prog:=aH aK1 ⟨k67,trivial⟩
def c64:Con:=con (ac aV (ac aV (a1 aV))) (fun(a,b,c)=>[bd 1000000000 a,bd 1000000000 b,bd 1000000000 c]) (fun(a,b,c)=> .lst .V (Geo.kR a b c)
 )
theorem k64:c64.Ok Tryz.prog 64:=aU (bL aKu) (raw:=bO) (fun(_,_,_)=>[]) (fun(_,_,_)=>⟨_,rfl⟩) fun(a,b,c) hp=>bM (q:=bd 1000000000 a/\bd 1000000000 b/\bd 1000000000 c/\(Geo.turn a b c<0->[a,c,b].length<=1000/\Geo.dC [a,c,b] =Geo.kR a b c)/\
 (¬Geo.turn a b c<0->[a,b,c].length<=1000/\Geo.dC [a,b,c] =Geo.kR a b c)) (by kernel_rfl) (by
  change bd 1000000000 a/\bd 1000000000 b/\bd 1000000000 c at hp;obtain⟨h1,h2,h3⟩:=hp;have e1:Geo.turn a b c<0->Geo.dC [a,c,b] =Geo.kR a b c:=fun h=>(if_pos h).symm
  have e2:¬Geo.turn a b c<0->Geo.dC [a,b,c] =Geo.kR a b c:=fun h=>(if_neg h).symm
  repeat' first|with_reducible apply And.intro|with_reducible intro
  all_goals first|assumption|rfl|exact e1 ‹_› |exact e2 ‹_› |(simp;done))
def t64:Tab:=cJ [(64,c64)] t67
theorem aKx:t64.Ok Tryz.prog:=aH aKu ⟨k64,trivial⟩
def aPe:Ar Geo.Shape where
 enc s:= .pro [.lst .V s.outer,.lst .R s.holes] 0
 dec s:=match s with
  | .pro [r,h] 0=>(match Qf .V r,Qf .R h with|some o,some hs=>some ⟨o,hs⟩|_,_=>none)
  |_=>none
 ok s a h:=by
  split at h
  ·split at h<;>cases h;rename_i r h' _ _ _ h1 h2;have e1:=xF h1;have e2:=xF h2;show(match cX (avs [_,_])with|some q=>AV.p (.pro q 0)|none=> .any)=_
   rw[avs,avs,avs,e1,e2];rfl
  ·cases h
 pl _:=⟨_,rfl⟩
def eB(v:List Geo.V)(i j k n:Nat):Bool:=n !=i&&n !=j&&n !=k&&Geo.bR (Geo.kR (nth v i) (nth v j) (nth v k)) (nth v n) !=0
def c62:Con:=con (ac aN (ac aN (ac aN (ac aPR (a1 aPe))))) (fun(i,j,k,v,s)=>[i<v.length,j<v.length,k<v.length,v.length<=900,(∀x∈v,bd 1000000000 x),Fit s]) (fun(i,j,k,v,s)=> .bool (Geo.iC s v i j k))
theorem k62:c62.Ok Tryz.prog 62:=aU (bL aKx) (raw:=bO) (fun(i,j,k,v,_)=>[cnt 5 41 v.length (aW fun n=>eB v i j k n=false) fun n=>[jb 8 64 (eB v i j k n)]]
  ) (fun(_,_,_,_,_)=>⟨_,rfl⟩) fun(i,j,k,v,s) hp=>bM (q:=ix (i:Int) v.length/\ix (j:Int) v.length/\ix (k:Int) v.length/\bd 1000000000 (nth v i)/\bd 1000000000 (nth v j)/\bd 1000000000 (nth v k)/\(Geo.turn (nth v i) (nth v j) (nth v k)=0->false=Geo.iC s v i j k)/\
 (¬Geo.turn (nth v i) (nth v j) (nth v k)=0->ix (i:Int) v.length/\ix (j:Int) v.length/\ix (k:Int) v.length/\bd 1000000000 (nth v i)/\bd 1000000000 (nth v j)/\bd 1000000000 (nth v k)/\(0=(0:Int)/\(0:Nat)<=v.length/\aW (fun n=>eB v i j k n=false) 0)/\
  (∀x:Nat,x<=v.length/\aW (fun n=>eB v i j k n=false) x->((x:Int)<v.length->ix (x:Int) v.length/\((¬(x:Int)=i->(¬(x:Int)=j->(¬(x:Int)=k->(Geo.kR (nth v i) (nth v j) (nth v k)).length<=1000/\decide (¬Geo.bR (Geo.kR (nth v i) (nth v j) (nth v k)) (nth v x)=0)=eB v i j k x)/\
       (¬(¬(x:Int)=k)->false=eB v i j k x))/\
      (¬(¬(x:Int)=j)->false=eB v i j k x))/\
     (¬(¬(x:Int)=i)->false=eB v i j k x))/\
    (∀y:Unit,(eB v i j k x=true->false=Geo.iC s v i j k)/\
     (eB v i j k x=false->aG ((x:Int)+1)/\(x:Int)+1=((x+1:Nat):Int)/\x+1<=v.length/\aW (fun n=>eB v i j k n=false) (x+1)/\v.length-(x+1)<v.length-x)))/\
   (¬(x:Int)<v.length->ix (i:Int) v.length/\ix (j:Int) v.length/\ix (k:Int) v.length/\bd 1000000000 (nth v i)/\bd 1000000000 (nth v j)/\bd 1000000000 (nth v k)/\Fit s/\decide (Geo.dG s (Geo.cU (nth v i) (nth v j) (nth v k))=2)=Geo.iC s v i j k)))) (by kernel_rfl) (by
  change i<v.length/\j<v.length/\k<v.length/\v.length<=900/\((∀x∈v,bd 1000000000 x))/\Fit s at hp;obtain⟨hi,hj,hk,hv,hb,hf⟩:=hp;have hb:∀x:Nat,x<v.length->bd 1000000000 (nth v x):=fun x h=>hb _ (Geo.fK h)
  have bi:=hb i hi;have bj:=hb j hj;have bk:=hb k hk;have xi:ix (i:Int) v.length:=nW hi;have xj:ix (j:Int) v.length:=nW hj;have xk:ix (k:Int) v.length:=nW hk;have hT:(Geo.kR (nth v i) (nth v j) (nth v k)).length<=1000:=by
   have:=Hu (nth v i) (nth v j) (nth v k);omega
  have t0:Geo.turn (nth v i) (nth v j) (nth v k)=0->false=Geo.iC s v i j k:=fun h=>by unfold Geo.iC;rw[h];rfl
  have bN:∀x:Nat,(¬¬(x:Int)=i\/¬¬(x:Int)=j\/¬¬(x:Int)=k)->false=eB v i j k x:=fun x h=>by
   unfold eB;rcases h with h|h|h
   ·obtain rfl:x=i:=by omega
    simp
   ·obtain rfl:x=j:=by omega
    simp
   ·obtain rfl:x=k:=by omega
    simp
  have bY:∀x:Nat,¬(x:Int)=i->¬(x:Int)=j->¬(x:Int)=k->decide (¬Geo.bR (Geo.kR (nth v i) (nth v j) (nth v k)) (nth v x)=0)=eB v i j k x:=fun x h1 h2 h3=>by
   unfold eB;rw[bne_iff_ne.2 (show x≠i by omega),bne_iff_ne.2 (show x≠j by omega),bne_iff_ne.2 (show x≠k by omega),Bool.true_and,Bool.true_and,Bool.true_and,Bool.eq_iff_iff];simp
  have eY:∀x:Nat,(x:Int)<v.length->eB v i j k x=true->false=Geo.iC s v i j k:=fun x h1 h2=>by
   unfold Geo.iC;rw[show((List.range v.length).all fun n=> !(n !=i&&n !=j&&n !=k&&Geo.bR (Geo.kR (nth v i) (nth v j) (nth v k)) (nth v n) !=0))=false from List.all_eq_false.2 ⟨x,List.mem_range.2 (by omega),by rw[show(x !=i&&x !=j&&x !=k&&Geo.bR (Geo.kR (nth v i) (nth v j) (nth v k)) (nth v x) !=0)=true from h2];simp⟩]
   simp
  have eE:¬Geo.turn (nth v i) (nth v j) (nth v k)=0->∀x:Nat,¬(x:Int)<v.length->x<=v.length->aW (fun n=>eB v i j k n=false) x->decide (Geo.dG s (Geo.cU (nth v i) (nth v j) (nth v k))=2)=Geo.iC s v i j k:=fun h0 x h1 h2 h3=>by
   obtain rfl:x=v.length:=by omega
   unfold Geo.iC;rw[bne_iff_ne.2 h0,show((List.range v.length).all fun n=> !(n !=i&&n !=j&&n !=k&&Geo.bR (Geo.kR (nth v i) (nth v j) (nth v k)) (nth v n) !=0))=true from List.all_eq_true.2 fun n hn=>by rw[show(n !=i&&n !=j&&n !=k&&Geo.bR (Geo.kR (nth v i) (nth v j) (nth v k)) (nth v n) !=0)=false from h3 n (List.mem_range.1 hn)];rfl,Bool.true_and,Bool.true_and,Bool.eq_iff_iff];simp
  clear hb
  repeat' first|with_reducible apply And.intro|with_reducible intro
  all_goals repeat with_reducible cases‹_/\aW _ _›
  all_goals first|assumption|rfl|omega|(unfold ix;omega)|(unfold aG;omega)|exact bC _|exact t0 ‹_› |exact bN _ (.inl ‹_›)|exact bN _ (.inr (.inl ‹_›))|exact bN _ (.inr (.inr ‹_›))|exact bY _ ‹_› ‹_› ‹_› |exact eY _ ‹_› ‹_› |exact eE ‹_› _ ‹_› ‹_› ‹_› |exact aC ‹_› ‹_›)
def t62:Tab:=cJ [(62,c62)] t64
theorem aNS:t62.Ok Tryz.prog:=aH aKx ⟨k62,trivial⟩
end
end Go.Proofs.YtdaeofhdgabhjaaGreat
namespace Go.Proofs.YtdaeofhdgabhjaaGreat
open Go.RowKit
theorem aNI:Tryz.prog.underlying 129=some (.array 80 77):=by kernel_rfl
theorem u77:Tryz.prog.underlying 77=some (.array 80 4):=by kernel_rfl
theorem s77:aY Tryz.prog 77=80:=by kernel_rfl
theorem s4:aY Tryz.prog 4=1:=by kernel_rfl
theorem i77:(Tryz.prog.info? 77).isSome=true:=by kernel_rfl
theorem i4:(Tryz.prog.info? 4).isSome=true:=by kernel_rfl
theorem aIs{b i:Nat}(hi:i<80)(w:World):(Instr.indexAt 129 (.pointer (some ⟨b,0,none⟩)) (.int .i64 (i:Int))).run Tryz.prog w= .ok (.pointer (some ⟨b,80*i,none⟩)) w:=by
 have:=uS (b:=b) (off:=0) (k:= .i64) (a:=(i:Int)) aNI i77 (by omega) (by omega) w
 rw[this,s77,Nat.zero_add,Int.toNat_natCast,Nat.mul_comm]
theorem aNd{b i o:Nat}(hi:i<80)(w:World):(Instr.indexAt 77 (.pointer (some ⟨b,o,none⟩)) (.int .i64 (i:Int))).run Tryz.prog w= .ok (.pointer (some ⟨b,o+i,none⟩)) w:=by
 have:=uS (b:=b) (off:=o) (k:= .i64) (a:=(i:Int)) u77 i4 (by omega) (by omega) w
 rw[this,s4,Int.toNat_natCast,Nat.mul_one]
theorem Hx{b p:Nat}{arr:Array Value}{t:TypeId}{w:World}(hblk:w.heap[b]? =some (.cells arr t (0,0)))(hp:p<arr.size):
  (Instr.storeAt 4 (.pointer (some ⟨b,p,none⟩)) (.bool true)).run Tryz.prog w= .ok () (w.setRow b (arr.setIfInBounds p (.bool true))):=by
 have hst:=run_storeCells_at Tryz.prog b p t [.bool true] 0 arr w hblk (by simp;omega) (by simp[Value.oneCell'])
 have e:(arr.toList.take (p+0)++[Value.bool true] ++arr.toList.drop (p+0+[Value.bool true].length)).toArray=arr.setIfInBounds p (.bool true):=by
  apply Array.toList_inj.1;rw[Array.toList_setIfInBounds,List.set_eq_take_append_cons_drop,if_pos (by simpa using hp)]
  simp
 rw[e]at hst;obtain⟨i,hi⟩:=Option.isSome_iff_exists.1 i4;have hs:i.size=1:=by have:=s4;unfold aY at this;rw[hi]at this;simpa using this
 simp[Instr.storeAt,Instr.sureAddr,storeVar,sizeOf,typeInfo,Sem.run_bind,Sem.run_pure,Result.andThen_ok,run_program,hi,hs,Value.cells,hst]
theorem Bf{w0 w:World}{b:Nat}{arr arr':Array Value}{t:TypeId}(h:w.heap[b]? =some (.cells arr t (0,0))/\w0.grownBy w (some b)):
  (w.setRow b arr').heap[b]? =some (.cells arr' t (0,0))/\w0.grownBy (w.setRow b arr') (some b):=by
 refine⟨setRow_heap w b arr arr' t (0,0) h.1,⟨h.2.os,h.2.tape,h.2.output,?_,fun k hk hne=> ?_⟩⟩
 ·have:=h.2.size;unfold World.setRow;simpa using this
 ·rw[<-h.2.block k hk hne];unfold World.setRow;simp only[Array.getElem?_modify];rw[if_neg (fun e=>hne (by rw[e]))]
set_option maxHeartbeats 2000000 in
theorem aDL(c d:Nat)(hi:c<80)(hj:d<80)(w:World)(b:Nat)(arr:Array Value)(hblk:w.heap[b]? =some (.cells arr 129 (0,0)))(hsz:arr.size=6400):
  Calls Tryz.prog 136 #[.pointer (some ⟨b,0,none⟩),.int .i64 c,.int .i64 d] w fun e w'=>e= .returned Go.undef/\
   (w'.heap[b]? =some (.cells ((arr.setIfInBounds (80*c+d) (.bool true)).setIfInBounds (80*d+c) (.bool true)) 129 (0,0))/\w.grownBy w' (some b)):=by
 have hp:80*c+d<arr.size:=by omega
 have hq:80*d+c<(arr.setIfInBounds (80*c+d) (.bool true)).size:=by simp;omega
 clear hsz
 go_enter Tryz.func136,Tryz.ntmps136
 refine wB (by kernel_rfl) [6,7,8,9,10,11,12,13,14,15,16,17] [[],[],[],[],[],[],[0],[0,1,6],[0,1,2,6,7],[0,1,2,6,7,8],[3],[3,4,10],[0,1,2,3,4,5,6,7,8,9,10,11],[0,1,2,3,4,5,6,7,8,9,10,11,12]] (by kernel_rfl) (by kernel_rfl) (by intro s hs;simp at hs|-;omega)
  (WR3 9 13 (fun wx=>wx.heap[b]? =some (.cells arr 129 (0,0))/\w.grownBy wx (some b)) (fun wx=>wx.heap[b]? =some (.cells (arr.setIfInBounds (80*c+d) (.bool true)) 129 (0,0))/\w.grownBy wx (some b)) (fun wx=>wx.heap[b]? =some (.cells ((arr.setIfInBounds (80*c+d) (.bool true)).setIfInBounds (80*d+c) (.bool true)) 129 (0,0))/\w.grownBy wx (some b)))
  (fun i v wx=>match i with
    |0=>v= .pointer (some ⟨b,0,none⟩)
    |1=>v= .int .i64 (c:Int)
    |2=>v= .int .i64 (d:Int)
    |3=>v= .pointer (some ⟨b,0,none⟩)
    |4=>v= .int .i64 (d:Int)
    |5=>v= .int .i64 (c:Int)
    |6=>v= .pointer (some ⟨b,0,none⟩)
    |7=>v= .pointer (some ⟨b,80*c,none⟩)
    |8=>v= .pointer (some ⟨b,80*c+d,none⟩)
    |9=>True
    |10=>v= .pointer (some ⟨b,0,none⟩)
    |11=>v= .pointer (some ⟨b,80*d,none⟩)
    |12=>v= .pointer (some ⟨b,80*d+c,none⟩)
    |13=>True
    |_=>True)
  (WR3.start ⟨hblk,⟨rfl,rfl,rfl,Nat.le_refl _,fun _ _ _=>rfl⟩⟩) ?_ ?_ ?_
 ·intro j v wx wy hf hxy;match j with
  |0=>exact hf
  |1=>exact hf
  |2=>exact hf
  |3=>exact hf
  |4=>exact hf
  |5=>exact hf
  |6=>exact hf
  |7=>exact hf
  |8=>exact hf
  |9=>exact hf
  |10=>exact hf
  |11=>exact hf
  |12=>exact hf
  |13=>exact hf
  |_+14=>exact trivial
 ·refine⟨?_,?_,?_,?_,?_,?_,?_,?_,?_,?_,?_,?_,?_,?_,trivial⟩
  ·intro D V wx hD hanc hdesc hin hWR;have hA:=hWR.lo (hdesc 9 (by kernel_rfl)) (hdesc 13 (by kernel_rfl))
   have e0:=hin 0 (by kernel_rfl)
   simp at e0;refine opK ?_;intro K hK;simp[cC,execOp,bJ,e0,go_sem];exact hK _ _ ⟨rfl,(hWR.keep (by decide) (by decide)),.inl rfl⟩
  ·intro D V wx hD hanc hdesc hin hWR;have hA:=hWR.lo (hdesc 9 (by kernel_rfl)) (hdesc 13 (by kernel_rfl))
   have e1:=hin 1 (by kernel_rfl)
   simp at e1;refine opK ?_;intro K hK;simp[cC,execOp,bJ,e1,go_sem];exact hK _ _ ⟨rfl,(hWR.keep (by decide) (by decide)),.inl rfl⟩
  ·intro D V wx hD hanc hdesc hin hWR;have hA:=hWR.lo (hdesc 9 (by kernel_rfl)) (hdesc 13 (by kernel_rfl))
   have e2:=hin 2 (by kernel_rfl)
   simp at e2;refine opK ?_;intro K hK;simp[cC,execOp,bJ,e2,go_sem];exact hK _ _ ⟨rfl,(hWR.keep (by decide) (by decide)),.inl rfl⟩
  ·intro D V wx hD hanc hdesc hin hWR;have e0:=hin 0 (by kernel_rfl)
   simp at e0;refine opK ?_;intro K hK;simp[cC,execOp,bJ,e0,go_sem];exact hK _ _ ⟨rfl,(hWR.keep (by decide) (by decide)),.inl rfl⟩
  ·intro D V wx hD hanc hdesc hin hWR;have e2:=hin 2 (by kernel_rfl)
   simp at e2;refine opK ?_;intro K hK;simp[cC,execOp,bJ,e2,go_sem];exact hK _ _ ⟨rfl,(hWR.keep (by decide) (by decide)),.inl rfl⟩
  ·intro D V wx hD hanc hdesc hin hWR;have e1:=hin 1 (by kernel_rfl)
   simp at e1;refine opK ?_;intro K hK;simp[cC,execOp,bJ,e1,go_sem];exact hK _ _ ⟨rfl,(hWR.keep (by decide) (by decide)),.inl rfl⟩
  ·intro D V wx hD hanc hdesc hin hWR;have hA:=hWR.lo (hdesc 9 (by kernel_rfl)) (hdesc 13 (by kernel_rfl))
   have e6:V 6= .pointer (some ⟨b,0,none⟩):=(hanc 0 (by kernel_rfl)).2
   refine opK ?_;intro K hK;simp[cC,execOp,bJ,e6,go_sem];exact hK _ _ ⟨rfl,(hWR.keep (by decide) (by decide)),.inl rfl⟩
  ·intro D V wx hD hanc hdesc hin hWR;have hA:=hWR.lo (hdesc 9 (by kernel_rfl)) (hdesc 13 (by kernel_rfl))
   have e7:V 7= .int .i64 (c:Int):=(hanc 1 (by kernel_rfl)).2
   have e12:V 12= .pointer (some ⟨b,0,none⟩):=(hanc 6 (by kernel_rfl)).2
   refine opK ?_;intro K hK;unfold cC execOp;simp only[bJ,e12,e7,Sem.run_bind,aIs hi,Result.andThen_ok,Sem.run_pure];exact hK _ _ ⟨rfl,(hWR.keep (by decide) (by decide)),.inl rfl⟩
  ·intro D V wx hD hanc hdesc hin hWR;have hA:=hWR.lo (hdesc 9 (by kernel_rfl)) (hdesc 13 (by kernel_rfl))
   have e8:V 8= .int .i64 (d:Int):=(hanc 2 (by kernel_rfl)).2
   have e13:V 13= .pointer (some ⟨b,80*c,none⟩):=(hanc 7 (by kernel_rfl)).2
   refine opK ?_;intro K hK;unfold cC execOp;simp only[bJ,e13,e8,Sem.run_bind,aNd hj,Result.andThen_ok,Sem.run_pure];exact hK _ _ ⟨rfl,(hWR.keep (by decide) (by decide)),.inl rfl⟩
  ·intro D V wx hD hanc hdesc hin hWR;have hA:=hWR.lo hD (hdesc 13 (by kernel_rfl))
   have e14:V 14= .pointer (some ⟨b,80*c+d,none⟩):=(hanc 8 (by kernel_rfl)).2
   refine opK ?_;intro K hK;unfold cC execOp;simp only[bJ,e14,Sem.run_bind,Hx hA.1 hp,Result.andThen_ok,Sem.run_pure];refine hK _ _ ⟨trivial,.mkMid (hdesc 13 (by kernel_rfl)) (by decide) (Bf hA),.inr (.inr ?_)⟩
   intro j hj hf;match j with
   |0=>exact hf
   |1=>exact hf
   |2=>exact hf
   |3=>exact hf
   |4=>exact hf
   |5=>exact hf
   |6=>exact hf
   |7=>exact hf
   |8=>exact hf
   |9=>exact absurd (hj.symm.trans hD) (by decide)
   |10=>exact hf
   |11=>exact hf
   |12=>exact absurd (hj.symm.trans (hdesc 12 (by kernel_rfl))) (by decide)
   |13=>exact absurd (hj.symm.trans (hdesc 13 (by kernel_rfl))) (by decide)
   |_+14=>exact trivial
  ·intro D V wx hD hanc hdesc hin hWR;have e9:V 9= .pointer (some ⟨b,0,none⟩):=(hanc 3 (by kernel_rfl)).2
   refine opK ?_;intro K hK;simp[cC,execOp,bJ,e9,go_sem];exact hK _ _ ⟨rfl,(hWR.keep (by decide) (by decide)),.inl rfl⟩
  ·intro D V wx hD hanc hdesc hin hWR;have e10:V 10= .int .i64 (d:Int):=(hanc 4 (by kernel_rfl)).2
   have e15:V 15= .pointer (some ⟨b,0,none⟩):=(hanc 10 (by kernel_rfl)).2
   refine opK ?_;intro K hK;unfold cC execOp;simp only[bJ,e15,e10,Sem.run_bind,aIs hj,Result.andThen_ok,Sem.run_pure];exact hK _ _ ⟨rfl,(hWR.keep (by decide) (by decide)),.inl rfl⟩
  ·intro D V wx hD hanc hdesc hin hWR;have hB:=hWR.mid (hanc 9 (by kernel_rfl)).1 (hdesc 13 (by kernel_rfl))
   have e11:V 11= .int .i64 (c:Int):=(hanc 5 (by kernel_rfl)).2
   have e16:V 16= .pointer (some ⟨b,80*d,none⟩):=(hanc 11 (by kernel_rfl)).2
   refine opK ?_;intro K hK;unfold cC execOp;simp only[bJ,e16,e11,Sem.run_bind,aNd hi,Result.andThen_ok,Sem.run_pure];exact hK _ _ ⟨rfl,(hWR.keep (by decide) (by decide)),.inl rfl⟩
  ·intro D V wx hD hanc hdesc hin hWR;have hB:=hWR.mid (hanc 9 (by kernel_rfl)).1 hD
   have e17:V 17= .pointer (some ⟨b,80*d+c,none⟩):=(hanc 12 (by kernel_rfl)).2
   refine opK ?_;intro K hK;unfold cC execOp;simp only[bJ,e17,Sem.run_bind,Hx hB.1 hq,Result.andThen_ok,Sem.run_pure];refine hK _ _ ⟨trivial,.mkHi (Bf hB),.inr (.inr ?_)⟩;intro j hj hf;match j with
   |0=>exact hf
   |1=>exact hf
   |2=>exact hf
   |3=>exact hf
   |4=>exact hf
   |5=>exact hf
   |6=>exact hf
   |7=>exact hf
   |8=>exact hf
   |9=>exact hf
   |10=>exact hf
   |11=>exact hf
   |12=>exact hf
   |13=>exact absurd (hj.symm.trans hD) (by decide)
   |_+14=>exact trivial
 intro D V wx hall hf hWR;replace hWR:=hWR.hi (hall 13 (by decide))
 have f0:V 6= .pointer (some ⟨b,0,none⟩):=hf 0 (by decide)
 have f1:V 7= .int .i64 (c:Int):=hf 1 (by decide)
 have f2:V 8= .int .i64 (d:Int):=hf 2 (by decide)
 have f3:V 9= .pointer (some ⟨b,0,none⟩):=hf 3 (by decide)
 have f4:V 10= .int .i64 (d:Int):=hf 4 (by decide)
 have f5:V 11= .int .i64 (c:Int):=hf 5 (by decide)
 have f6:V 12= .pointer (some ⟨b,0,none⟩):=hf 6 (by decide)
 have f7:V 13= .pointer (some ⟨b,80*c,none⟩):=hf 7 (by decide)
 have f8:V 14= .pointer (some ⟨b,80*c+d,none⟩):=hf 8 (by decide)
 have f10:V 15= .pointer (some ⟨b,0,none⟩):=hf 10 (by decide)
 have f11:V 16= .pointer (some ⟨b,80*d,none⟩):=hf 11 (by decide)
 have f12:V 17= .pointer (some ⟨b,80*d+c,none⟩):=hf 12 (by decide)
 clear hf hall;simp only[eQ,List.foldl_cons,List.foldl_nil,f0,f1,f2,f3,f4,f5,f6,f7,f8,f10,f11,f12];simp only[Act.put,List.setIfInBounds_toArray,List.set_cons_succ,List.set_cons_zero];clear f0 f1 f2 f3 f4 f5 f6 f7 f8 f10 f11 f12;refine bodyPost_end (results_none rfl _ _ _) rfl ?_;exact⟨rfl,hWR⟩
def lD(T:Nat->Bool):List PV:=(List.range 6400).map fun k=> .bool (T k)
def qE(T:Nat->Bool)(c d:Nat):Nat->Bool:=fun k=>T k||k==80*c+d||k==80*d+c
theorem kG(T:Nat->Bool):(lD T).length=6400:=by unfold lD;simp
theorem Pf(T:Nat->Bool){k:Nat}{x:PV}(h:(lD T)[k]? =some x):k<6400/\x= .bool (T k):=by
 have hk:k<6400:=by have:=(List.getElem?_eq_some_iff.1 h).1;rwa[kG]at this
 refine⟨hk,?_⟩;unfold lD at h;rw[List.getElem?_map,List.getElem?_range hk]at h;simpa using h.symm
theorem aDl(T:Nat->Bool)(c d:Nat)(hc:c<80)(hd:d<80):zT Tryz.prog 136 none [.int .i64 c,.int .i64 d] 129 0 (lD T) (lD (qE T c d)):=by
 refine⟨by kernel_rfl,by rw[kG,kG],?_,fun h=>by cases h⟩
 intro C w b cc arr vs hC hL _ hA;unfold cG cG cG bI at hA;obtain⟨v1,r1,rfl,rfl,v2,r2,rfl,rfl,rfl⟩:=hA;have hsz:arr.size=6400:=by rw[hL.box rfl,kG]
 refine(aDL c d hc hd w b arr hL.blk hsz).mono ?_;rintro e w' ⟨rfl,h1,h2⟩;refine⟨_,rfl,⟨h1,fun _=>by simp[hsz,kG],(fun h=>absurd rfl h),?_⟩,h2⟩
 intro k x hk;obtain⟨hk1,rfl⟩:=Pf _ hk;obtain⟨v,h3,h4,h5⟩:=hL.cells k (.bool (T k)) (by unfold lD;rw[List.getElem?_map,List.getElem?_range hk1];rfl)
 unfold bI at h5;subst h5;refine⟨.bool (qE T c d k),?_,rfl,by unfold bI;rfl⟩
 simp only[Array.getElem?_setIfInBounds,Array.size_setIfInBounds];unfold qE;by_cases e1:80*d+c=k
 ·subst e1;simp;omega
 ·rw[if_neg e1];have e3:(k==80*d+c)=false:=by simp;omega
  by_cases e2:80*c+d=k
  ·subst e2;simp;omega
  ·have e4:(k==80*c+d)=false:=by simp;omega
   rw[if_neg e2,h3,e3,e4];simp
end Go.Proofs.YtdaeofhdgabhjaaGreat
namespace Go.Proofs.YtdaeofhdgabhjaaGreat
open Go.RowKit
section
variable {P:Program} {N:Nat} {ds:List (Option Nat)} {K:List AV->Sto->nV->Prop} {o:Oper} {rest:List Oper} {i:Nat} {F F':List AV} {L:Sto} {log:nV} {r:AV} {R:List Nat} {W:Sto}
def opR(P:Program)(n:Nat)(o:Oper)(F:List AV)(L:Sto)(r:AV)(R:List Nat)(W:Sto):Prop:=match o.op with
 | .move x=>eH F x=r/\[] =R/\[] =W
 | .assign x=>eH F x=r/\[] =R/\[] =W
 |_=>AOp P n o (eH F) (look L) (fun r' R' W'=>r'=r/\R'=R/\W'=W)
def opG(P:Program)(n:Nat)(ds:List (Option Nat))(o:Oper)(F:List AV)(L:Sto)(r:AV)(R:List Nat)(W:Sto):Prop:=match o.guard with
 |none=>opR P n o F L r R W
 |some (j,b)=>match gdA ds F j with
  |some (some c)=>(match c,b with
   |true,true=>opR P n o F L r R W
   |false,false=>opR P n o F L r R W
   |true,false=> .undef=r/\[] =R/\[] =W
   |false,true=> .undef=r/\[] =R/\[] =W)
  |some none=> .undef=r/\[] =R/\[] =W
  |none=>False
theorem Od{n:Nat}(h:opR P n o F L r R W):AOp P n o (eH F) (look L) (fun r' R' W'=>r'=r/\R'=R/\W'=W):=by
 unfold opR at h;split at h
 ·rename_i x e;unfold AOp;rw[e];exact h
 ·rename_i x e;unfold AOp;rw[e];exact .inl h
 ·exact h
theorem op(h:opG P (N+i) ds o F L r R [])(hF:jH F o.dst r=F')(h2:fG P N ds rest (i+1) F' L (log++[(R,[])]) K):fG P N ds (o::rest) i F L log K:=by
 unfold opG at h;split at h
 ·rename_i e;exact yC e rfl rfl (Od h) hF rfl rfl h2
 ·rename_i j b e;split at h
  ·rename_i c e2;split at h
   ·exact rX e e2 rfl rfl (Od h) hF rfl rfl h2
   ·exact rX e e2 rfl rfl (Od h) hF rfl rfl h2
   ·obtain⟨rfl,rfl,_⟩:=h;exact De e e2 (by decide) rfl hF rfl h2
   ·obtain⟨rfl,rfl,_⟩:=h;exact De e e2 (by decide) rfl hF rfl h2
  ·rename_i e2;obtain⟨rfl,rfl,_⟩:=h;exact De e e2 (fun h=>by cases h) rfl hF rfl h2
  ·exact h.elim
end
theorem PS:(∀(F:List AV) (d:Nat) (r:AV),jH F (some d) r=F.set d r)/\(∀(F:List AV) (r:AV),jH F none r=F)/\(∀{α:Type} (a:α) (l:List α) (n:Nat) (d:α),(a::l).set (n+1) d=a::l.set n d)/\(∀{α:Type} (a:α) (l:List α) (d:α),(a::l).set 0 d=d::l):=⟨fun _ _ _=>rfl,fun _ _=>rfl,fun _ _ _ _=>rfl,fun _ _ _=>rfl⟩
def un:Nat->List AV->List AV
 |0,l=>l
 |n+1,l=> .undef::un n l
section
variable {P:Program} {Q:zZ} {F:List AV} {L:Sto} {N:Nat} {y:Code}
theorem pl{id:Nat}{l:List Oper}(N':Nat)(hg:gOk l=true)(hN:N+l.length=N')
 (h:∀K:List AV->Sto->Nat->Prop,(∀F L N,awp P y Q F L N->K F L N)->fG P N (l.map (·.dst)) l 0 F L [] fun F L _=>K F L N'):awp P (.seq (.region id l.toArray false) y) Q F L N:=aBT hg hN h
theorem ple{id:Nat}{l:List Oper}(N':Nat)(hg:gOk l=true)(hN:N+l.length=N')
 (h:∀K:List AV->Sto->Nat->Prop,(∀F L N,Q .normal F L N->K F L N)->fG P N (l.map (·.dst)) l 0 F L [] fun F L _=>K F L N'):awp P (.region id l.toArray false) Q F L N:=Kb hg hN h
end
theorem GG:(∀{α:Type} (a:α) (l:List α),(a::l)[0]? =some a)/\(∀{α:Type} (a:α) (l:List α) (i:Nat),(a::l)[i+1]? =l[i]?)/\(∀{α β:Type} (f:α->β) (a:α) (l:List α),List.map f (a::l)=f a::List.map f l)/\(∀{α β:Type} (f:α->β),List.map f [] =[])/\(∀{α:Type} (x:Option α),(some x).join=x)/\(∀{α:Type} (a:α) (l:List α) (n:Nat) (d:α),(a::l).getD (n+1) d=l.getD n d)/\(∀{α:Type} (a:α) (l:List α) (d:α),(a::l).getD 0 d=a):=⟨fun _ _=>rfl,fun _ _ _=>rfl,fun _ _ _=>rfl,fun _=>rfl,fun _=>rfl,fun _ _ _ _=>rfl,fun _ _ _=>rfl⟩
theorem IF:(∀{α:Type} (a:α),(a=a)=True)/\(∀{α:Type} {_h:Decidable True} (t e:α),ite True t e=t)/\(∀{α:Type} {_h:Decidable False} (t e:α),ite False t e=e):=⟨fun _=>by simp,fun{_} {h} _ _=>by cases h<;>simp,fun{_} {h} _ _=>by cases h<;>simp⟩
attribute [go_sem] Mt aAs aIE okL sH an RL
attribute [go_sem] opG opR AOp eH gdA Option.join_some lR kP iT cX Yk zY look Uv zA qH Ni Ft Gf aB7 unA Kn mmA Gh oO gS lO ne_eq not_false_eq_true
attribute [go_sem] GD GS LA LB LC LI
attribute [go_sem] T1 T2 T3 T23 T24 T26 T32 T44 T46 T65 T67
end Go.Proofs.YtdaeofhdgabhjaaGreat
namespace Go.Proofs.YtdaeofhdgabhjaaGreat
open Go.RowKit
theorem Ix{P:Program}{σ:Nat->Option Ob}{f:FuncId}{s:Nat}{rest:List AV}{K:Res}{ty:TypeId}{cells cells':List PV}{A:List PV}
  (hob:σ s=some ⟨ty,0,cells.map .p⟩) (hA:cX rest=some A) (hS:zT P f none A ty 0 cells cells') (hK:K .undef [s] [(s,some ⟨ty,0,cells'.map .p⟩)]):sC P σ f (.ptr s 0::rest) K:=
 .inr ⟨ty,cells,hob,A,cells',hA,hS,hK⟩
theorem yV(m:Rn):∀l:List PV,Mt m (l.map .p) (l.map .p)
 |[] =>by simp[Mt]
 |x::l=>by simp only[List.map_cons,Mt,aAs];exact⟨trivial,yV m l⟩
def zP(T:Geo.Tab):List PV:=lD fun k=>T (k/80) (k % 80)
theorem aAK(T:Geo.Tab){c d:Nat}(hc:c<80)(hd:d<80):lD (qE (fun k=>T (k/80) (k % 80)) c d)=zP (Geo.qE T c d):=by
 unfold zP lD;apply List.map_congr_left;intro k hk;have hk:=List.mem_range.1 hk;unfold qE Geo.qE
 congr 1
 show(T (k/80) (k % 80)||k==80*c+d||k==80*d+c)=if(k/80=c/\k % 80=d)\/(k/80=d/\k % 80=c)then true else T (k/80) (k % 80)
 by_cases h1:k/80=c/\k % 80=d
 ·have e:(k==80*c+d)=true:=by simp;omega
  rw[if_pos (.inl h1),e];simp
 ·have e:(k==80*c+d)=false:=by simp;omega
  by_cases h2:k/80=d/\k % 80=c
  ·have e:(k==80*d+c)=true:=by simp;omega
   rw[if_pos (.inr h2),e];simp
  ·have e2:(k==80*d+c)=false:=by simp;omega
   have h3:¬((k/80=c/\k % 80=d)\/(k/80=d/\k % 80=c)):=fun h=>h.elim h1 h2
   rw[if_neg h3,e,e2,Bool.or_false,Bool.or_false]
theorem Lb(T:Geo.Tab){c d:Nat}(hc:c<80)(hd:d<80):zT Tryz.prog 136 none [.int .i64 c,.int .i64 d] 129 0 (zP T) (zP (Geo.qE T c d)):=by
 have:=aDl (fun k=>T (k/80) (k % 80)) c d hc hd
 rwa[aAK T hc hd]at this
theorem aNJ:zP (fun _ _=>false)=List.replicate 6400 (.bool false):=by
 unfold zP lD;refine List.eq_replicate_iff.2 ⟨by rw[List.length_map,List.length_range],fun x hx=> ?_⟩
 obtain⟨k,_,rfl⟩:=List.mem_map.1 hx;rfl
theorem aB3:gI Tryz.prog 129=some (List.replicate 6400 (.p (.bool false))):=by kernel_rfl
theorem aB2:gP Tryz.prog 129=true:=by kernel_rfl
theorem Xv{P:Program}{t:TypeId}{z:List PV}{K:AV->Prop}(hz:gI P t=some (z.map .p))(h1:gP P t=true)(h2:lQ P t=true)(hK:K (.p (.agg z))):Gh P t [] K:=by
 refine⟨_,hz,h1,h2,_,rfl,?_⟩;unfold iT;rw[dH];exact hK
theorem Xz:gI Tryz.prog 129=some ((zP fun _ _=>false).map .p):=by
 rw[aB3,aNJ,List.map_replicate]
theorem aEb{K:AV->Prop}(h:K (.p (.agg (zP fun _ _=>false)))):Gh Tryz.prog 129 [] K:=Xv Xz aB2 Ya h
theorem Tt(l:List (Nat×Nat)){k:Nat}(hk:k<l.length):Geo.qE (Geo.mC (l.take k)) l[k].1 l[k].2=Geo.mC (l.take (k+1)):=by
 unfold Geo.mC;rw[List.take_add_one,List.getElem?_eq_getElem hk,List.foldl_append];rfl
theorem Dy:∀(l:List Geo.aD) (t:Geo.Tab) (a:Nat) (r:Geo.aD),Geo.kK t a (l++[r])=Geo.sK (Geo.kK t a l) r.length (a+l.flatten.length) r.length
 |[],t,a,r=>rfl
 |x::l,t,a,r=>by
  simp only[List.cons_append,Geo.kK,Dy l,List.flatten_cons,List.length_append,Nat.add_assoc]
theorem Ts(R:List Geo.aD)(t:Geo.Tab){k:Nat}(hk:k<R.length):Geo.kK t 0 (R.take (k+1))=Geo.sK (Geo.kK t 0 (R.take k)) R[k].length (R.take k).flatten.length R[k].length:=by
 rw[List.take_add_one,List.getElem?_eq_getElem hk];show Geo.kK t 0 (R.take k++[R[k]])=_;rw[Dy,Nat.zero_add]
theorem Pp(R:List Geo.aD)(k:Nat):(R.take k).flatten.length<=R.flatten.length:=by
 have:R.flatten=(R.take k).flatten++(R.drop k).flatten:=by rw[<-List.flatten_append,List.take_append_drop]
 rw[this,List.length_append];omega
theorem aBy(L:List Geo.aD){k:Nat}(hk:k<L.length):(L.take (k+1)).flatten=(L.take k).flatten++L[k] :=by
 rw[List.take_add_one,List.flatten_append,List.getElem?_eq_getElem hk];simp
theorem vO{f:FuncId}{xs:List SV}{r:SV}{B:List PV}{q:PV}(h:∃A q,avs xs=A.map .p/\r.av= .p q/\Sat Tryz.prog false f A q)(hB:avs xs=B.map .p)(hq:r.av= .p q):Sat Tryz.prog false f B q:=by
 obtain⟨A,q',h1,h2,h3⟩:=h;rw[hq]at h2;cases h2;rw[hB]at h1;have:B=A:=by have:=congrArg cX h1;rw[dH,dH]at this;cases this;rfl
 subst this;exact h3
theorem Dm(s:Geo.Shape):(aSh.enc s).av= .p (gR s):=by
 show iT [.p (.sl s.outer.length (jB s.outer)),.p (.sl s.holes.length (LT.R.enc s.holes))] =_;rw[Dl];rfl
set_option maxRecDepth 100000 in
set_option maxHeartbeats 2000000 in
theorem Wi(s:Geo.Shape)(hf:Fit s)(hv:Geo.bV s=true)(v:List Geo.V)(hn:v.length<=80)(hR80:(Geo.aJ (Geo.cE s)).flatten.length<=80)(hvs:∀x∈v,bd 1000000000 x):
  Sat Tryz.prog false 61 [.agg [fN s.outer,kM s.holes],.sl v.length (jB v)] (.pro (zP (Geo.gZ s v)) 0):=by
 have V:=(Geo.fU s).1 hv;have hfC:=Cs hf;have hpos:=Dd V;have c60:Sat Tryz.prog false 60 [gR s,.sl v.length (jB v)] (.sl (Geo.dD s v).length (aFb (Geo.dD s v))):=
  vO (k60 [aSh.enc s,.lst .V v] (s,v) rfl ((fE (l:=c60.pre (s,v))).1 ⟨hf,(show v.length<=900 by omega),hvs,(show(Geo.aE s).length<=1000000 by have:=rO V;omega)⟩)) (by simp only[avs,Dm];rfl) rfl
 have c57:Sat Tryz.prog false 57 [gR s] (gR (Geo.cE s)):=
  vO (k57 [aSh.enc s] s rfl ((fE (l:=c57.pre s)).1 hf)) (by simp only[avs,Dm];rfl) (by show(aSh.enc (fW s)).av=_;rw[Dm,show fW s=Geo.cE s from if_pos hv])
 have c56:=wX (Geo.cE s) hfC hpos;have hP80:∀p∈Geo.dD s v,p.1<80/\p.2<80:=fun p hp=>by have:=Ih hp;omega
 have t00:Geo.mC [] =fun _ _=>false:=rfl
 have hPl:(Geo.dD s v).length<=900000:=by
  have:=rQ (s:=s) (v:=v) v.length;have h2:v.length*v.length<=80*80:=Nat.mul_le_mul hn hn;unfold Geo.dD;omega
 have hRl:(Geo.aJ (Geo.cE s)).length<=901:=by have:=hfC.2.1;simp[Geo.aJ];omega
 have hJ:Geo.gZ s v=Geo.kK (Geo.mC (Geo.dD s v)) 0 (Geo.aJ (Geo.cE s)):=rfl;rw[hJ];clear hJ;generalize Geo.dD s v=P at c60 hP80 hPl|-;generalize Geo.aJ (Geo.cE s)=R at c56 hR80 hRl|-;replace c56:Sat Tryz.prog true 56 [gR (Geo.cE s)] (.sl R.length (R.map fN)):=c56;refine zE (by kernel_rfl) Tryz.func61 rfl ?_
 rw[Tryz.ntmps61,Tryz.results61];show awp _ _ (Un _ _ _) (.p (.agg [fN s.outer,kM s.holes]):: .p (.sl v.length (jB v))::un 59 []) [] 0;simp only[un];refine pl 2 (by kernel_rfl) rfl fun K0 hK0=> ?_
 refine st 0 1 rfl rfl rfl (by simp only[AOp,eH,GD,aFc,gS,LA,LB];and_intros<;>first|rfl|trivial) (by simp only[PS];rfl) (by simp only[GS];rfl) ?_
 refine op (by simp only[go_sem,simprocAttr];and_intros<;>first|rfl|trivial) (by simp only[PS];rfl) ?_
 refine dN (hK0 _ _ _ ?_);refine pl 5 (by kernel_rfl) rfl fun K1 hK1=> ?_
 refine sp 1 rfl rfl (by simp only[AOp,eH];exact aEb ⟨rfl,rfl,trivial⟩) (by simp only[PS];rfl) ?_
 refine st 3 2 rfl rfl rfl (by simp only[AOp,eH,GD,aFc,gS,LA];and_intros<;>first|rfl|trivial) (by simp only[PS];rfl) (by simp only[GS];rfl) ?_
 refine op (by simp only[go_sem,simprocAttr];and_intros<;>first|rfl|trivial) (by simp only[PS];rfl) ?_
 refine dN (hK1 _ _ _ ?_);refine lZ fun K2 hK2=> ?_
 refine pl 10 (by kernel_rfl) rfl fun K3 hK3=> ?_
 iterate 2 refine op (by simp only[go_sem,simprocAttr];and_intros<;>first|rfl|trivial) (by simp only[PS];rfl) ?_
 refine sp 3 rfl rfl (by simp only[AOp,eH,GD,rK,LB];exact .inl (mY c60 rfl ⟨rfl,rfl,rfl⟩)) (by simp only[PS];rfl) ?_
 iterate 2 refine op (by simp only[go_sem,simprocAttr];and_intros<;>first|rfl|trivial) (by simp only[PS];rfl) ?_
 refine dN (hK3 _ _ _ ?_);refine qB ?_;refine Be (fun Fz Lz Nz=>∃k:Nat,k<=P.length/\Fz=(.any:: .any:: .ptr 0 0:: .any:: .any:: .ptr 1 0:: .any:: .any:: .any:: .any:: .any:: .any:: .any:: .any:: .any:: .any:: .p (.sl P.length (aFb P)):: .p (.int .i64 (P.length:Int)):: .p (.int .i64 ((k:Nat):Int)):: .any:: .any:: .any:: .any:: .any:: .any:: .any:: .any:: .any:: .any:: .any:: .any:: .any:: .any:: .any:: .any:: .any:: .any:: .any:: .any:: .any:: .any:: .any:: .any:: .any:: .any:: .any:: .any:: .any:: .any:: .any:: .any:: .any:: .any:: .any:: .any:: .any:: .any:: .any:: .any:: .any:: .any::[])/\Lz=[(0,some ⟨26,0,[.p (fN s.outer),.p (kM s.holes)]⟩),(1,some ⟨129,0,List.map AV.p (zP (Geo.mC (P.take k)))⟩)]/\Nz=2) (fun Fz _=>P.length-ctr 18 Fz) ?_ ?_
 ·refine⟨_,_,_,?w1,⟨0,Nat.zero_le _,rfl,rfl,rfl⟩⟩;refine sO [(0,some 0),(1,some 3)] (by kernel_rfl) ?_ ?_<;>simp only[go_sem,simprocAttr,List.take_zero,t00,yV] <;>(and_intros<;>first|rfl|exact⟨_,rfl,rfl⟩)
 rintro _ _ _ ⟨k,hk,rfl,rfl,rfl⟩;refine pl 3 (by kernel_rfl) rfl fun K4 hK4=> ?_
 refine op (by simp only[go_sem,simprocAttr];and_intros<;>first|rfl|trivial) (by simp only[PS];rfl) ?_
 refine dN (hK4 _ _ _ ?_);refine lZ fun K5 hK5=> ?_
 refine Hm (b:=decide ((k:Int)<(P.length:Int))) (by simp only[eH,GD] <;>rfl) (fun h1=> ?_) (fun h1=> ?_)
 ·skip
  have hlt:k<P.length:=by have:=of_decide_eq_true h1;omega
  have x0:(0:Int)<=(k:Int):=by omega
  have x1:(k:Int)<(P.length:Int):=by omega
  have x2:=aFZ hlt;have d0:(0:Int)<((2:Nat):Int):=by decide
  have d1:(1:Int)<((2:Nat):Int):=by decide
  have x8:=Bz (show k<=1000000 by omega)
  have hp80:=hP80 _ (List.getElem_mem hlt);have c136:=Lb (Geo.mC (P.take k)) hp80.1 hp80.2;rw[Tt P hlt]at c136;refine Hk ?_;try simp only
  refine hK5 _ _ _ ?_;refine lZ fun K6 hK6=> ?_
  refine qB ?_;refine pl 7 (by kernel_rfl) rfl fun K7 hK7=> ?_
  iterate 2 refine op (by simp only[go_sem,simprocAttr,x0,x1,x2];and_intros<;>first|rfl|trivial) (by simp only[PS];rfl) ?_
  refine st 5 3 rfl rfl rfl (by simp only[AOp,Np,LA,T67];and_intros<;>first|rfl|trivial) (by simp only[PS];rfl) (by simp only[GS];rfl) ?_
  refine st 6 4 rfl rfl rfl (by simp only[AOp,eH,GD,yU,gS,lO,LC,LB,look,LA,↓reduceIte,Nat.reduceAdd,T67,x1];and_intros<;>first|rfl|trivial) (by simp only[PS];rfl) (by simp only[GS];rfl) ?_
  refine dN (hK7 _ _ _ ?_);refine ple 13 (by kernel_rfl) rfl fun K8 hK8=> ?_
  iterate 5 refine op (by simp only[go_sem,simprocAttr];and_intros<;>first|rfl|trivial) (by simp only[PS];rfl) ?_
  refine st 12 6 rfl rfl rfl (by simp only[AOp,eH,GD,rK,LB];exact .inl (Ix rfl rfl c136 ⟨rfl,rfl,rfl⟩)) (by simp only[PS];rfl) (by simp only[GS];rfl) ?_
  refine dN (hK8 _ _ _ ?_);try simp only
  refine hK6 _ _ _ ?_;refine ple 15 (by kernel_rfl) rfl fun K9 hK9=> ?_
  iterate 2 refine op (by simp only[go_sem,simprocAttr,x8];and_intros<;>first|rfl|trivial) (by simp only[PS];rfl) ?_
  refine dN (hK9 _ _ _ ?_);try simp only
  refine⟨_,_,_,?w2,⟨k+1,by omega,rfl,rfl,rfl⟩,?m2⟩
  case m2=>simp only[ctr,List.getD_cons_succ,List.getD_cons_zero,Int.toNat_natCast];omega
  case w2=>
   refine sO [(0,some 0),(1,some 1)] (by kernel_rfl) ?_ ?_<;>simp only[go_sem,simprocAttr,yV] <;>(and_intros<;>first|rfl|exact⟨_,rfl,rfl⟩)
 ·skip
  have hkl:k=P.length:=by
   have h2:¬((k:Int)<(P.length:Int)):=of_decide_eq_false h1;omega
  subst hkl;rw[List.take_length];refine Hl ?_;try simp only[IF]
  refine hK2 _ _ _ ?_;refine pl 4 (by kernel_rfl) rfl fun K10 hK10=> ?_
  refine op (by simp only[go_sem,simprocAttr];and_intros<;>first|rfl|trivial) (by simp only[PS];rfl) ?_
  refine dN (hK10 _ _ _ ?_);refine lZ fun K11 hK11=> ?_
  refine pl 9 (by kernel_rfl) rfl fun K12 hK12=> ?_
  refine op (by simp only[go_sem,simprocAttr];and_intros<;>first|rfl|trivial) (by simp only[PS];rfl) ?_
  refine sp 2 rfl rfl (by simp only[AOp,eH,GD,rK,LB];exact .inl (mY c57 rfl ⟨rfl,rfl,rfl⟩)) (by simp only[PS];rfl) ?_
  refine sp 3 rfl rfl (by simp only[AOp,eH,GD,rK,LB];exact .inl (mY c56 rfl ⟨rfl,rfl,rfl⟩)) (by simp only[PS];rfl) ?_
  iterate 2 refine op (by simp only[go_sem,simprocAttr];and_intros<;>first|rfl|trivial) (by simp only[PS];rfl) ?_
  refine dN (hK12 _ _ _ ?_);refine qB ?_;refine Be (fun Fz Lz Nz=>∃j:Nat,j<=R.length/\Fz=(.any:: .any:: .any:: .any:: .any:: .ptr 1 0:: .any:: .any:: .p (.int .i64 ((R.take j).flatten.length:Int)):: .any:: .any:: .any:: .any:: .any:: .any:: .any:: .any:: .any:: .any:: .any:: .any:: .any:: .any:: .any:: .any:: .any:: .any:: .any:: .any:: .any:: .any:: .p (.sl R.length (R.map fN)):: .p (.int .i64 (R.length:Int)):: .p (.int .i64 ((j:Nat):Int)):: .any:: .any:: .any:: .any:: .any:: .any:: .any:: .any:: .any:: .any:: .any:: .any:: .any:: .any:: .any:: .any:: .any:: .any:: .any:: .any:: .any:: .any:: .any:: .any:: .any:: .any:: .any::[])/\Lz=[(1,some ⟨129,0,List.map AV.p (zP (Geo.kK (Geo.mC P) 0 (R.take j)))⟩)]/\Nz=2) (fun Fz _=>R.length-ctr 33 Fz) ?_ ?_
  ·refine⟨_,_,_,?w3,⟨0,Nat.zero_le _,rfl,rfl,rfl⟩⟩;refine sO [(1,some 1)] (by kernel_rfl) ?_ ?_<;>simp only[go_sem,simprocAttr,List.take_zero,Geo.kK,List.flatten_nil,List.length_nil,yV] <;>(and_intros<;>first|rfl|exact⟨_,rfl,rfl⟩)
  rintro _ _ _ ⟨j,hj,rfl,rfl,rfl⟩;refine pl 3 (by kernel_rfl) rfl fun K13 hK13=> ?_
  refine op (by simp only[go_sem,simprocAttr];and_intros<;>first|rfl|trivial) (by simp only[PS];rfl) ?_
  refine dN (hK13 _ _ _ ?_);refine lZ fun K14 hK14=> ?_
  refine Hm (b:=decide ((j:Int)<(R.length:Int))) (by simp only[eH,GD] <;>rfl) (fun h3=> ?_) (fun h3=> ?_)
  ·skip
   have hlt:j<R.length:=by have:=of_decide_eq_true h3;omega
   have y0:(0:Int)<=(j:Int):=by omega
   have y1:(j:Int)<(R.length:Int):=by omega
   have y2:(R.map fN)[j]? =some (.sl R[j].length (jB R[j])):=by rw[List.getElem?_map,List.getElem?_eq_getElem hlt];rfl
   have y8:=Bz (show j<=1000000 by omega)
   have hat:(R.take j).flatten.length+R[j].length=(R.take (j+1)).flatten.length:=by rw[aBy R hlt,List.length_append]
   have hat2:=Pp R (j+1);have hst:=Ts R (Geo.mC P) hlt;refine Hk ?_;try simp only
   refine hK14 _ _ _ ?_;refine lZ fun K15 hK15=> ?_
   refine qB ?_;refine pl 6 (by kernel_rfl) rfl fun K16 hK16=> ?_
   iterate 3 refine op (by simp only[go_sem,simprocAttr,y0,y1,y2];and_intros<;>first|rfl|trivial) (by simp only[PS];rfl) ?_
   refine dN (hK16 _ _ _ ?_);refine lZ fun K17 hK17=> ?_
   refine pl 9 (by kernel_rfl) rfl fun K18 hK18=> ?_
   iterate 3 refine op (by simp only[go_sem,simprocAttr];and_intros<;>first|rfl|trivial) (by simp only[PS];rfl) ?_
   refine dN (hK18 _ _ _ ?_);refine qB ?_;refine Be (fun Fz Lz Nz=>∃q:Nat,q<=R[j].length/\Fz=(.any:: .any:: .any:: .any:: .any:: .ptr 1 0:: .any:: .any:: .p (.int .i64 ((R.take j).flatten.length:Int)):: .any:: .p (.sl R[j].length (jB R[j])):: .any:: .any:: .any:: .any:: .any:: .any:: .any:: .any:: .any:: .any:: .any:: .any:: .any:: .any:: .any:: .any:: .any:: .any:: .any:: .any:: .p (.sl R.length (R.map fN)):: .p (.int .i64 (R.length:Int)):: .p (.int .i64 ((j:Nat):Int)):: .any:: .any:: .any:: .any:: .p (.int .i64 (R[j].length:Int)):: .p (.int .i64 ((q:Nat):Int)):: .any:: .any:: .any:: .any:: .any:: .any:: .any:: .any:: .any:: .any:: .any:: .any:: .any:: .any:: .any:: .any:: .any:: .any:: .any:: .any:: .any::[])/\Lz=[(1,some ⟨129,0,List.map AV.p (zP (Geo.sK (Geo.kK (Geo.mC P) 0 (R.take j)) R[j].length (R.take j).flatten.length q))⟩)]/\Nz=2) (fun Fz _=>R[j].length-ctr 39 Fz) ?_ ?_
   ·refine⟨_,_,_,?w4,⟨0,Nat.zero_le _,rfl,rfl,rfl⟩⟩;refine sO [(1,some 1)] (by kernel_rfl) ?_ ?_<;>simp only[go_sem,simprocAttr,Geo.sK,yV] <;>(and_intros<;>first|rfl|exact⟨_,rfl,rfl⟩)
   rintro _ _ _ ⟨q,hq,rfl,rfl,rfl⟩;refine pl 3 (by kernel_rfl) rfl fun K19 hK19=> ?_
   refine op (by simp only[go_sem,simprocAttr];and_intros<;>first|rfl|trivial) (by simp only[PS];rfl) ?_
   refine dN (hK19 _ _ _ ?_);refine lZ fun K20 hK20=> ?_
   refine Hm (b:=decide ((q:Int)<(R[j].length:Int))) (by simp only[eH,GD] <;>rfl) (fun h5=> ?_) (fun h5=> ?_)
   ·skip
    have hltq:q<R[j].length:=by have:=of_decide_eq_true h5;omega
    have z8:=Bz (show q<=1000000 by omega)
    have hmod:(q+1) % R[j].length<R[j].length:=Nat.mod_lt _ (by omega)
    have w0:IntKind.i64.wrap (((R.take j).flatten.length:Int)+(q:Int))=(((R.take j).flatten.length+q:Nat):Int):=by rw[<-Gk (show(R.take j).flatten.length+q<=1000000 by omega)];simp
    have w1:(R[j].length:Int)≠0:=by omega
    have w2:Int.tmod ((q+1:Nat):Int) (R[j].length:Int)=(((q+1) % R[j].length:Nat):Int):=by rw[Int.ofNat_tmod]
    have w3:IntKind.i64.wrap (((R.take j).flatten.length:Int)+(((q+1) % R[j].length:Nat):Int))=(((R.take j).flatten.length+(q+1) % R[j].length:Nat):Int):=by rw[<-Gk (show(R.take j).flatten.length+(q+1) % R[j].length<=1000000 by omega)];simp
    have c136:=Lb (Geo.sK (Geo.kK (Geo.mC P) 0 (R.take j)) R[j].length (R.take j).flatten.length q) (show(R.take j).flatten.length+q<80 by omega) (show(R.take j).flatten.length+(q+1) % R[j].length<80 by omega)
    replace c136:zT Tryz.prog 136 none [.int .i64 (((R.take j).flatten.length+q:Nat):Int),.int .i64 (((R.take j).flatten.length+(q+1) % R[j].length:Nat):Int)] 129 0 (zP (Geo.sK (Geo.kK (Geo.mC P) 0 (R.take j)) R[j].length (R.take j).flatten.length q)) (zP (Geo.sK (Geo.kK (Geo.mC P) 0 (R.take j)) R[j].length (R.take j).flatten.length (q+1))):=c136;refine Hk ?_;try simp only
    refine hK20 _ _ _ ?_;refine lZ fun K21 hK21=> ?_
    refine qB ?_;refine pl 5 (by kernel_rfl) rfl fun K22 hK22=> ?_
    iterate 2 refine op (by simp only[go_sem,simprocAttr];and_intros<;>first|rfl|trivial) (by simp only[PS];rfl) ?_
    refine dN (hK22 _ _ _ ?_);refine ple 17 (by kernel_rfl) rfl fun K23 hK23=> ?_
    iterate 11 refine op (by simp only[go_sem,simprocAttr,w0,z8,w1,w2,w3];and_intros<;>first|rfl|trivial) (by simp only[PS];rfl) ?_
    refine st 16 12 rfl rfl rfl (by simp only[AOp,eH,GD,rK,LB];exact .inl (Ix rfl rfl c136 ⟨rfl,rfl,rfl⟩)) (by simp only[PS];rfl) (by simp only[GS];rfl) ?_
    refine dN (hK23 _ _ _ ?_);try simp only
    refine hK21 _ _ _ ?_;refine ple 19 (by kernel_rfl) rfl fun K24 hK24=> ?_
    iterate 2 refine op (by simp only[go_sem,simprocAttr,z8];and_intros<;>first|rfl|trivial) (by simp only[PS];rfl) ?_
    refine dN (hK24 _ _ _ ?_);try simp only
    refine⟨_,_,_,?w5,⟨q+1,by omega,rfl,rfl,rfl⟩,?m5⟩
    case m5=>simp only[ctr,List.getD_cons_succ,List.getD_cons_zero,Int.toNat_natCast];omega
    case w5=>
     refine sO [(1,some 1)] (by kernel_rfl) ?_ ?_<;>simp only[go_sem,simprocAttr,yV] <;>(and_intros<;>first|rfl|exact⟨_,rfl,rfl⟩)
   ·skip
    have hkq:q=R[j].length:=by
     have h6:¬((q:Int)<(R[j].length:Int)):=of_decide_eq_false h5;omega
    subst hkq;rw[<-hst];have w5:IntKind.i64.wrap (((R.take j).flatten.length:Int)+(R[j].length:Int))=((R.take (j+1)).flatten.length:Int):=by rw[<-hat,<-Gk (show(R.take j).flatten.length+R[j].length<=1000000 by omega)];simp
    refine Hl ?_;try simp only[IF,Nat.reduceEqDiff]
    refine hK17 _ _ _ ?_;refine ple 8 (by kernel_rfl) rfl fun K25 hK25=> ?_
    iterate 5 refine op (by simp only[go_sem,simprocAttr,w5];and_intros<;>first|rfl|trivial) (by simp only[PS];rfl) ?_
    refine dN (hK25 _ _ _ ?_);try simp only
    refine hK15 _ _ _ ?_;refine ple 10 (by kernel_rfl) rfl fun K26 hK26=> ?_
    iterate 2 refine op (by simp only[go_sem,simprocAttr,y8];and_intros<;>first|rfl|trivial) (by simp only[PS];rfl) ?_
    refine dN (hK26 _ _ _ ?_);try simp only
    refine⟨_,_,_,?w6,⟨j+1,by omega,rfl,rfl,rfl⟩,?m6⟩
    case m6=>simp only[ctr,List.getD_cons_succ,List.getD_cons_zero,Int.toNat_natCast];omega
    case w6=>
     refine sO [(1,some 1)] (by kernel_rfl) ?_ ?_<;>simp only[go_sem,simprocAttr,yV] <;>(and_intros<;>first|rfl|exact⟨_,rfl,rfl⟩)
  ·skip
   have hkl:j=R.length:=by
    have h4:¬((j:Int)<(R.length:Int)):=of_decide_eq_false h3;omega
   subst hkl;rw[List.take_length];refine Hl ?_;try simp only[IF]
   refine hK11 _ _ _ ?_;refine pl 5 (by kernel_rfl) rfl fun K27 hK27=> ?_
   iterate 2 refine op (by simp only[go_sem,simprocAttr];and_intros<;>first|rfl|trivial) (by simp only[PS];rfl) ?_
   refine dN (hK27 _ _ _ ?_);refine aAq ?_;try simp only[IF,reduceCtorEq,Nat.reduceEqDiff]
   simp only[Un,yD,List.getD_cons_succ,List.getD_cons_zero,nS,jA,look,Option.bind_some,Option.map_some,yW,Option.some.injEq,exists_eq_left',Qc,↓reduceIte]
def tF(T:Geo.Tab):Nat->Bool:=fun k=>T (k/80) (k % 80)
noncomputable def c61:Con:=con (ac aSh (a1 (aL .V))) (fun(s,v)=>[Fit s,Geo.bV s=true,v.length<=80,(∀x∈v,bd 1000000000 x)]) (fun(s,v)=> .ptb (tF (Geo.gZ s v)) 6400 0)
theorem k61:c61.Ok Tryz.prog 61:=by
 intro xs x hd hp;obtain⟨s,v⟩:=x;obtain⟨h1,h2,h3,h4⟩:Fit s/\Geo.bV s=true/\v.length<=80/\∀x∈v,bd 1000000000 x:=(fE (l:=[Fit s,Geo.bV s=true,v.length<=80,(∀x∈v,bd 1000000000 x)])).2 hp;refine⟨[gR s,.sl v.length (jB v)],_,?_,rfl,Wi s h1 h2 v h3 ?_ h4⟩
 ·rw[(ac aSh (a1 (aL .V))).ok xs (s,v) hd];show [(aSh.enc s).av,_] =_;rw[Dm];rfl
 ·exact Gm ((Geo.fU s).1 h2)
noncomputable def t61:Tab:=cJ [(61,c61)] t62
theorem aKz:t61.Ok Tryz.prog:=aH aNS ⟨k61,trivial⟩
end Go.Proofs.YtdaeofhdgabhjaaGreat
namespace Go.Proofs.YtdaeofhdgabhjaaGreat
open Go.RowKit
open Geo (nth)
def bK(s:Geo.Shape)(v:List Geo.V)(T:Geo.Tab)(i j k:Nat):Bool:=T i k&&(T j k&&Geo.iC s v i j k)
noncomputable def c21:Con:=con (a1 aSh) (fun s=>[Fit s]) (fun s=> .tup [.lst .R (tOf s),.int .i64 (eOf s)])
set_option maxRecDepth 100000 in
set_option maxHeartbeats 2000000 in
theorem k21:c21.Ok Tryz.prog 21:=aU (bL aKz) (raw:=bO) (fun s=>[(8,.mk Nat (fun F _=>rH F 26) [23] (fun i=>[i<=(vOf s).length]) (fun i=>[(26,.int .i64 (i:Int)),(8,.own 23 .R (mB s (vOf s) (tT s) i).length)]) (fun i=>[(23,.row 23 .R (mB s (vOf s) (tT s) i))]) (fun i=>(vOf s).length-i) fun i=>
  [(11,.mk Nat (fun F _=>rH F 10) [23] (fun j=>[i<j,j<=(vOf s).length]) (fun j=>[(10,.int .i64 (j:Int)),(8,.own 23 .R (tJ s (vOf s) (tT s) i j).length)]) (fun j=>[(23,.row 23 .R (tJ s (vOf s) (tT s) i j))]) (fun j=>(vOf s).length-j) fun j=>
  [(14,.mk Nat (fun F _=>rH F 11) [23] (fun k=>[j<k,k<=(vOf s).length,tT s i j=true\/k=j+1]) (fun k=>[(11,.int .i64 (k:Int)),(8,.own 23 .R (tK s (vOf s) (tT s) i j k).length)]) (fun k=>[(23,.row 23 .R (tK s (vOf s) (tT s) i j k))]) (fun k=>(vOf s).length-k) fun k=>[jb 17 76 (bK s (vOf s) (tT s) i j k)])])])]
  ) (fun _=>⟨_,rfl⟩) fun s hp=>bM (q:=Fit s/\(¬eOf s=0->tOf s=([] :List (List Geo.V))/\eOf s=eOf s)/\
 (¬(¬eOf s=0)->Fit s/\Geo.bV s=true/\(vOf s).length<=80/\(∀x:Geo.V,x∈vOf s->bd 1000000000 x)/\(0=(0:Int)/\(mB s (vOf s) (tT s) 0).length=0/\mB s (vOf s) (tT s) 0=([] :List (List Geo.V))/\(0:Nat)<=(vOf s).length)/\
  (∀x:Nat,x<=(vOf s).length->((x:Int)<(vOf s).length->aG ((x:Int)+1)/\((x:Int)+1=((x+1:Nat):Int)/\(mB s (vOf s) (tT s) x).length=(tJ s (vOf s) (tT s) x (x+1)).length/\mB s (vOf s) (tT s) x=tJ s (vOf s) (tT s) x (x+1)/\x<x+1/\x+1<=(vOf s).length)/\
    (∀x_1:Nat,x<x_1/\x_1<=(vOf s).length->((x_1:Int)<(vOf s).length->aG ((x_1:Int)+1)/\((x_1:Int)+1=((x_1+1:Nat):Int)/\(tJ s (vOf s) (tT s) x x_1).length=(tK s (vOf s) (tT s) x x_1 (x_1+1)).length/\tJ s (vOf s) (tT s) x x_1=tK s (vOf s) (tT s) x x_1 (x_1+1)/\x_1<x_1+1/\x_1+1<=(vOf s).length/\(tT s x x_1=true\/x_1+1=x_1+1))/\
      (∀x_2:Nat,x_1<x_2/\x_2<=(vOf s).length/\(tT s x x_1=true\/x_2=x_1+1)->((x_2:Int)<(vOf s).length->ix (x:Int) 80/\ix (x_1:Int) 80/\0+x*80+x_1*1<6400/\(tF (Geo.gZ s (vOf s)) (0+x*80+x_1*1)=true->(ix (x:Int) 80/\ix (x_2:Int) 80/\0+x*80+x_2*1<6400/\(tF (Geo.gZ s (vOf s)) (0+x*80+x_2*1)=true->ix (x_1:Int) 80/\ix (x_2:Int) 80/\0+x_1*80+x_2*1<6400/\(tF (Geo.gZ s (vOf s)) (0+x_1*80+x_2*1)=true->x<(vOf s).length/\x_1<(vOf s).length/\x_2<(vOf s).length/\(vOf s).length<=900/\(∀x:Geo.V,x∈vOf s->bd 1000000000 x)/\Fit s/\Geo.iC s (vOf s) x x_1 x_2=bK s (vOf s) (tT s) x x_1 x_2)/\
           (tF (Geo.gZ s (vOf s)) (0+x_1*80+x_2*1)=false->false=bK s (vOf s) (tT s) x x_1 x_2))/\
          (tF (Geo.gZ s (vOf s)) (0+x*80+x_2*1)=false->false=bK s (vOf s) (tT s) x x_1 x_2))/\
         (∀y:Unit,(bK s (vOf s) (tT s) x x_1 x_2=true->ix (x:Int) (vOf s).length/\ix (x_1:Int) (vOf s).length/\ix (x_2:Int) (vOf s).length/\bd 1000000000 (nth (vOf s) x)/\bd 1000000000 (nth (vOf s) x_1)/\bd 1000000000 (nth (vOf s) x_2)/\(tK s (vOf s) (tT s) x x_1 x_2).length=(tK s (vOf s) (tT s) x x_1 x_2).length/\(tK s (vOf s) (tT s) x x_1 x_2).length+[Geo.kR (nth (vOf s) x) (nth (vOf s) x_1) (nth (vOf s) x_2)].length<=1000000/\aG ((x_2:Int)+1)/\(x_2:Int)+1=((x_2+1:Nat):Int)/\(tK s (vOf s) (tT s) x x_1 x_2++[Geo.kR (nth (vOf s) x) (nth (vOf s) x_1) (nth (vOf s) x_2)]).length=(tK s (vOf s) (tT s) x x_1 (x_2+1)).length/\tK s (vOf s) (tT s) x x_1 x_2++[Geo.kR (nth (vOf s) x) (nth (vOf s) x_1) (nth (vOf s) x_2)] =tK s (vOf s) (tT s) x x_1 (x_2+1)/\x_1<x_2+1/\x_2+1<=(vOf s).length/\(tT s x x_1=true\/x_2+1=x_1+1)/\(vOf s).length-(x_2+1)<(vOf s).length-x_2)/\
          (bK s (vOf s) (tT s) x x_1 x_2=false->aG ((x_2:Int)+1)/\(x_2:Int)+1=((x_2+1:Nat):Int)/\(tK s (vOf s) (tT s) x x_1 x_2).length=(tK s (vOf s) (tT s) x x_1 (x_2+1)).length/\tK s (vOf s) (tT s) x x_1 x_2=tK s (vOf s) (tT s) x x_1 (x_2+1)/\x_1<x_2+1/\x_2+1<=(vOf s).length/\(tT s x x_1=true\/x_2+1=x_1+1)/\(vOf s).length-(x_2+1)<(vOf s).length-x_2)))/\
        (tF (Geo.gZ s (vOf s)) (0+x*80+x_1*1)=false->aG ((x_1:Int)+1)/\(x_1:Int)+1=((x_1+1:Nat):Int)/\(tK s (vOf s) (tT s) x x_1 x_2).length=(tJ s (vOf s) (tT s) x (x_1+1)).length/\tK s (vOf s) (tT s) x x_1 x_2=tJ s (vOf s) (tT s) x (x_1+1)/\x<x_1+1/\x_1+1<=(vOf s).length/\(vOf s).length-(x_1+1)<(vOf s).length-x_1))/\
       (¬(x_2:Int)<(vOf s).length->aG ((x_1:Int)+1)/\(x_1:Int)+1=((x_1+1:Nat):Int)/\(tK s (vOf s) (tT s) x x_1 x_2).length=(tJ s (vOf s) (tT s) x (x_1+1)).length/\tK s (vOf s) (tT s) x x_1 x_2=tJ s (vOf s) (tT s) x (x_1+1)/\x<x_1+1/\x_1+1<=(vOf s).length/\(vOf s).length-(x_1+1)<(vOf s).length-x_1)))/\
     (¬(x_1:Int)<(vOf s).length->aG ((x:Int)+1)/\(x:Int)+1=((x+1:Nat):Int)/\(tJ s (vOf s) (tT s) x x_1).length=(mB s (vOf s) (tT s) (x+1)).length/\tJ s (vOf s) (tT s) x x_1=mB s (vOf s) (tT s) (x+1)/\x+1<=(vOf s).length/\(vOf s).length-(x+1)<(vOf s).length-x)))/\
   (¬(x:Int)<(vOf s).length->(mB s (vOf s) (tT s) x).length=(mB s (vOf s) (tT s) x).length/\(mB s (vOf s) (tT s) x).length<=1000000/\(∀r:Geo.aD,r∈mB s (vOf s) (tT s) x->r.length<=1000)/\(mB s (vOf s) (tT s) x).length=(r68 (mB s (vOf s) (tT s) x,true)).length/\r68 (mB s (vOf s) (tT s) x,true)=tOf s/\0=eOf s)))) (by kernel_rfl) (by
  change Fit s at hp;have R:¬¬eOf s=0->Geo.aQ s=true:=fun h=>Ff h
  have hvP:¬¬eOf s=0->Geo.bV s=true:=fun h=>by rw[Geo.lW];exact R h
  have t0:¬eOf s=0->tOf s=[] :=fun h=>by
   unfold eOf at h;split at h
   ·exact(h rfl).elim
   ·exact if_neg ‹_›
  have hv:=Bt s;have hv9:(vOf s).length<=900:=by omega
  have hvm:∀x∈vOf s,bd 1000000000 x:=fun x hx=>by
   obtain⟨i,hi,rfl⟩:=Geo.fL.1 hx;exact Uz hi (by decide)
  have hb:∀x:Nat,(x:Int)<(vOf s).length->bd 1000000000 (nth (vOf s) x):=fun x h=>Uz (by omega) (by decide)
  have gF:∀(i j:Nat) (b:Bool),(j:Int)<(vOf s).length->tF (Geo.gZ s (vOf s)) (0+i*80+j*1)=b->tT s i j=b:=fun i j b h h2=>by
   unfold tF at h2;rw[show(0+i*80+j*1)/80=i by omega,show(0+i*80+j*1) % 80=j by omega]at h2
   exact h2
  have x80:∀i:Nat,(i:Int)<(vOf s).length->ix (i:Int) 80:=fun i h=>nW (by omega)
  have xvl:∀i:Nat,(i:Int)<(vOf s).length->ix (i:Int) (vOf s).length:=fun i h=>nW (by omega)
  have i64:∀i:Nat,(i:Int)<(vOf s).length->aG ((i:Int)+1):=fun i h=>dY (by omega)
  have kS:∀i j k:Nat,j<k->tK s (vOf s) (tT s) i j (k+1)=if bK s (vOf s) (tT s) i j k=true then tK s (vOf s) (tT s) i j k++[Geo.kR (nth (vOf s) i) (nth (vOf s) j) (nth (vOf s) k)]else tK s (vOf s) (tT s) i j k:=fun i j k h=>by rw[aFk h];rfl
  have kY:∀i j k:Nat,j<k->bK s (vOf s) (tT s) i j k=true->tK s (vOf s) (tT s) i j k++[Geo.kR (nth (vOf s) i) (nth (vOf s) j) (nth (vOf s) k)] =tK s (vOf s) (tT s) i j (k+1):=fun i j k h h2=>by rw[kS i j k h,if_pos h2]
  have kN:∀i j k:Nat,j<k->bK s (vOf s) (tT s) i j k=false->tK s (vOf s) (tT s) i j k=tK s (vOf s) (tT s) i j (k+1):=fun i j k h h2=>by rw[kS i j k h,if_neg (by rw[h2];simp)]
  have kZ:∀i j:Nat,tT s i j=false->i<j->tK s (vOf s) (tT s) i j (j+1)=tJ s (vOf s) (tT s) i (j+1):=fun i j h h2=>Yx.trans (aNl h h2)
  have kE:∀i j k:Nat,¬(k:Int)<(vOf s).length->k<=(vOf s).length->(tT s i j=true\/k=j+1)->i<j->tK s (vOf s) (tT s) i j k=tJ s (vOf s) (tT s) i (j+1):=fun i j k h1 h2 h3 h4=>by
   cases hT:tT s i j with
   |true=>exact aIU h1 hT h4 h2
   |false=>
    rcases h3 with h3|rfl
    ·rw[hT]at h3;cases h3
    ·exact kZ i j hT h4
  have kF:∀i j k:Nat,(j:Int)<(vOf s).length->tF (Geo.gZ s (vOf s)) (0+i*80+j*1)=false->(tT s i j=true\/k=j+1)->i<j->tK s (vOf s) (tT s) i j k=tJ s (vOf s) (tT s) i (j+1):=fun i j k h1 h2 h3 h4=>by
   have hT:=gF i j _ h1 h2;rcases h3 with h3|rfl
   ·rw[hT]at h3;cases h3
   ·exact kZ i j hT h4
  have jE:∀i j:Nat,¬(j:Int)<(vOf s).length->j<=(vOf s).length->tJ s (vOf s) (tT s) i j=mB s (vOf s) (tT s) (i+1):=fun i j h1 h2=>aIV h1 h2
  have bE:∀i j k:Nat,(k:Int)<(vOf s).length->tF (Geo.gZ s (vOf s)) (0+i*80+k*1)=true->tF (Geo.gZ s (vOf s)) (0+j*80+k*1)=true->Geo.iC s (vOf s) i j k=bK s (vOf s) (tT s) i j k:=fun i j k h h1 h2=>by
   unfold bK;rw[gF i k _ h h1,gF j k _ h h2];rfl
  have bN1:∀i j k:Nat,(k:Int)<(vOf s).length->tF (Geo.gZ s (vOf s)) (0+i*80+k*1)=false->false=bK s (vOf s) (tT s) i j k:=fun i j k h h1=>by
   unfold bK;rw[gF i k _ h h1];rfl
  have bN2:∀i j k:Nat,(k:Int)<(vOf s).length->tF (Geo.gZ s (vOf s)) (0+j*80+k*1)=false->false=bK s (vOf s) (tT s) i j k:=fun i j k h h1=>by
   unfold bK;rw[gF j k _ h h1];simp
  have kL:∀i j k:Nat,(i:Int)<(vOf s).length->(j:Int)<(vOf s).length->k<=(vOf s).length->(tK s (vOf s) (tT s) i j k).length<=600000:=fun i j k h1 h2 h3=>by
   have:=aIT (s:=s) (T:=tT s) (i:=i) (j:=j) (k:=k) (show(vOf s).length<=80 from hv) (by omega) (by omega) h3
   rwa[(Geo.oA _).length_eq]at this
  have iL:∀i:Nat,i<=(vOf s).length->(mB s (vOf s) (tT s) i).length<=600000:=fun i h=>by
   have h3:=wL s (vOf s) (tT s) i;have h4:(vOf s).length*(vOf s).length<=80*80:=Nat.mul_le_mul hv hv;have h5:i*((vOf s).length*(vOf s).length)<=80*(80*80):=Nat.mul_le_mul (by omega) h4
   omega
  have iM:∀i:Nat,∀r∈mB s (vOf s) (tT s) i,r.length<=1000:=fun i r hr=>by have:=Iu s (vOf s) (tT s) i r hr;omega
  have iE:¬¬eOf s=0->∀i:Nat,¬(i:Int)<(vOf s).length->i<=(vOf s).length->r68 (mB s (vOf s) (tT s) i,true)=tOf s:=fun h i h1 h2=>by
   unfold tOf;rw[if_pos (R h),show i=(vOf s).length by omega];rfl
  have r68L:∀l,(r68 (l,true)).length=l.length:=fun l=>(Geo.oA l).length_eq
  have z0:=fun i=> @aFl s (vOf s) (tT s) i
  have z1:=fun i j=> @Yx s (vOf s) (tT s) i j
  have hf:=hp;clear hp kS kZ R
  repeat' first|with_reducible apply And.intro|with_reducible intro
  all_goals repeat with_reducible cases‹_<_/\_›
  all_goals repeat with_reducible cases‹_<=_/\_›
  all_goals first|assumption|rfl|omega|exact t0 ‹_› |exact hvP ‹_› |exact hvm _ ‹_› |exact hb _ ‹_› |(unfold ix;omega)|(unfold aG;omega)|exact(z0 _).symm|exact(z1 _ _).symm|exact congrArg List.length (z0 _).symm|exact congrArg List.length (z1 _ _).symm|exact .inr rfl|exact .inl (gF _ _ _ ‹_› ‹_›)|exact kY _ _ _ ‹_› ‹_› |exact congrArg List.length (kY _ _ _ ‹_› ‹_›)|exact kN _ _ _ ‹_› ‹_› |exact congrArg List.length (kN _ _ _ ‹_› ‹_›)|exact kF _ _ _ ‹_› ‹_› ‹_› ‹_› |exact congrArg List.length (kF _ _ _ ‹_› ‹_› ‹_› ‹_›)|exact kE _ _ _ ‹_› ‹_› ‹_› ‹_› |exact congrArg List.length (kE _ _ _ ‹_› ‹_› ‹_› ‹_›)|exact jE _ _ ‹_› ‹_› |exact congrArg List.length (jE _ _ ‹_› ‹_›)|exact bE _ _ _ ‹_› ‹_› ‹_› |exact bN1 _ _ _ ‹_› ‹_› |exact bN2 _ _ _ ‹_› ‹_› |exact Nat.le_trans (Nat.add_le_add_right (kL _ _ _ ‹_› ‹_› ‹_›) 1) (by decide)|exact Nat.le_trans (iL _ ‹_›) (by decide)|exact iM _ _ ‹_› |exact(r68L _).symm|exact iE ‹_› _ ‹_› ‹_› |exact(Decidable.of_not_not ‹¬¬eOf s=0›).symm)
noncomputable def t21:Tab:=cJ [(21,c21)] t61
theorem aKQ:t21.Ok Tryz.prog:=aH aKz ⟨k21,trivial⟩
end Go.Proofs.YtdaeofhdgabhjaaGreat
namespace Go.Proofs.YtdaeofhdgabhjaaGreat.Geo
structure P3 where
 x:Int
 y:Int
 d:Int
def ev(h p:P3):Int:=h.x*p.x+h.y*p.y+h.d*p.d
def cmb(m:Int)(p:P3)(n:Int)(q:P3):P3:=⟨m*p.x+n*q.x,m*p.y+n*q.y,m*p.d+n*q.d⟩
theorem aK(h p q:P3)(m n:Int):ev h (cmb m p n q)=m*ev h p+n*ev h q:=by unfold ev cmb;grind
def Sat(L:List P3):Prop:=∃p:P3,0<p.d/\∀h∈L,0<ev h p
theorem aIF(u v:Int):∃a b:Int,(a≠0\/b≠0)/\a*u+b*v=0:=by
 by_cases h:u=0
 ·exact⟨1,0,.inl (by omega),by subst h;omega⟩
 ·exact⟨v,-u,.inr (by omega),by grind⟩
theorem aN5(x1 y1 x2 y2 x3 y3:Int):∃a b c:Int,(a≠0\/b≠0\/c≠0)/\a*x1+b*x2+c*x3=0/\a*y1+b*y2+c*y3=0:=by
 by_cases h3:x3=0
 ·by_cases h2:x2=0
  ·obtain⟨b,c,hne,hy⟩:=aIF y2 y3;exact⟨0,b,c,by omega,by subst h2 h3;omega,by omega⟩
  ·obtain⟨a,c,hne,hy⟩:=aIF (x2*y1-x1*y2) (x2*y3-x3*y2);refine⟨a*x2,-(a*x1+c*x3),c*x2,?_,by grind,by grind⟩
   rcases hne with h|h
   ·exact .inl (Int.mul_ne_zero h h2)
   ·exact .inr (.inr (Int.mul_ne_zero h h2))
 ·obtain⟨a,b,hne,hy⟩:=aIF (x3*y1-x1*y3) (x3*y2-x2*y3);refine⟨a*x3,b*x3,-(a*x1+b*x2),?_,by grind,by grind⟩
  rcases hne with h|h
  ·exact .inl (Int.mul_ne_zero h h3)
  ·exact .inr (.inl (Int.mul_ne_zero h h3))
theorem aN4(p q r s:P3)(hs:0<s.d):∃a b c e:Int,(a≠0\/b≠0\/c≠0\/e≠0)/\a*p.x+b*q.x+c*r.x+e*s.x=0/\a*p.y+b*q.y+c*r.y+e*s.y=0/\a*p.d+b*q.d+c*r.d+e*s.d=0:=by
 obtain⟨a,b,c,hne,hx,hy⟩:=aN5 (s.d*p.x-p.d*s.x) (s.d*p.y-p.d*s.y) (s.d*q.x-q.d*s.x) (s.d*q.y-q.d*s.y) (s.d*r.x-r.d*s.x) (s.d*r.y-r.d*s.y);have hd:s.d≠0:=by omega
 refine⟨a*s.d,b*s.d,c*s.d,-(a*p.d+b*q.d+c*r.d),?_,by grind,by grind,by grind⟩
 rcases hne with h|h|h
 ·exact .inl (Int.mul_ne_zero h hd)
 ·exact .inr (.inl (Int.mul_ne_zero h hd))
 ·exact .inr (.inr (.inl (Int.mul_ne_zero h hd)))
def pos(n:Int):Int:=if 0<n then n else 0
def mix(a b c e:Int)(p q r s:P3):P3:=⟨a*p.x+b*q.x+c*r.x+e*s.x,a*p.y+b*q.y+c*r.y+e*s.y,a*p.d+b*q.d+c*r.d+e*s.d⟩
theorem qI(h p q r s:P3)(a b c e:Int):ev h (mix a b c e p q r s)=a*ev h p+b*ev h q+c*ev h r+e*ev h s:=by unfold ev mix;grind
theorem Fy(p q r s:P3)(a b c e:Int):(mix a b c e p q r s).d=a*p.d+b*q.d+c*r.d+e*s.d:=rfl
theorem mI{a b c e u v x y:Int}(ha:0<=a)(hb:0<=b)(hc:0<=c)(he:0<=e)(hne:a≠0\/b≠0\/c≠0\/e≠0)(h1:a≠0->0<u)(h2:b≠0->0<v)(h3:c≠0->0<x)(h4:e≠0->0<y):0<a*u+b*v+c*x+e*y:=by
 have t:∀{m z:Int},0<=m->(m≠0->0<z)->0<=m*z/\(m≠0->0<m*z):=by
  intro m z hm hz;by_cases h:m=0
  ·subst h;exact⟨by omega,fun h=>absurd rfl h⟩
  ·have:=Int.mul_pos (show 0<m by omega) (hz h);exact⟨by omega,fun _=>this⟩
 have:=t ha h1;have:=t hb h2;have:=t hc h3;have:=t he h4;generalize a*u=A at*;generalize b*v=B at*;generalize c*x=C at*;generalize e*y=E at*;rcases hne with h|h|h|h<;>grind
theorem aNr{h1 h2 h3 h4:P3}{R:List P3}(s1:Sat (h2::h3::h4::R))(s2:Sat (h1::h3::h4::R))(s3:Sat (h1::h2::h4::R))(s4:Sat (h1::h2::h3::R)):Sat (h1::h2::h3::h4::R):=by
 obtain⟨p,hp,fp⟩:=s1;obtain⟨q,hq,fq⟩:=s2;obtain⟨r,hr,fr⟩:=s3;obtain⟨s,hs,fs⟩:=s4;obtain⟨a,b,c,e,hne,hx,hy,hd⟩:=aN4 p q r s hs;simp only[List.mem_cons,forall_eq_or_imp]at fp fq fr fs;obtain⟨p2,p3,p4,pR⟩:=fp;obtain⟨q1,q3,q4,qR⟩:=fq;obtain⟨r1,r2,r4,rR⟩:=fr;obtain⟨s1,s2,s3,sR⟩:=fs;have pn:∀n:Int,pos n-pos (-n)=n:=by intro n;unfold pos;split<;>split<;>omega
 have p0:∀n:Int,0<=pos n:=by intro n;unfold pos;split<;>omega
 have pz:∀n:Int,pos n≠0->pos (-n)=0:=by intro n;unfold pos;split<;>split<;>omega
 have pz':∀n:Int,pos (-n)≠0->pos n=0:=by intro n;unfold pos;split<;>split<;>omega
 have key:∀h:P3,ev h (mix (pos a) (pos b) (pos c) (pos e) p q r s)=ev h (mix (pos (-a)) (pos (-b)) (pos (-c)) (pos (-e)) p q r s):=by
  intro h;have hz:a*ev h p+b*ev h q+c*ev h r+e*ev h s=0:=by unfold ev;grind
  rw[qI,qI];have ea:=pn a;have eb:=pn b;have ec:=pn c;have ee:=pn e;grind
 have kd:(mix (pos a) (pos b) (pos c) (pos e) p q r s).d=(mix (pos (-a)) (pos (-b)) (pos (-c)) (pos (-e)) p q r s).d:=by
  rw[Fy,Fy];have ea:=pn a;have eb:=pn b;have ec:=pn c;have ee:=pn e;grind
 have dne:pos a≠0\/pos b≠0\/pos c≠0\/pos e≠0:=by
  apply Classical.byContradiction;intro hno;simp only[not_or,Decidable.not_not]at hno;obtain⟨z1,z2,z3,z4⟩:=hno;have:0<pos (-a)*p.d+pos (-b)*q.d+pos (-c)*r.d+pos (-e)*s.d:=by
   refine mI (p0 _) (p0 _) (p0 _) (p0 _) ?_ (fun _=>hp) (fun _=>hq) (fun _=>hr) (fun _=>hs)
   have ea:=pn a;have eb:=pn b;have ec:=pn c;have ee:=pn e;omega
  rw[Fy,Fy,z1,z2,z3,z4]at kd;omega
 have dne':pos (-a)≠0\/pos (-b)≠0\/pos (-c)≠0\/pos (-e)≠0:=by
  apply Classical.byContradiction;intro hno;simp only[not_or,Decidable.not_not]at hno;obtain⟨z1,z2,z3,z4⟩:=hno;have:0<pos a*p.d+pos b*q.d+pos c*r.d+pos e*s.d:=mI (p0 _) (p0 _) (p0 _) (p0 _) dne (fun _=>hp) (fun _=>hq) (fun _=>hr) (fun _=>hs)
  rw[Fy,Fy,z1,z2,z3,z4]at kd;omega
 refine⟨mix (pos a) (pos b) (pos c) (pos e) p q r s,?_,?_⟩
 ·rw[Fy];exact mI (p0 _) (p0 _) (p0 _) (p0 _) dne (fun _=>hp) (fun _=>hq) (fun _=>hr) (fun _=>hs)
 ·intro h hm;simp only[List.mem_cons]at hm;rcases hm with rfl|rfl|rfl|rfl|hm
  ·by_cases z:pos a=0
   ·rw[qI];exact mI (p0 _) (p0 _) (p0 _) (p0 _) dne (fun h=>absurd z h) (fun _=>q1) (fun _=>r1) (fun _=>s1)
   ·rw[key,qI];exact mI (p0 _) (p0 _) (p0 _) (p0 _) dne' (fun h=>absurd (pz _ z) h) (fun _=>q1) (fun _=>r1) (fun _=>s1)
  ·by_cases z:pos b=0
   ·rw[qI];exact mI (p0 _) (p0 _) (p0 _) (p0 _) dne (fun _=>p2) (fun h=>absurd z h) (fun _=>r2) (fun _=>s2)
   ·rw[key,qI];exact mI (p0 _) (p0 _) (p0 _) (p0 _) dne' (fun _=>p2) (fun h=>absurd (pz _ z) h) (fun _=>r2) (fun _=>s2)
  ·by_cases z:pos c=0
   ·rw[qI];exact mI (p0 _) (p0 _) (p0 _) (p0 _) dne (fun _=>p3) (fun _=>q3) (fun h=>absurd z h) (fun _=>s3)
   ·rw[key,qI];exact mI (p0 _) (p0 _) (p0 _) (p0 _) dne' (fun _=>p3) (fun _=>q3) (fun h=>absurd (pz _ z) h) (fun _=>s3)
  ·by_cases z:pos e=0
   ·rw[qI];exact mI (p0 _) (p0 _) (p0 _) (p0 _) dne (fun _=>p4) (fun _=>q4) (fun _=>r4) (fun h=>absurd z h)
   ·rw[key,qI];exact mI (p0 _) (p0 _) (p0 _) (p0 _) dne' (fun _=>p4) (fun _=>q4) (fun _=>r4) (fun h=>absurd (pz _ z) h)
  ·rw[qI];exact mI (p0 _) (p0 _) (p0 _) (p0 _) dne (fun _=>pR _ hm) (fun _=>qR _ hm) (fun _=>rR _ hm) (fun _=>sR _ hm)
theorem Sat.sub{L M:List P3}(h:Sat L)(hs:∀x∈M,x∈L):Sat M:=by
 obtain⟨p,hp,f⟩:=h;exact⟨p,hp,fun x hx=>f x (hs x hx)⟩
theorem aNz:∀(n:Nat) (L:List P3),L.length=n->(∀a∈L,∀b∈L,∀c∈L,Sat [a,b,c])->Sat L:=by
 intro n;induction n using Nat.strongRecOn with
 |ind n ih=>
  intro L hn h;match L,hn with
  |[],_=>exact⟨⟨0,0,1⟩,by decide,fun x hx=>by cases hx⟩
  |[a],_=>exact(h a (by simp) a (by simp) a (by simp)).sub (by simp)
  |[a,b],_=>exact(h a (by simp) b (by simp) a (by simp)).sub (by simp)
  |[a,b,c],_=>exact h a (by simp) b (by simp) c (by simp)
  |a::b::c::e::R,hn=>
   have g:∀M:List P3,(∀x∈M,x∈a::b::c::e::R)->M.length<n->Sat M:=fun M hM hl=>ih M.length hl M rfl (fun x hx y hy z hz=>h x (hM x hx) y (hM y hy) z (hM z hz))
   simp only[List.length_cons]at hn;refine aNr (g _ ?_ ?_) (g _ ?_ ?_) (g _ ?_ ?_) (g _ ?_ ?_);all_goals first
    |(simp only[List.length_cons];omega)
    |(intro x hx;simp only[List.mem_cons]at hx|-;grind)
end Go.Proofs.YtdaeofhdgabhjaaGreat.Geo
namespace Go.Proofs.YtdaeofhdgabhjaaGreat.Geo
def lin(u v:V):P3:=⟨-(v.y-u.y),v.x-u.x,(v.y-u.y)*u.x-(v.x-u.x)*u.y⟩
def pt(v:V):P3:=⟨v.x,v.y,1⟩
theorem gE(u v w:V):ev (lin u v) (pt w)=cross (sub v u) (sub w u):=by unfold ev lin pt cross sub;grind
theorem bG(u v:V):ev (lin u v) (pt u)=0:=by unfold ev lin pt;grind
theorem bQ(u v:V):ev (lin u v) (pt v)=0:=by unfold ev lin pt;grind
theorem zK{n1 d1 n2 d2 n3 d3:Int}(h1:0<d1)(h2:0<d2)(h3:0<d3)(a:n1*d2<=n2*d1)(b:n2*d3<n3*d2):n1*d3<n3*d1:=by
 have e1:=Int.mul_le_mul_of_nonneg_right a (show 0<=d3 by omega)
 have e2:=Int.mul_lt_mul_of_pos_right b h1;have:(n1*d3)*d2<(n3*d1)*d2:=by grind
 exact Int.lt_of_mul_lt_mul_right this (by omega)
theorem zJ{n1 d1 n2 d2 n3 d3:Int}(h1:0<d1)(h2:0<d2)(h3:0<d3)(a:n1*d2<n2*d1)(b:n2*d3<=n3*d2):n1*d3<n3*d1:=by
 have e1:=Int.mul_lt_mul_of_pos_right a h3;have e2:=Int.mul_le_mul_of_nonneg_right b (show 0<=d1 by omega)
 have:(n1*d3)*d2<(n3*d1)*d2:=by grind
 exact Int.lt_of_mul_lt_mul_right this (by omega)
def mD:List (Int×Int)->Int->Int->Int->Int->Bool
 |[],ln,ld,hn,hd=>decide (ln*hd<hn*ld)
 |(a,b)::l,ln,ld,hn,hd=>
  if a<=0/\b<=0 then false
  else if a<0 then(if ln*(b-a)< -a*ld then mD l (-a) (b-a) hn hd else mD l ln ld hn hd)
  else if b<0 then(if a*hd<hn*(a-b)then mD l ln ld a (a-b)else mD l ln ld hn hd)
  else mD l ln ld hn hd
theorem mP:∀(l:List (Int×Int)) (ln ld hn hd:Int),0<=ln->0<ld->0<hd->hn<=hd->
  (mD l ln ld hn hd=true↔∃x y:Int,0<x/\0<y/\(∀p∈l,0<p.1*x+p.2*y)/\ln*(x+y)<y*ld/\y*hd<hn*(x+y))
 |[],ln,ld,hn,hd,h1,h2,h3,h4=>by
  simp only[mD,decide_eq_true_eq,List.not_mem_nil,false_imp_iff,implies_true,true_and];constructor
  ·intro h;have hn0:0<hn:=by
    rcases Int.lt_or_le 0 hn with h5|h5
    ·exact h5
    ·have:=Int.mul_nonneg h1 (show 0<=hd by omega)
     have:=Int.mul_nonneg (show 0<= -hn by omega) (show 0<=ld by omega)
     rw[Int.neg_mul]at this;omega
   have hl:ln<ld:=by
    rcases Int.lt_or_le ln ld with h5|h5
    ·exact h5
    ·have e1:=Int.mul_le_mul_of_nonneg_right h5 (show 0<=hd by omega)
     have e2:=Int.mul_le_mul_of_nonneg_right h4 (show 0<=ld by omega)
     rw[Int.mul_comm hd ld]at e2;omega
   refine⟨(ld-ln)+(hd-hn),ln+hn,by omega,by omega,?_,?_⟩
   ·have:ln*((ld-ln)+(hd-hn)+(ln+hn))=ln*ld+ln*hd:=by grind
    rw[this,Int.add_mul];omega
   ·have:hn*((ld-ln)+(hd-hn)+(ln+hn))=hn*ld+hn*hd:=by grind
    rw[this,Int.add_mul];omega
  ·rintro⟨x,y,hx,hy,a,b⟩;have a':ln*(x+y)<=y*ld:=by omega
   exact zK (n2:=y) (d2:=x+y) h2 (by omega) h3 a' b
 |(a,b)::l,ln,ld,hn,hd,h1,h2,h3,h4=>by
  have e1:∀x y:Int,(∀p∈(a,b)::l,0<p.1*x+p.2*y)↔(0<a*x+b*y/\∀p∈l,0<p.1*x+p.2*y):=by intro x y;simp
  simp only[e1];unfold mD;by_cases c1:a<=0/\b<=0
  ·rw[if_pos c1];constructor
   ·intro h;cases h
   ·rintro⟨x,y,hx,hy,⟨h5,_⟩,_⟩;have:=Int.mul_nonneg (show 0<= -a by omega) (show 0<=x by omega)
    have:=Int.mul_nonneg (show 0<= -b by omega) (show 0<=y by omega)
    rw[Int.neg_mul]at*;omega
  ·rw[if_neg c1];by_cases c2:a<0
   ·have hb:0<b:=by omega
    have hba:0<b-a:=by omega
    have e2:∀x y:Int,0<a*x+b*y↔ -a*(x+y)<y*(b-a):=by intro x y;constructor<;>intro h<;>grind
    rw[if_pos c2];by_cases c3:ln*(b-a)< -a*ld
    ·rw[if_pos c3,mP l (-a) (b-a) hn hd (by omega) hba h3 h4]
     constructor
     ·rintro⟨x,y,hx,hy,h5,h6,h7⟩;exact⟨x,y,hx,hy,⟨(e2 x y).2 h6,h5⟩,zK (n2:= -a) (d2:=b-a) h2 hba (by omega) (by omega) h6,h7⟩
     ·rintro⟨x,y,hx,hy,⟨h5,h6⟩,h7,h8⟩;exact⟨x,y,hx,hy,h6,(e2 x y).1 h5,h8⟩
    ·rw[if_neg c3,mP l ln ld hn hd h1 h2 h3 h4];constructor
     ·rintro⟨x,y,hx,hy,h5,h6,h7⟩;exact⟨x,y,hx,hy,⟨(e2 x y).2 (zK (n2:=ln) (d2:=ld) hba h2 (by omega) (by omega) h6),h5⟩,h6,h7⟩
     ·rintro⟨x,y,hx,hy,⟨h5,h6⟩,h7,h8⟩;exact⟨x,y,hx,hy,h6,h7,h8⟩
   ·rw[if_neg c2];by_cases c4:b<0
    ·have ha:0<a:=by omega
     have hab:0<a-b:=by omega
     have e2:∀x y:Int,0<a*x+b*y↔y*(a-b)<a*(x+y):=by intro x y;constructor<;>intro h<;>grind
     rw[if_pos c4];by_cases c3:a*hd<hn*(a-b)
     ·rw[if_pos c3,mP l ln ld a (a-b) h1 h2 hab (by omega)]
      constructor
      ·rintro⟨x,y,hx,hy,h5,h6,h7⟩;exact⟨x,y,hx,hy,⟨(e2 x y).2 h7,h5⟩,h6,zJ (n2:=a) (d2:=a-b) (by omega) hab h3 h7 (by omega)⟩
      ·rintro⟨x,y,hx,hy,⟨h5,h6⟩,h7,h8⟩;exact⟨x,y,hx,hy,h6,h7,(e2 x y).1 h5⟩
     ·rw[if_neg c3,mP l ln ld hn hd h1 h2 h3 h4];constructor
      ·rintro⟨x,y,hx,hy,h5,h6,h7⟩;exact⟨x,y,hx,hy,⟨(e2 x y).2 (zJ (n2:=hn) (d2:=hd) (by omega) h3 hab h7 (by omega)),h5⟩,h6,h7⟩
      ·rintro⟨x,y,hx,hy,⟨h5,h6⟩,h7,h8⟩;exact⟨x,y,hx,hy,h6,h7,h8⟩
    ·rw[if_neg c4,mP l ln ld hn hd h1 h2 h3 h4];constructor
     ·rintro⟨x,y,hx,hy,h5,h6,h7⟩;refine⟨x,y,hx,hy,⟨?_,h5⟩,h6,h7⟩;have g1:=Int.mul_nonneg (show 0<=a by omega) (show 0<=x by omega)
      have g2:=Int.mul_nonneg (show 0<=b by omega) (show 0<=y by omega)
      rcases Int.lt_or_le 0 a with h|h
      ·have:=Int.mul_pos h hx;omega
      ·have:=Int.mul_pos (show 0<b by omega) hy;omega
     ·rintro⟨x,y,hx,hy,⟨h5,h6⟩,h7,h8⟩;exact⟨x,y,hx,hy,h6,h7,h8⟩
structure Poly(F:List P3)(Vs:List V)(Es:List S)(c:P3):Prop where
 nonneg:∀f∈F,∀v∈Vs,0<=ev f (pt v)
 cd:0<c.d
 cin:∀f∈F,0<ev f c
 ends:∀s∈Es,s.a∈Vs/\s.b∈Vs
 side:∀q:P3,0<q.d->(∃f∈F,ev f q=0)->(∀f∈F,0<=ev f q)->∃s∈Es,∃x y k:Int,0<=x/\0<=y/\0<k/\∀h:P3,k*ev h q=x*ev h (pt s.a)+y*ev h (pt s.b)
 hull:∀q:P3,(∀f∈F,0<ev f q)->∀h:P3,(∀v∈Vs,ev h (pt v)<=0)->ev h q<=0
theorem big(q c:P3):∀(G:List P3),(∀g∈G,0<ev g q)->∃N:Int,1<=N/\∀g∈G,0<N*ev g q+ev g c
 |[],_=>⟨1,by decide,fun g hg=>by cases hg⟩
 |g::G,h=>by
  obtain⟨N,h1,h2⟩:=big q c G (fun g hg=>h g (List.mem_cons_of_mem _ hg))
  have hg:=h g List.mem_cons_self;refine⟨N+(ev g c).natAbs,by omega,?_⟩
  intro f hf;rcases List.mem_cons.1 hf with rfl|hf
  ·have:(N+(ev f c).natAbs)*1<=(N+(ev f c).natAbs)*ev f q:=Int.mul_le_mul_of_nonneg_left (by omega) (by omega)
   omega
  ·have:=h2 f hf;have h3:=h f (List.mem_cons_of_mem _ hf);have:=Int.mul_nonneg (show 0<=((ev g c).natAbs:Int) by omega) (show 0<=ev f q by omega)
   rw[Int.add_mul];omega
theorem sT{F:List P3}{Vs:List V}{Es:List S}{c:P3}(A:Poly F Vs Es c){g:P3}(h:∃v∈Vs,0<ev g (pt v)):Sat (g::F):=by
 obtain⟨v,hv,hg⟩:=h;obtain⟨N,h1,h2⟩:=big (pt v) c [g] (by simpa using hg)
 refine⟨cmb N (pt v) 1 c,?_,?_⟩
 ·have:=A.cd;simp only[cmb,pt];omega
 ·intro f hf;rw[aK];rcases List.mem_cons.1 hf with rfl|hf
  ·have:=h2 f (by simp);omega
  ·have e1:=A.nonneg f hf v hv;have e2:=A.cin f hf;have:=Int.mul_nonneg (show 0<=N by omega) e1
   omega
theorem Pj{F G:List P3}{Vs Us:List V}{Es Ds:List S}{c e:P3}(A:Poly F Vs Es c)(B:Poly G Us Ds e)
  (h1:∀g∈G,∃v∈Vs,0<ev g (pt v)) (h2:∀f∈F,∃u∈Us,0<ev f (pt u)):Sat (F++G):=by
 have hF:Sat F:=⟨c,A.cd,A.cin⟩;have hG:Sat G:=⟨e,B.cd,B.cin⟩;refine aNz _ _ rfl ?_;intro x hx y hy z hz;simp only[List.mem_append]at hx hy hz;rcases hx with hx|hx<;>rcases hy with hy|hy<;>rcases hz with hz|hz
 ·exact hF.sub (by intro w hw;simp at hw;grind)
 ·exact(sT A (h1 z hz)).sub (by intro w hw;simp at hw|-;grind)
 ·exact(sT A (h1 y hy)).sub (by intro w hw;simp at hw|-;grind)
 ·exact(sT B (h2 x hx)).sub (by intro w hw;simp at hw|-;grind)
 ·exact(sT A (h1 x hx)).sub (by intro w hw;simp at hw|-;grind)
 ·exact(sT B (h2 y hy)).sub (by intro w hw;simp at hw|-;grind)
 ·exact(sT B (h2 z hz)).sub (by intro w hw;simp at hw|-;grind)
 ·exact hG.sub (by intro w hw;simp at hw;grind)
def vT(G:List P3)(s:S):Prop:=∃x y:Int,0<x/\0<y/\∀g∈G,0<ev g (pt s.a)*x+ev g (pt s.b)*y
theorem yO{F G:List P3}{Vs:List V}{Es:List S}{c:P3}(A:Poly F Vs Es c){s:S}(hs:s∈Es)(h:vT G s):Sat (F++G):=by
 obtain⟨x,y,hx,hy,hg⟩:=h;have hq:∀g∈G,0<ev g (cmb x (pt s.a) y (pt s.b)):=by intro g h;rw[aK];have:=hg g h;grind
 obtain⟨N,h1,h2⟩:=big _ c G hq;refine⟨cmb N (cmb x (pt s.a) y (pt s.b)) 1 c,?_,?_⟩
 ·have e1:=A.cd;have e2:=Int.mul_pos (show 0<N by omega) (show 0<x*1+y*1 by omega)
  simp only[cmb,pt];omega
 ·intro f hf;rw[aK];rcases List.mem_append.1 hf with hf|hf
  ·have e1:=A.nonneg f hf _ (A.ends s hs).1;have e2:=A.nonneg f hf _ (A.ends s hs).2;have e3:=A.cin f hf;have e4:0<=ev f (cmb x (pt s.a) y (pt s.b)):=by
    rw[aK];have:=Int.mul_nonneg (show 0<=x by omega) e1
    have:=Int.mul_nonneg (show 0<=y by omega) e2
    omega
   have:=Int.mul_nonneg (show 0<=N by omega) e4
   omega
  ·have:=h2 f hf;omega
theorem aCo(p c:P3)(hp:0<p.d)(hc:0<c.d):∀(G:List P3),(∀g∈G,0<ev g p)->
  ∃m n:Int,0<=m/\0<=n/\0<m+n/\(∀g∈G,0<=ev g (cmb m p n c))/\((∃g∈G,ev g (cmb m p n c)=0)\/(m=0/\∀g∈G,0<ev g c))
 |[],_=>⟨0,1,by omega,by omega,by omega,(fun g hg=>by cases hg),.inr ⟨rfl,(fun g hg=>by cases hg)⟩⟩
 |g::G,h=>by
  obtain⟨m,n,hm,hn,hmn,h1,h2⟩:=aCo p c hp hc G (fun g hg=>h g (List.mem_cons_of_mem _ hg))
  have hg:=h g List.mem_cons_self;rcases Int.lt_trichotomy (ev g (cmb m p n c)) 0 with h3|h3|h3
  ·
   have hq:=aK g p c m n;refine⟨-(ev g (cmb m p n c))+ev g p*m,ev g p*n,?_,?_,?_,?_,.inl ⟨g,List.mem_cons_self,?_⟩⟩
   ·have:=Int.mul_nonneg (show 0<=ev g p by omega) hm;omega
   ·exact Int.mul_nonneg (by omega) hn
   ·have e1:=Int.mul_nonneg (show 0<=ev g p by omega) hm
    have e2:=Int.mul_nonneg (show 0<=ev g p by omega) hn
    omega
   ·intro f hf;rcases List.mem_cons.1 hf with rfl|hf
    ·rw[aK];have:(-(ev f (cmb m p n c))+ev f p*m)*ev f p+ev f p*n*ev f c=0:=by rw[hq];grind
     omega
    ·have e1:=h1 f hf;have e2:=h f (List.mem_cons_of_mem _ hf);have e3:=Int.mul_nonneg (show 0<=ev g p by omega) e1
     have e4:=Int.mul_nonneg (show 0<= -(ev g (cmb m p n c)) by omega) (show 0<=ev f p by omega)
     have e5:=aK f p c m n;rw[aK];have:(-(ev g (cmb m p n c))+ev g p*m)*ev f p+ev g p*n*ev f c= -(ev g (cmb m p n c))*ev f p+ev g p*ev f (cmb m p n c):=by rw[e5];grind
     omega
   ·rw[aK,hq];grind
  ·refine⟨m,n,hm,hn,hmn,?_,.inl ⟨g,List.mem_cons_self,h3⟩⟩;intro f hf;rcases List.mem_cons.1 hf with rfl|hf
   ·omega
   ·exact h1 f hf
  ·refine⟨m,n,hm,hn,hmn,?_,?_⟩
   ·intro f hf;rcases List.mem_cons.1 hf with rfl|hf
    ·omega
    ·exact h1 f hf
   ·rcases h2 with⟨f,hf,h4⟩|⟨rfl,h4⟩
    ·exact .inl ⟨f,List.mem_cons_of_mem _ hf,h4⟩
    ·refine .inr ⟨rfl,?_⟩;intro f hf;rcases List.mem_cons.1 hf with rfl|hf
     ·rw[aK]at h3;have hn0:0<n:=by omega
      have:0<n*ev f c:=by omega
      exact Int.pos_of_mul_pos_right this hn0|>fun h=>h
     ·exact h4 f hf
theorem Di{F:List P3}{s:S}{x y:Int}(hx:0<=x)(hy:0<=y)(h:∀f∈F,0<x*ev f (pt s.a)+y*ev f (pt s.b)):vT F s:=by
 have hq:∀f∈F,0<ev f (cmb x (pt s.a) y (pt s.b)):=by intro f hf;rw[aK];exact h f hf
 obtain⟨N,h1,h2⟩:=big _ (cmb 1 (pt s.a) 1 (pt s.b)) F hq;have e1:=Int.mul_nonneg (show 0<=N by omega) hx
 have e2:=Int.mul_nonneg (show 0<=N by omega) hy
 refine⟨N*x+1,N*y+1,by omega,by omega,?_⟩
 intro f hf;have:=h2 f hf;rw[aK,aK]at this;grind
theorem Em{F G:List P3}{Vs Us:List V}{Es Ds:List S}{c e:P3}(A:Poly F Vs Es c)(B:Poly G Us Ds e):
  Sat (F++G)↔((∃s∈Es,vT G s)\/(∃s∈Ds,vT F s)\/∀g∈G,0<ev g c):=by
 constructor
 ·rintro⟨p,hp,h⟩;obtain⟨m,n,hm,hn,hmn,h1,h2⟩:=aCo p c hp A.cd G (fun g hg=>h g (List.mem_append_right _ hg))
  rcases h2 with h2|⟨_,h2⟩
  ·refine .inr (.inl ?_);have hd:0<(cmb m p n c).d:=by
    have:=A.cd;have e1:=Int.mul_nonneg hm (show 0<=p.d by omega)
    have e2:=Int.mul_nonneg hn (show 0<=c.d by omega)
    show 0<m*p.d+n*c.d;rcases Int.lt_or_le 0 m with h3|h3
    ·have:=Int.mul_pos h3 hp;omega
    ·have:=Int.mul_pos (show 0<n by omega) this;omega
   obtain⟨s,hs,x,y,k,hx,hy,hk,hq⟩:=B.side _ hd h2 h1;refine⟨s,hs,Di hx hy ?_⟩;intro f hf;rw[<-hq f];refine Int.mul_pos hk ?_;rw[aK];have e1:=h f (List.mem_append_left _ hf);have e2:=A.cin f hf;have e3:=Int.mul_nonneg hm (show 0<=ev f p by omega)
   have e4:=Int.mul_nonneg hn (show 0<=ev f c by omega)
   rcases Int.lt_or_le 0 m with h3|h3
   ·have:=Int.mul_pos h3 e1;omega
   ·have:=Int.mul_pos (show 0<n by omega) e2;omega
  ·exact .inr (.inr h2)
 ·rintro(⟨s,hs,h⟩|⟨s,hs,h⟩|h)
  ·exact yO A hs h
  ·exact(yO B hs h).sub (by intro x hx;simp at hx|-;grind)
  ·refine⟨c,A.cd,?_⟩;intro f hf;rcases List.mem_append.1 hf with hf|hf
   ·exact A.cin f hf
   ·exact h f hf
theorem Jy{F G:List P3}{Vs Us:List V}{Es Ds:List S}{c e:P3}(A:Poly F Vs Es c)(B:Poly G Us Ds e):
  Sat (F++G)↔((∀g∈G,∃v∈Vs,0<ev g (pt v))/\(∀f∈F,∃u∈Us,0<ev f (pt u))):=by
 constructor
 ·rintro⟨p,hp,h⟩;constructor
  ·intro g hg;apply Classical.byContradiction;intro hno;have:=A.hull p (fun f hf=>h f (List.mem_append_left _ hf)) g (fun v hv=>by
    rcases Int.lt_or_le 0 (ev g (pt v))with h1|h1
    ·exact absurd ⟨v,hv,h1⟩ hno
    ·exact h1)
   have:=h g (List.mem_append_right _ hg);omega
  ·intro f hf;apply Classical.byContradiction;intro hno;have:=B.hull p (fun g hg=>h g (List.mem_append_right _ hg)) f (fun v hv=>by
    rcases Int.lt_or_le 0 (ev f (pt v))with h1|h1
    ·exact absurd ⟨v,hv,h1⟩ hno
    ·exact h1)
   have:=h f (List.mem_append_left _ hf);omega
 ·rintro⟨h1,h2⟩;exact Pj A B h1 h2
end Go.Proofs.YtdaeofhdgabhjaaGreat.Geo
set_option linter.unusedSimpArgs false
namespace Go.Proofs.YtdaeofhdgabhjaaGreat.Geo
theorem jI(a b:Int):(0<a->0<b->0<a*b)/\(a<0->b<0->0<a*b)/\(0<a->b<0->a*b<0)/\(a<0->0<b->a*b<0)/\(a=0->a*b=0)/\(b=0->a*b=0):=
 ⟨Int.mul_pos,Int.mul_pos_of_neg_of_neg,Int.mul_neg_of_pos_of_neg,Int.mul_neg_of_neg_of_pos,fun h=>by rw[h,Int.zero_mul],fun h=>by rw[h,Int.mul_zero]⟩
def onC(x1 y1 x2 y2 c:Int):Bool:=c==0&&(decide (min x1 x2<=0)&&decide (0<=max x1 x2))&&(decide (min y1 y2<=0)&&decide (0<=max y1 y2))
def Bs(y1 y2 c:Int):Bool:=(decide (0<=y1) !=decide (0<=y2))&&(decide (0<=y1)==decide (0<c))
theorem Va{y1 y2 y3 c1 c2 c3:Int}(h0:c2*y1+c3*y2+c1*y3=0)(hs:0<c1+c2+c3)(h1:0<=y1)(h2:y2<0)(h3:y3<0)(hc1:c1≠0)(hc3:c3≠0):
  ((0<c1↔0<c3))↔(0<c1/\0<c2/\0<c3):=by
 constructor
 ·intro h;rcases Int.lt_or_gt_of_ne hc1 with h4|h4
  ·have h5:c3<0:=by omega
   have e1:=(jI c3 y2).2.1 h5 h2;have e2:=(jI c1 y3).2.1 h4 h3;have h6:0<c2:=by omega
   rcases Int.lt_or_eq_of_le h1 with h7|h7
   ·have:=(jI c2 y1).1 h6 h7;omega
   ·have:=(jI c2 y1).2.2.2.2.2 h7.symm;omega
  ·have h5:=h.1 h4;have e1:=(jI c3 y2).2.2.1 h5 h2;have e2:=(jI c1 y3).2.2.1 h4 h3;refine⟨h4,?_,h5⟩;rcases Int.lt_trichotomy c2 0 with h6|h6|h6
   ·rcases Int.lt_or_eq_of_le h1 with h7|h7
    ·have:=(jI c2 y1).2.2.2.1 h6 h7;omega
    ·have:=(jI c2 y1).2.2.2.2.2 h7.symm;omega
   ·have:=(jI c2 y1).2.2.2.2.1 h6;omega
   ·exact h6
 ·rintro⟨h4,h5,h6⟩;exact⟨fun _=>h6,fun _=>h4⟩
theorem Gp{x1 x2 x3 y1 y2 y3:Int}(hs:0<(x1*y2-y1*x2)+(x2*y3-y2*x3)+(x3*y1-y3*x1))(h1:y1<0)(h2:0<=y2)(h3:0<=y3)
  (hc1:x1*y2-y1*x2≠0) (hc3:x3*y1-y3*x1≠0) (hn:onC x2 y2 x3 y3 (x2*y3-y2*x3)=false):
  ((0<x1*y2-y1*x2↔0<x3*y1-y3*x1))↔(0<x1*y2-y1*x2/\0<x2*y3-y2*x3/\0<x3*y1-y3*x1):=by
 have h0:(x2*y3-y2*x3)*y1+(x3*y1-y3*x1)*y2+(x1*y2-y1*x2)*y3=0:=by grind
 have f1:y2=0->x1*y2-y1*x2= -(y1*x2):=by intro h;subst h;omega
 have f3:y3=0->x3*y1-y3*x1=x3*y1:=by intro h;subst h;omega
 generalize x1*y2-y1*x2=c1 at*;generalize x2*y3-y2*x3=c2 at*;generalize x3*y1-y3*x1=c3 at*;constructor
 ·intro h;have hQ:(c3<0->c3*y2<=0)/\(0<c3->0<=c3*y2):=by
   rcases Int.lt_or_eq_of_le h2 with h7|h7
   ·exact⟨fun h=>Int.le_of_lt ((jI c3 y2).2.2.2.1 h h7),fun h=>Int.le_of_lt ((jI c3 y2).1 h h7)⟩
   ·have:=(jI c3 y2).2.2.2.2.2 h7.symm;exact⟨fun _=>by omega,fun _=>by omega⟩
  have hR:(c1<0->c1*y3<=0)/\(0<c1->0<=c1*y3):=by
   rcases Int.lt_or_eq_of_le h3 with h7|h7
   ·exact⟨fun h=>Int.le_of_lt ((jI c1 y3).2.2.2.1 h h7),fun h=>Int.le_of_lt ((jI c1 y3).1 h h7)⟩
   ·have:=(jI c1 y3).2.2.2.2.2 h7.symm;exact⟨fun _=>by omega,fun _=>by omega⟩
  rcases Int.lt_or_gt_of_ne hc1 with h4|h4
  ·have h5:c3<0:=by omega
   have h6:0<c2:=by omega
   have:=(jI c2 y1).2.2.1 h6 h1;have:=hQ.1 h5;have:=hR.1 h4;omega
  ·have h5:=h.1 h4;refine⟨h4,?_,h5⟩;rcases Int.lt_trichotomy c2 0 with h6|h6|h6
   ·have:=(jI c2 y1).2.1 h6 h1;have:=hQ.2 h5;have:=hR.2 h4;omega
   ·exfalso;have hP:=(jI c2 y1).2.2.2.2.1 h6;have e1:=hQ.2 h5;have e2:=hR.2 h4;have z2:y2=0:=by
     rcases Int.lt_or_eq_of_le h2 with h7|h7
     ·have:=(jI c3 y2).1 h5 h7;omega
     ·exact h7.symm
    have z3:y3=0:=by
     rcases Int.lt_or_eq_of_le h3 with h7|h7
     ·have:=(jI c1 y3).1 h4 h7;omega
     ·exact h7.symm
    have k1:=f1 z2;have k3:=f3 z3;have m2:0<x2:=by
     rcases Int.lt_trichotomy x2 0 with h8|h8|h8
     ·have:=(jI y1 x2).2.1 h1 h8;omega
     ·have:=(jI y1 x2).2.2.2.2.2 h8;omega
     ·exact h8
    have m3:x3<0:=by
     rcases Int.lt_trichotomy x3 0 with h8|h8|h8
     ·exact h8
     ·have:=(jI x3 y1).2.2.2.2.1 h8;omega
     ·have:=(jI x3 y1).2.2.1 h8 h1;omega
    have:onC x2 y2 x3 y3 c2=true:=by
     unfold onC;simp;omega
    rw[this]at hn;cases hn
   ·exact h6
 ·rintro⟨h4,h5,h6⟩;exact⟨fun _=>h6,fun _=>h4⟩
theorem aJe{x1 y1 x2 y2:Int}(h:x1*y2-y1*x2=0)(h1:0<=y1)(h2:y2<0):onC x1 y1 x2 y2 (x1*y2-y1*x2)=true:=by
 unfold onC;rw[h];obtain⟨a1,a2,a3,a4,a5,a6⟩:=jI x1 y2;obtain⟨b1,b2,b3,b4,b5,b6⟩:=jI y1 x2;simp;rcases Int.lt_trichotomy x1 0 with h3|h3|h3
 ·have:=a2 h3 h2;have:0<y1/\0<x2:=by
   rcases Int.lt_or_eq_of_le h1 with h4|h4
   ·refine⟨h4,?_⟩;rcases Int.lt_trichotomy x2 0 with h5|h5|h5
    ·have:=b3 h4 h5;omega
    ·have:=b6 h5;omega
    ·exact h5
   ·have:=b5 h4.symm;omega
  omega
 ·omega
 ·have:=a3 h3 h2;have:x2<0:=by
   rcases Int.lt_trichotomy x2 0 with h5|h5|h5
   ·exact h5
   ·have:=b6 h5;omega
   ·rcases Int.lt_or_eq_of_le h1 with h4|h4
    ·have:=b1 h4 h5;omega
    ·have:=b5 h4.symm;omega
  omega
theorem aDA(x1 y1 x2 y2:Int):onC x1 y1 x2 y2 (x1*y2-y1*x2)=onC x2 y2 x1 y1 (x2*y1-y2*x1):=by
 unfold onC;have:(x1*y2-y1*x2==0)=(x2*y1-y2*x1==0):=by
  rw[Bool.eq_iff_iff];simp only[beq_iff_eq];constructor<;>intro h<;>grind
 rw[this,Int.min_comm x1,Int.max_comm x1,Int.min_comm y1,Int.max_comm y1]
theorem yX{x1 y1 x2 y2:Int}(h1:0<=y1)(h2:y2<0)(hn:onC x1 y1 x2 y2 (x1*y2-y1*x2)=false):x1*y2-y1*x2≠0:=fun h=>by rw[aJe h h1 h2]at hn;cases hn
theorem sX{x1 y1 x2 y2:Int}(h1:y1<0)(h2:0<=y2)(hn:onC x1 y1 x2 y2 (x1*y2-y1*x2)=false):x1*y2-y1*x2≠0:=fun h=>by
 rw[aDA]at hn;exact yX h2 h1 hn (by grind)
def aCn(x1 y1 x2 y2 x3 y3:Int):Int:=
 if onC x1 y1 x2 y2 (x1*y2-y1*x2)then 1 else if onC x2 y2 x3 y3 (x2*y3-y2*x3)then 1 else if onC x3 y3 x1 y1 (x3*y1-y3*x1)then 1
 else if((false !=Bs y1 y2 (x1*y2-y1*x2)) !=Bs y2 y3 (x2*y3-y2*x3)) !=Bs y3 y1 (x3*y1-y3*x1)then 2 else 0
theorem aC7(x1 y1 x2 y2 x3 y3:Int)(hs:0<(x1*y2-y1*x2)+(x2*y3-y2*x3)+(x3*y1-y3*x1)):
  aCn x1 y1 x2 y2 x3 y3=2↔(0<x1*y2-y1*x2/\0<x2*y3-y2*x3/\0<x3*y1-y3*x1):=by
 have h0:(x2*y3-y2*x3)*y1+(x3*y1-y3*x1)*y2+(x1*y2-y1*x2)*y3=0:=by grind
 have onpos:∀a b c d e:Int,onC a b c d e=true->e=0:=by intro a b c d e h;unfold onC at h;simp at h;exact h.1.1
 unfold aCn;cases o1:onC x1 y1 x2 y2 (x1*y2-y1*x2)with
 |true=>have:=onpos _ _ _ _ _ o1;simp;omega
 |false=>
  cases o2:onC x2 y2 x3 y3 (x2*y3-y2*x3)with
  |true=>have:=onpos _ _ _ _ _ o2;simp;omega
  |false=>
   cases o3:onC x3 y3 x1 y1 (x3*y1-y3*x1)with
   |true=>have:=onpos _ _ _ _ _ o3;simp;omega
   |false=>
    simp only[Bool.false_eq_true,if_false,Bool.false_bne];have if2:∀b:Bool,(if b=true then(2:Int)else 0)=2↔b=true:=by intro b;cases b<;>simp
    rw[if2];by_cases p1:0<=y1<;>by_cases p2:0<=y2<;>by_cases p3:0<=y3
    ·
     simp only[Bs,p1,p2,p3,decide_true,bne_self_eq_false,Bool.false_and,Bool.false_eq_true,false_iff];rintro⟨q1,q2,q3⟩;have e1:=Int.mul_nonneg (show 0<=x2*y3-y2*x3 by omega) p1
     have e2:=Int.mul_nonneg (show 0<=x3*y1-y3*x1 by omega) p2
     have e3:=Int.mul_nonneg (show 0<=x1*y2-y1*x2 by omega) p3
     have z1:y1=0:=by
      rcases Int.lt_or_eq_of_le p1 with h|h
      ·have:=Int.mul_pos q2 h;omega
      ·exact h.symm
     have z2:y2=0:=by
      rcases Int.lt_or_eq_of_le p2 with h|h
      ·have:=Int.mul_pos q3 h;omega
      ·exact h.symm
     subst z1 z2;omega
    ·have c2:=yX p2 (by omega) o2
     have c3:=sX (by omega) p1 o3
     have:=Gp (x1:=x3) (x2:=x1) (x3:=x2) (y1:=y3) (y2:=y1) (y3:=y2) (by omega) (by omega) p1 p2 c3 c2 o1
     simp only[Bs,p1,p2,p3,decide_true,decide_false,bne_self_eq_false,Bool.false_and,Bool.false_bne,Bool.bne_false,Bool.true_bne,Bool.bne_true,Bool.not_true,Bool.not_false,Bool.true_and];rw[show(0<x1*y2-y1*x2/\0<x2*y3-y2*x3/\0<x3*y1-y3*x1)↔(0<x3*y1-y3*x1/\0<x1*y2-y1*x2/\0<x2*y3-y2*x3) by constructor<;>(rintro⟨a,b,c⟩;exact⟨by assumption,by assumption,by assumption⟩),<-this]
     generalize x2*y3-y2*x3=A;generalize x3*y1-y3*x1=B;by_cases q2:0<A<;>by_cases q3:0<B<;>simp[q2,q3]
    ·have c1:=yX p1 (by omega) o1
     have c2:=sX (by omega) p3 o2
     have:=Gp (x1:=x2) (x2:=x3) (x3:=x1) (y1:=y2) (y2:=y3) (y3:=y1) (by omega) (by omega) p3 p1 c2 c1 o3
     simp only[Bs,p1,p2,p3,decide_true,decide_false,bne_self_eq_false,Bool.false_and,Bool.false_bne,Bool.bne_false,Bool.true_bne,Bool.bne_true,Bool.not_true,Bool.not_false,Bool.true_and];rw[show(0<x1*y2-y1*x2/\0<x2*y3-y2*x3/\0<x3*y1-y3*x1)↔(0<x2*y3-y2*x3/\0<x3*y1-y3*x1/\0<x1*y2-y1*x2) by constructor<;>(rintro⟨a,b,c⟩;exact⟨by assumption,by assumption,by assumption⟩),<-this]
     generalize x2*y3-y2*x3=A;generalize x1*y2-y1*x2=B;by_cases q2:0<A<;>by_cases q3:0<B<;>simp[q2,q3]
    ·have c1:=yX p1 (by omega) o1
     have c3:=sX (by omega) p1 o3
     have:=Va h0 hs p1 (by omega) (by omega) c1 c3
     simp only[Bs,p1,p2,p3,decide_true,decide_false,bne_self_eq_false,Bool.false_and,Bool.false_bne,Bool.bne_false,Bool.true_bne,Bool.bne_true,Bool.not_true,Bool.not_false,Bool.true_and];rw[<-this];generalize x1*y2-y1*x2=A;generalize x3*y1-y3*x1=B;by_cases q2:0<A<;>by_cases q3:0<B<;>simp[q2,q3]
    ·have c1:=sX (by omega) p2 o1
     have c3:=yX p3 (by omega) o3
     have:=Gp hs (by omega) p2 p3 c1 c3 o2
     simp only[Bs,p1,p2,p3,decide_true,decide_false,bne_self_eq_false,Bool.false_and,Bool.false_bne,Bool.bne_false,Bool.true_bne,Bool.bne_true,Bool.not_true,Bool.not_false,Bool.true_and];rw[<-this];generalize x1*y2-y1*x2=A;generalize x3*y1-y3*x1=B;by_cases q2:0<A<;>by_cases q3:0<B<;>simp[q2,q3]
    ·have c1:=sX (by omega) p2 o1
     have c2:=yX p2 (by omega) o2
     have:=Va (y1:=y2) (y2:=y3) (y3:=y1) (c1:=x2*y3-y2*x3) (c2:=x3*y1-y3*x1) (c3:=x1*y2-y1*x2) (by omega) (by omega) p2 (by omega) (by omega) c2 c1
     simp only[Bs,p1,p2,p3,decide_true,decide_false,bne_self_eq_false,Bool.false_and,Bool.false_bne,Bool.bne_false,Bool.true_bne,Bool.bne_true,Bool.not_true,Bool.not_false,Bool.true_and];rw[show(0<x1*y2-y1*x2/\0<x2*y3-y2*x3/\0<x3*y1-y3*x1)↔(0<x2*y3-y2*x3/\0<x3*y1-y3*x1/\0<x1*y2-y1*x2) by constructor<;>(rintro⟨a,b,c⟩;exact⟨by assumption,by assumption,by assumption⟩),<-this]
     generalize x2*y3-y2*x3=A;generalize x1*y2-y1*x2=B;by_cases q2:0<A<;>by_cases q3:0<B<;>simp[q2,q3]
    ·have c2:=sX (by omega) p3 o2
     have c3:=yX p3 (by omega) o3
     have:=Va (y1:=y3) (y2:=y1) (y3:=y2) (c1:=x3*y1-y3*x1) (c2:=x1*y2-y1*x2) (c3:=x2*y3-y2*x3) (by omega) (by omega) p3 (by omega) (by omega) c3 c2
     simp only[Bs,p1,p2,p3,decide_true,decide_false,bne_self_eq_false,Bool.false_and,Bool.false_bne,Bool.bne_false,Bool.true_bne,Bool.bne_true,Bool.not_true,Bool.not_false,Bool.true_and];rw[show(0<x1*y2-y1*x2/\0<x2*y3-y2*x3/\0<x3*y1-y3*x1)↔(0<x3*y1-y3*x1/\0<x1*y2-y1*x2/\0<x2*y3-y2*x3) by constructor<;>(rintro⟨a,b,c⟩;exact⟨by assumption,by assumption,by assumption⟩),<-this]
     generalize x2*y3-y2*x3=A;generalize x3*y1-y3*x1=B;by_cases q2:0<A<;>by_cases q3:0<B<;>simp[q2,q3]
    ·
     simp only[Bs,p1,p2,p3,decide_false,bne_self_eq_false,Bool.false_and,Bool.false_eq_true,false_iff];rintro⟨q1,q2,q3⟩;have e1:=Int.mul_neg_of_pos_of_neg q2 (show y1<0 by omega)
     have e2:=Int.mul_neg_of_pos_of_neg q3 (show y2<0 by omega)
     have e3:=Int.mul_neg_of_pos_of_neg q1 (show y3<0 by omega)
     omega
theorem Am{u v w:V}(h:0<cross (sub v u) (sub w u)):Poly [lin u v,lin v w,lin w u] [u,v,w] [⟨u,v⟩,⟨v,w⟩,⟨w,u⟩] ⟨u.x+v.x+w.x,u.y+v.y+w.y,3⟩:=by
 have id3:∀h q:P3,cross (sub v u) (sub w u)*ev h q=ev (lin v w) q*ev h (pt u)+ev (lin w u) q*ev h (pt v)+ev (lin u v) q*ev h (pt w):=by
  intro h q;unfold ev lin pt cross sub;grind
 have k1:ev (lin u v) (pt w)=cross (sub v u) (sub w u):=gE u v w;have k2:ev (lin v w) (pt u)=cross (sub v u) (sub w u):=by rw[gE];unfold cross sub;grind
 have k3:ev (lin w u) (pt v)=cross (sub v u) (sub w u):=by rw[gE];unfold cross sub;grind
 have c0:∀f:P3,ev f ⟨u.x+v.x+w.x,u.y+v.y+w.y,3⟩=ev f (pt u)+ev f (pt v)+ev f (pt w):=by intro f;unfold ev pt;grind
 refine⟨?_,(show(0:Int)<3 by decide),?_,?_,?_,?_⟩
 ·intro f hf x hx;simp only[List.mem_cons,List.not_mem_nil,or_false]at hf hx;rcases hf with rfl|rfl|rfl<;>rcases hx with rfl|rfl|rfl<;>first|(rw[bG];omega)|(rw[bQ];omega)|omega
 ·intro f hf;rw[c0];simp only[List.mem_cons,List.not_mem_nil,or_false]at hf;rcases hf with rfl|rfl|rfl
  ·rw[bG,bQ];omega
  ·rw[bG,bQ];omega
  ·rw[bG,bQ];omega
 ·intro s hs;simp only[List.mem_cons,List.not_mem_nil,or_false]at hs;rcases hs with rfl|rfl|rfl<;>simp
 ·rintro q hq ⟨f,hf,hz⟩ hn;simp only[List.mem_cons,List.not_mem_nil,or_false,forall_eq_or_imp,forall_eq]at hf hn;obtain⟨n1,n2,n3⟩:=hn;rcases hf with rfl|rfl|rfl
  ·exact⟨⟨u,v⟩,by simp,ev (lin v w) q,ev (lin w u) q,_,n2,n3,h,fun g=>by rw[id3,hz];simp only;omega⟩
  ·exact⟨⟨v,w⟩,by simp,ev (lin w u) q,ev (lin u v) q,_,n3,n1,h,fun g=>by rw[id3,hz];simp only;omega⟩
  ·exact⟨⟨w,u⟩,by simp,ev (lin u v) q,ev (lin v w) q,_,n1,n2,h,fun g=>by rw[id3,hz];simp only;omega⟩
 ·intro q hq g hg;simp only[List.mem_cons,List.not_mem_nil,or_false,forall_eq_or_imp,forall_eq]at hq hg;obtain⟨n1,n2,n3⟩:=hq;obtain⟨g1,g2,g3⟩:=hg;have e1:=Int.mul_nonneg (show 0<=ev (lin v w) q by omega) (show 0<= -ev g (pt u) by omega)
  have e2:=Int.mul_nonneg (show 0<=ev (lin w u) q by omega) (show 0<= -ev g (pt v) by omega)
  have e3:=Int.mul_nonneg (show 0<=ev (lin u v) q by omega) (show 0<= -ev g (pt w) by omega)
  rw[Int.mul_neg]at e1 e2 e3;have:=id3 g q;rcases Int.lt_or_le 0 (ev g q)with h1|h1
  ·have:=Int.mul_pos h h1;omega
  ·exact h1
def cO(s:S)(r:aD):Bool:=mD ((edges r).map fun e=>(cross (sub e.b e.a) (sub s.a e.a),cross (sub e.b e.a) (sub s.b e.a))) 0 1 1 1
def iG(r:aD):List P3:=(edges r).map fun e=>lin e.a e.b
theorem wN(s:S)(r:aD):cO s r=true↔vT (iG r) s:=by
 unfold cO vT iG;rw[mP _ _ _ _ _ (by omega) (by omega) (by omega) (by omega)]
 constructor
 ·rintro⟨x,y,hx,hy,h,_⟩;refine⟨x,y,hx,hy,?_⟩;intro g hg;obtain⟨e,he,rfl⟩:=List.mem_map.1 hg;rw[gE,gE];exact h _ (List.mem_map.2 ⟨e,he,rfl⟩)
 ·rintro⟨x,y,hx,hy,h⟩;refine⟨x,y,hx,hy,?_,by omega,by omega⟩
  intro p hp;obtain⟨e,he,rfl⟩:=List.mem_map.1 hp;have:=h _ (List.mem_map.2 ⟨e,he,rfl⟩);rw[gE,gE]at this;exact this
theorem mK(u v w:V):edges [u,v,w] =[⟨u,v⟩,⟨v,w⟩,⟨w,u⟩] :=by simp[edges,cP,nth,nxt,List.range_succ]
theorem Uy{u v w:V}(hv:bW [u,v,w] =true)(p:Pt)(hp:cL p=true)(h:0<cross (sub v u) (sub w u)):
  bH [u,v,w] p=2↔∀g∈iG [u,v,w],0<ev g ⟨p.x,p.y,p.den⟩:=by
 have hd:0<p.den:=by
  unfold cL dL at hp;simp only[Bool.and_eq_true,decide_eq_true_eq]at hp;omega
 have e:∀a b:V,ev (lin a b) ⟨p.x,p.y,p.den⟩*p.den=(toV p a).x*(toV p b).y-(toV p a).y*(toV p b).x:=by intro a b;unfold ev lin toV;grind
 have sg:∀a b:V,0<ev (lin a b) ⟨p.x,p.y,p.den⟩↔0<(toV p a).x*(toV p b).y-(toV p a).y*(toV p b).x:=by
  intro a b;rw[<-e];constructor
  ·intro h;exact Int.mul_pos h hd
  ·intro h;exact Int.pos_of_mul_pos_left h hd|>fun h=>h
 have sz:∀a b:V,fR ⟨a,b⟩ p*p.den=(toV p a).x*(toV p b).y-(toV p a).y*(toV p b).x:=by intro a b;unfold fR toV cross sub;grind
 have so:∀a b:V,onP ⟨a,b⟩ p=onC (toV p a).x (toV p a).y (toV p b).x (toV p b).y ((toV p a).x*(toV p b).y-(toV p a).y*(toV p b).x):=by
  intro a b;unfold onP onC;have:(fR ⟨a,b⟩ p==0)=((toV p a).x*(toV p b).y-(toV p a).y*(toV p b).x==0):=by
   rw[Bool.eq_iff_iff];simp only[beq_iff_eq];rw[<-sz];constructor
   ·intro h;rw[h,Int.zero_mul]
   ·intro h;rcases Int.mul_eq_zero.1 h with h|h
    ·exact h
    ·omega
  rw[this]
 have sh:∀a b:V,hU ⟨a,b⟩ p=Bs (toV p a).y (toV p b).y ((toV p a).x*(toV p b).y-(toV p a).y*(toV p b).x):=by
  intro a b;unfold hU Bs;have:decide (0<fR ⟨a,b⟩ p)=decide (0<(toV p a).x*(toV p b).y-(toV p a).y*(toV p b).x):=by
   rw[decide_eq_decide,<-sz];constructor
   ·intro h;exact Int.mul_pos h hd
   ·intro h;exact Int.pos_of_mul_pos_left h hd|>fun h=>h
  rw[this]
 have hs:0<((toV p u).x*(toV p v).y-(toV p u).y*(toV p v).x)+((toV p v).x*(toV p w).y-(toV p v).y*(toV p w).x)+((toV p w).x*(toV p u).y-(toV p w).y*(toV p u).x):=by
  have:((toV p u).x*(toV p v).y-(toV p u).y*(toV p v).x)+((toV p v).x*(toV p w).y-(toV p v).y*(toV p w).x)+((toV p w).x*(toV p u).y-(toV p w).y*(toV p u).x)=cross (sub v u) (sub w u)*(p.den*p.den):=by unfold toV cross sub;grind
  rw[this];exact Int.mul_pos h (Int.mul_pos hd hd)
 have key:=aC7 (toV p u).x (toV p u).y (toV p v).x (toV p v).y (toV p w).x (toV p w).y hs;have:bH [u,v,w] p=aCn (toV p u).x (toV p u).y (toV p v).x (toV p v).y (toV p w).x (toV p w).y:=by
  unfold bH;rw[hv,hp,mK];simp only[Bool.not_true,Bool.or_self,Bool.false_eq_true,if_false,fH,so,sh];rfl
 rw[this,key,<-sg,<-sg,<-sg];unfold iG;rw[mK];simp
def cY(a b:aD):Bool:=(edges a).any (fun s=>cO s b)||((edges b).any (fun s=>cO s a)||bH b (cU (nth a 0) (nth a 1) (nth a 2))==2)
def jC(a b:aD):Bool:=(List.range a.length).any fun i=>b.all fun v=>decide (turn (nth a i) (nxt a i) v<=0)
def dK(a b:aD):Bool:=jC a b||jC b a
theorem uO(a b:aD)(ha:2<=a.length):jC a b=true↔∃f∈iG a,∀v∈b,ev f (pt v)<=0:=by
 unfold jC iG edges;rw[if_neg (by omega),List.map_map]
 simp only[List.any_eq_true,List.mem_range,List.all_eq_true,decide_eq_true_eq,List.mem_map,Function.comp,cP];have sg:∀n:Int,sgn n<=0↔n<=0:=by intro n;have:=uH n;omega
 constructor
 ·rintro⟨i,hi,h⟩;refine⟨_,⟨i,hi,rfl⟩,?_⟩;intro v hv;rw[gE];exact(sg _).1 (h v hv)
 ·rintro⟨f,⟨i,hi,rfl⟩,h⟩;refine⟨i,hi,?_⟩;intro v hv;have:=h v hv;rw[gE]at this;exact(sg _).2 this
end Go.Proofs.YtdaeofhdgabhjaaGreat.Geo
namespace Go.Proofs.YtdaeofhdgabhjaaGreat.Geo
theorem mZ:∀(L:List (Int×Int)) (ln ld hn hd:Int),ln*hd<hn*ld->(∀p∈L,¬(p.1<=0/\p.2<=0))->(∀p∈L,p.1<0-> -p.1*hd<hn*(p.2-p.1))->
  (∀q∈L,q.2<0->ln*(q.1-q.2)<q.1*ld)->(∀p∈L,∀q∈L,p.1<0->q.2<0-> -p.1*(q.1-q.2)<q.1*(p.2-p.1))->mD L ln ld hn hd=true
 |[],ln,ld,hn,hd,h0,_,_,_,_=>by simpa[mD]using h0
 |(a,b)::L,ln,ld,hn,hd,h0,h1,h2,h3,h4=>by
  have i1:∀p∈L,¬(p.1<=0/\p.2<=0):=fun p hp=>h1 p (List.mem_cons_of_mem _ hp)
  have i2:∀p∈L,p.1<0-> -p.1*hd<hn*(p.2-p.1):=fun p hp=>h2 p (List.mem_cons_of_mem _ hp)
  have i3:∀q∈L,q.2<0->ln*(q.1-q.2)<q.1*ld:=fun p hp=>h3 p (List.mem_cons_of_mem _ hp)
  have i4:∀p∈L,∀q∈L,p.1<0->q.2<0-> -p.1*(q.1-q.2)<q.1*(p.2-p.1):=fun p hp q hq=>h4 p (List.mem_cons_of_mem _ hp) q (List.mem_cons_of_mem _ hq)
  unfold mD;rw[if_neg (h1 (a,b) List.mem_cons_self)];split
  ·rename_i ha;split
   ·exact mZ L _ _ _ _ (h2 (a,b) List.mem_cons_self ha) i1 i2 (fun q hq hq2=>h4 (a,b) List.mem_cons_self q (List.mem_cons_of_mem _ hq) ha hq2) i4
   ·exact mZ L _ _ _ _ h0 i1 i2 i3 i4
  ·split
   ·rename_i hb;split
    ·exact mZ L _ _ _ _ (h3 (a,b) List.mem_cons_self hb) i1 (fun p hp hp1=>h4 p (List.mem_cons_of_mem _ hp) (a,b) List.mem_cons_self hp1 hb) i3 i4
    ·exact mZ L _ _ _ _ h0 i1 i2 i3 i4
   ·exact mZ L _ _ _ _ h0 i1 i2 i3 i4
theorem enters_of{F:List P3}{s:S}(h1:∀f∈F,¬(ev f (pt s.a)<=0/\ev f (pt s.b)<=0))
  (h2:∀f∈F,∀g∈F,ev f (pt s.a)<0->ev g (pt s.b)<0->ev f (pt s.a)*ev g (pt s.b)<ev g (pt s.a)*ev f (pt s.b)):vT F s:=by
 have:mD (F.map fun f=>(ev f (pt s.a),ev f (pt s.b))) 0 1 1 1=true:=by
  refine mZ _ _ _ _ _ (by decide) ?_ ?_ ?_ ?_
  ·intro p hp;obtain⟨f,hf,rfl⟩:=List.mem_map.1 hp;exact h1 f hf
  ·intro p hp hp1;obtain⟨f,hf,rfl⟩:=List.mem_map.1 hp;have:=h1 f hf;simp only at hp1|-;omega
  ·intro p hp hp1;obtain⟨f,hf,rfl⟩:=List.mem_map.1 hp;have:=h1 f hf;simp only at hp1|-;omega
  ·intro p hp q hq hp1 hq2;obtain⟨f,hf,rfl⟩:=List.mem_map.1 hp;obtain⟨g,hg,rfl⟩:=List.mem_map.1 hq;have:=h2 f hf g hg hp1 hq2;simp only;grind
 rw[mP _ _ _ _ _ (by decide) (by decide) (by decide) (by decide)]at this
 obtain⟨x,y,hx,hy,h,_⟩:=this;exact⟨x,y,hx,hy,fun g hg=>h _ (List.mem_map.2 ⟨g,hg,rfl⟩)⟩
theorem Xi{F:List P3}{Vs:List V}{Es:List S}{c:P3}(A:Poly F Vs Es c){s:S}(hne:s.a≠s.b):
  vT F s↔¬((∃f∈F,ev f (pt s.a)<=0/\ev f (pt s.b)<=0)\/(∀v∈Vs,ev (lin s.a s.b) (pt v)<=0)\/(∀v∈Vs,ev (lin s.b s.a) (pt v)<=0)):=by
 constructor
 ·rintro⟨x,y,hx,hy,h⟩;have hq:∀f∈F,0<ev f (cmb x (pt s.a) y (pt s.b)):=by intro f hf;rw[aK];have:=h f hf;grind
  have flat:∀g:P3,ev g (cmb x (pt s.a) y (pt s.b))=0->(∀v∈Vs,ev g (pt v)<=0)->∀r:P3,ev g r=0:=by
   intro g hg hv r;have near0:∀r:P3,0<=ev g r:=by
    intro r;obtain⟨N,n1,n2⟩:=big (cmb x (pt s.a) y (pt s.b)) (cmb (-1) r 0 r) F hq;have:=A.hull (cmb N (cmb x (pt s.a) y (pt s.b)) (-1) r) (fun f hf=>by have h5:=n2 f hf;have h6:=aK f r r (-1) 0;rw[aK f _ r N (-1)];omega) g hv
    rw[aK,hg]at this;omega
   have e1:=near0 r;have e2:=near0 (cmb (-1) r 0 r);rw[aK]at e2;omega
  have notflat:∀g:P3,(g=lin s.a s.b\/g=lin s.b s.a)->¬(∀v∈Vs,ev g (pt v)<=0):=by
   intro g hg hv;have h0:ev g (cmb x (pt s.a) y (pt s.b))=0:=by
    rw[aK];rcases hg with rfl|rfl
    ·rw[bG,bQ];omega
    ·rw[bG,bQ];omega
   have f1:=flat g h0 hv ⟨1,0,0⟩;have f2:=flat g h0 hv ⟨0,1,0⟩;apply hne;obtain⟨⟨ax,ay⟩,⟨bx,b_y⟩⟩:=s;simp only[V.mk.injEq];rcases hg with rfl|rfl<;>simp[ev,lin]at f1 f2<;>omega
  rintro(⟨f,hf,h1,h2⟩|h1|h1)
  ·have:=h f hf;have e1:=Int.mul_nonneg (show 0<= -ev f (pt s.a) by omega) (show 0<=x by omega)
   have e2:=Int.mul_nonneg (show 0<= -ev f (pt s.b) by omega) (show 0<=y by omega)
   rw[Int.neg_mul]at e1 e2;omega
  ·exact notflat _ (.inl rfl) h1
  ·exact notflat _ (.inr rfl) h1
 ·intro hno;refine enters_of ?_ ?_
  ·intro f hf h;exact hno (.inl ⟨f,hf,h⟩)
  ·intro f hf g hg h1 h2;apply Classical.byContradiction;intro h3;have hfb:0<ev f (pt s.b):=by
    rcases Int.lt_or_le 0 (ev f (pt s.b))with h|h
    ·exact h
    ·exact absurd (.inl ⟨f,hf,by omega,h⟩) hno
   have hga:0<ev g (pt s.a):=by
    rcases Int.lt_or_le 0 (ev g (pt s.a))with h|h
    ·exact h
    ·exact absurd (.inl ⟨g,hg,h,by omega⟩) hno
   have id:∀X:P3,(f.x*g.y-f.y*g.x)*ev (lin s.a s.b) X=(ev f (pt s.b)-ev f (pt s.a))*ev g X-(ev g (pt s.b)-ev g (pt s.a))*ev f X+(ev f (pt s.a)*ev g (pt s.b)-ev g (pt s.a)*ev f (pt s.b))*X.d:=by
    intro X;unfold ev lin pt;grind
   have val:∀X:P3,0<=ev f X->0<=ev g X->0<=X.d->0<=(f.x*g.y-f.y*g.x)*ev (lin s.a s.b) X:=by
    intro X hf hg hd;rw[id];have e1:=Int.mul_nonneg (show 0<=ev f (pt s.b)-ev f (pt s.a) by omega) hg
    have e2:=Int.mul_nonneg (show 0<= -(ev g (pt s.b)-ev g (pt s.a)) by omega) hf
    have e3:=Int.mul_nonneg (show 0<=ev f (pt s.a)*ev g (pt s.b)-ev g (pt s.a)*ev f (pt s.b) by omega) hd
    rw[Int.neg_mul]at e2;omega
   have hc:0<(f.x*g.y-f.y*g.x)*ev (lin s.a s.b) c:=by
    rw[id];have e1:=Int.mul_pos (show 0<ev f (pt s.b)-ev f (pt s.a) by omega) (A.cin g hg)
    have e2:=Int.mul_nonneg (show 0<= -(ev g (pt s.b)-ev g (pt s.a)) by omega) (show 0<=ev f c by have:=A.cin f hf;omega)
    have e3:=Int.mul_nonneg (show 0<=ev f (pt s.a)*ev g (pt s.b)-ev g (pt s.a)*ev f (pt s.b) by omega) (show 0<=c.d by have:=A.cd;omega)
    rw[Int.neg_mul]at e2;omega
   have hv:∀v∈Vs,0<=(f.x*g.y-f.y*g.x)*ev (lin s.a s.b) (pt v):=fun v hv=>val _ (A.nonneg f hf v hv) (A.nonneg g hg v hv) (show(0:Int)<=1 by decide)
   generalize f.x*g.y-f.y*g.x=k at*;apply hno;rcases Int.lt_trichotomy k 0 with hk|hk|hk
   ·refine .inr (.inl ?_);intro v hvm;rcases Int.lt_or_le 0 (ev (lin s.a s.b) (pt v))with h|h
    ·have:=Int.mul_neg_of_neg_of_pos hk h;have:=hv v hvm;omega
    ·exact h
   ·rw[hk,Int.zero_mul]at hc;omega
   ·refine .inr (.inr ?_);intro v hvm;have e:ev (lin s.b s.a) (pt v)= -ev (lin s.a s.b) (pt v):=by unfold ev lin pt;grind
    rw[e];rcases Int.lt_or_le (ev (lin s.a s.b) (pt v)) 0 with h|h
    ·have:=Int.mul_neg_of_pos_of_neg hk h;have:=hv v hvm;omega
    ·omega
theorem Ke{x:Int}(h:x.tmod 3=0):x.tdiv 3*3=x:=by
 obtain⟨q,rfl⟩:=Int.dvd_of_tmod_eq_zero h;rw[Int.mul_tdiv_cancel_left q (by decide)];omega
theorem Hs{x y d:Int}(h1:1<=d)(h2:d<=3)(hx: -(4000*d)<=x/\x<=4000*d)(hy: -(4000*d)<=y/\y<=4000*d)(hg:Nat.gcd (Nat.gcd x.natAbs y.natAbs) d.natAbs=1):cL ⟨x,y,d⟩=true:=by
 unfold cL dL aO;simp only[Bool.and_eq_true,decide_eq_true_eq,beq_iff_eq];exact⟨⟨⟨h1,by omega⟩,⟨⟨hx.1,hx.2⟩,hy.1⟩,hy.2⟩,hg⟩
theorem rA{u v w:V}(hu:aO u 2000=true)(hv:aO v 2000=true)(hw:aO w 2000=true):cL (cU u v w)=true:=by
 unfold aO at hu hv hw;simp only[Bool.and_eq_true,decide_eq_true_eq]at hu hv hw;have bx: -6000<=u.x+v.x+w.x/\u.x+v.x+w.x<=6000:=by omega
 have b_y: -6000<=u.y+v.y+w.y/\u.y+v.y+w.y<=6000:=by omega
 unfold cU;generalize u.x+v.x+w.x=x at*;generalize u.y+v.y+w.y=y at*;split
 ·rename_i h;have e1:=Ke h.1;have e2:=Ke h.2;exact Hs (by omega) (by omega) (by omega) (by omega) (by simp)
 ·rename_i h;refine Hs (by omega) (by omega) (by omega) (by omega) ?_
  have h3:Nat.gcd (Nat.gcd x.natAbs y.natAbs) 3∣3:=Nat.gcd_dvd_right _ _;have hle:=Nat.le_of_dvd (by decide) h3
  have hd1:Nat.gcd (Nat.gcd x.natAbs y.natAbs) 3∣x.natAbs:=Nat.dvd_trans (Nat.gcd_dvd_left _ _) (Nat.gcd_dvd_left _ _);have hd2:Nat.gcd (Nat.gcd x.natAbs y.natAbs) 3∣y.natAbs:=Nat.dvd_trans (Nat.gcd_dvd_left _ _) (Nat.gcd_dvd_right _ _);show Nat.gcd (Nat.gcd x.natAbs y.natAbs) 3=1;generalize Nat.gcd (Nat.gcd x.natAbs y.natAbs) 3=g at*;match g,hle with
  |0,_=>simp at h3
  |1,_=>rfl
  |2,_=>exact absurd h3 (by decide)
  |3,_=>exact absurd ⟨(jZ x 3).2 hd1,(jZ y 3).2 hd2⟩ h
theorem Mj(f:P3)(u v w:V):0<ev f ⟨(cU u v w).x,(cU u v w).y,(cU u v w).den⟩↔0<ev f ⟨u.x+v.x+w.x,u.y+v.y+w.y,3⟩:=by
 unfold cU;generalize u.x+v.x+w.x=x at*;generalize u.y+v.y+w.y=y at*;split
 ·rename_i h;have e1:=Ke h.1;have e2:=Ke h.2;have:ev f ⟨x,y,3⟩=3*ev f ⟨x.tdiv 3,y.tdiv 3,1⟩:=by unfold ev;grind
  rw[this];simp only;omega
 ·exact Iff.rfl
theorem aE3{r:aD}(h:r.length=3):∃u v w,r=[u,v,w] :=by
 match r,h with
 |[u,v,w],_=>exact⟨u,v,w,rfl⟩
theorem Cc{u v w:V}(h:bW [u,v,w] =true):0<cross (sub v u) (sub w u)/\aO u 2000=true/\aO v 2000=true/\aO w 2000=true:=by
 have hn:near [u,v,w] =true:=by
  unfold bW at h;simp only[Bool.and_eq_true]at h;grind
 have:=(yS hn).1 h;unfold turn at this;rw[uH]at this;unfold near at hn;simp at hn;exact⟨this,hn.1,hn.2.1,hn.2.2⟩
theorem Wo{a b:aD}(ha:bW a=true)(hb:bW b=true)(la:a.length=3)(lb:b.length=3):cY a b= !(dK a b):=by
 obtain⟨u,v,w,rfl⟩:=aE3 la;obtain⟨x,y,z,rfl⟩:=aE3 lb;obtain⟨ka,wu,wv,ww⟩:=Cc ha;obtain⟨kb,wx,wy,wz⟩:=Cc hb;have A:=Am ka;have B:=Am kb;have h1:=Em A B;have h2:=Jy A B;have lA:iG [u,v,w] =[lin u v,lin v w,lin w u] :=by simp[iG,mK]
 have lB:iG [x,y,z] =[lin x y,lin y z,lin z x] :=by simp[iG,mK]
 have hw:=Uy hb (cU u v w) (rA wu wv ww) kb;rw[Bool.eq_iff_iff];unfold cY dK;simp only[Bool.or_eq_true,List.any_eq_true,wN,beq_iff_eq,Bool.not_eq_true',Bool.or_eq_false_iff];show((∃s∈edges [u,v,w],_)\/(∃s∈edges [x,y,z],_)\/bH [x,y,z] (cU u v w)=2)↔_;rw[hw,mK,mK,lA,lB];simp only[Mj];rw[<-h1,h2];have r1:=uO [u,v,w] [x,y,z] (by simp)
 have r2:=uO [x,y,z] [u,v,w] (by simp)
 have nt:∀b:Bool,b=false↔¬b=true:=by decide
 rw[nt,nt,r1,r2,lA,lB];constructor
 ·rintro⟨h3,h4⟩;constructor
  ·rintro⟨f,hf,h5⟩;obtain⟨p,hp,h6⟩:=h4 f hf;have:=h5 p hp;omega
  ·rintro⟨f,hf,h5⟩;obtain⟨p,hp,h6⟩:=h3 f hf;have:=h5 p hp;omega
 ·rintro⟨h3,h4⟩;constructor
  ·intro g hg;apply Classical.byContradiction;intro hno;refine h4 ⟨g,hg,?_⟩;intro p hp;rcases Int.lt_or_le 0 (ev g (pt p))with h|h
   ·exact absurd ⟨p,hp,h⟩ hno
   ·exact h
  ·intro g hg;apply Classical.byContradiction;intro hno;refine h3 ⟨g,hg,?_⟩;intro p hp;rcases Int.lt_or_le 0 (ev g (pt p))with h|h
   ·exact absurd ⟨p,hp,h⟩ hno
   ·exact h
theorem Mf{r:aD}(hr:bW r=true)(lr:r.length=3){e:S}(hne:e.a≠e.b):cO e r= !(dK r [e.a,e.b]):=by
 obtain⟨u,v,w,rfl⟩:=aE3 lr;obtain⟨k,wu,wv,ww⟩:=Cc hr;have A:=Am k;have lA:iG [u,v,w] =[lin u v,lin v w,lin w u] :=by simp[iG,mK]
 have lE:iG [e.a,e.b] =[lin e.a e.b,lin e.b e.a] :=by simp[iG,edges,cP,nth,nxt,List.range_succ]
 have h1:=Xi A hne;have nt:∀b:Bool,b=false↔¬b=true:=by decide
 rw[Bool.eq_iff_iff,wN,lA,h1];unfold dK;rw[Bool.not_eq_true',nt,Bool.or_eq_true,uO _ _ (by simp),uO _ _ (by simp),lA,lE]
 simp
def iI(s:Shape)(r:aD):Bool:=(aE s).all (fun e=> !(cO e r))&&dG s (cU (nth r 0) (nth r 1) (nth r 2))==2
def fT(s:Shape)(r:aD):Bool:=(aE s).all (fun e=>dK r [e.a,e.b])&&gG s (iW (r.take 3))==2
theorem VR.oI{r:aD}(h:VR r){e:S}(he:e∈edges r):e.a≠e.b:=by
 have hn:=h.nodup;unfold edges at he;split at he
 ·cases he
 ·rename_i hl;obtain⟨i,hi,rfl⟩:=List.mem_map.1 he;have hi:=List.mem_range.1 hi;intro h2;have h3:nth r i=nth r ((i+1) % r.length):=h2;have:=h.inj hi (Nat.mod_lt _ (by omega)) h3
  by_cases h4:i+1<r.length
  ·rw[Nat.mod_eq_of_lt h4]at this;omega
  ·have h5:i+1=r.length:=by omega
   rw[h5,Nat.mod_self]at this;omega
theorem VS.oI{s:Shape}(h:VS s){e:S}(he:e∈aE s):e.a≠e.b:=by
 unfold aE at he;obtain⟨r,hr,he⟩:=List.mem_flatMap.1 he;exact(h.ring hr).oI he
theorem aAA{s:Shape}(hs:VS s){r:aD}(hr:bW r=true)(lr:r.length=3):iI s r=fT s r:=by
 unfold iI fT;have e1:(aE s).all (fun e=> !(cO e r))=(aE s).all (fun e=>dK r [e.a,e.b]):=by
  rw[Bool.eq_iff_iff,List.all_eq_true,List.all_eq_true];constructor
  ·intro h e he;have:=h e he;rw[Mf hr lr (hs.oI he)]at this;simpa using this
  ·intro h e he;have:=h e he;rw[Mf hr lr (hs.oI he),this];rfl
 rw[e1,Hr];obtain⟨u,v,w,rfl⟩:=aE3 lr;rw[show([u,v,w] :aD).take 3=[u,v,w]from rfl,zG]
 rfl
end Go.Proofs.YtdaeofhdgabhjaaGreat.Geo
namespace Go.Proofs.YtdaeofhdgabhjaaGreat
open Go.RowKit
abbrev Q4:=Int×Int×Int×Int
def rF(q:Q4)(p:Int×Int):Q4:=
 if p.1<0 then(if q.1*(p.2-p.1)< -p.1*q.2.1 then(-p.1,p.2-p.1,q.2.2)else q)
 else if p.2<0 then(if p.1*q.2.2.2<q.2.2.1*(p.1-p.2)then(q.1,q.2.1,p.1,p.1-p.2)else q)else q
def Eh(p:Int×Int):Bool:=decide (p.1<=0)&&decide (p.2<=0)
theorem lJ:∀(l:List (Int×Int)) (q:Q4),Geo.mD l q.1 q.2.1 q.2.2.1 q.2.2.2=(!(l.any Eh)&&decide ((l.foldl rF q).1*(l.foldl rF q).2.2.2<(l.foldl rF q).2.2.1*(l.foldl rF q).2.1))
 |[],q=>by simp[Geo.mD] <;>congr
 |(a,b)::l,(ln,ld,hn,hd)=>by
  unfold Geo.mD;rw[List.any_cons,List.foldl_cons];by_cases h1:a<=0/\b<=0
  ·have:Eh (a,b)=true:=by unfold Eh;simp[h1.1,h1.2]
   rw[if_pos h1,this];simp
  ·have h2:Eh (a,b)=false:=by unfold Eh;rw[Bool.and_eq_false_iff,decide_eq_false_iff_not,decide_eq_false_iff_not];omega
   rw[if_neg h1,h2,Bool.false_or];unfold rF;dsimp only;by_cases h3:a<0
   ·rw[if_pos h3,if_pos h3];by_cases h4:ln*(b-a)< -a*ld
    ·rw[if_pos h4,if_pos h4];exact lJ l (-a,b-a,hn,hd)
    ·rw[if_neg h4,if_neg h4];exact lJ l (ln,ld,hn,hd)
   ·rw[if_neg h3,if_neg h3];by_cases h5:b<0
    ·rw[if_pos h5,if_pos h5];by_cases h4:a*hd<hn*(a-b)
     ·rw[if_pos h4,if_pos h4];exact lJ l (ln,ld,a,a-b)
     ·rw[if_neg h4,if_neg h4];exact lJ l (ln,ld,hn,hd)
    ·rw[if_neg h5,if_neg h5];exact lJ l (ln,ld,hn,hd)
def vK(s e:Geo.S):Int×Int:=(Geo.cross (Geo.sub e.b e.a) (Geo.sub s.a e.a),Geo.cross (Geo.sub e.b e.a) (Geo.sub s.b e.a))
def uC(s:Geo.S)(r:Geo.aD):List (Int×Int):=(Geo.edges r).map (vK s)
def stE(s:Geo.S)(r:Geo.aD)(k:Nat):Q4:=((uC s r).take k).foldl rF (0,1,1,1)
def lnE(s:Geo.S)(r:Geo.aD)(k:Nat):Int:=(stE s r k).1
def ldE(s:Geo.S)(r:Geo.aD)(k:Nat):Int:=(stE s r k).2.1
def hnE(s:Geo.S)(r:Geo.aD)(k:Nat):Int:=(stE s r k).2.2.1
def hdE(s:Geo.S)(r:Geo.aD)(k:Nat):Int:=(stE s r k).2.2.2
def ibd(m x:Int):Prop:= -m<=x/\x<=m
def yH(s:Geo.S)(r:Geo.aD)(k:Nat):Prop:=((uC s r).take k).any Eh=false/\ibd 1600000000 (lnE s r k)/\ibd 1600000000 (ldE s r k)/\ibd 1600000000 (hnE s r k)/\ibd 1600000000 (hdE s r k)
theorem aBt(s:Geo.S)(r:Geo.aD):yH s r 0:=by
 unfold yH lnE ldE hnE hdE stE ibd;simp
theorem Li{s:Geo.S}{r:Geo.aD}{k:Nat}(hk:k<(Geo.edges r).length):(uC s r)[k]? =some (vK s (Geo.edges r)[k]):=by
 unfold uC;rw[List.getElem?_map,List.getElem?_eq_getElem hk];rfl
theorem Qy{s:Geo.S}{r:Geo.aD}{k:Nat}(hk:k<(Geo.edges r).length):stE s r (k+1)=rF (stE s r k) (vK s (Geo.edges r)[k]):=by
 unfold stE;rw[List.take_add_one,Li hk,List.foldl_append];rfl
theorem aBu{s:Geo.S}{r:Geo.aD}{k:Nat}(hk:k<(Geo.edges r).length)(h:yH s r k)(ho:Eh (vK s (Geo.edges r)[k])=false)
  (ha:ibd 800000000 (vK s (Geo.edges r)[k]).1) (hb:ibd 800000000 (vK s (Geo.edges r)[k]).2):yH s r (k+1):=by
 obtain⟨h1,h2,h3,h4,h5⟩:=h;unfold yH;refine⟨?_,?_⟩
 ·rw[List.take_add_one,Li hk,List.any_append,h1];simp[ho]
 ·unfold lnE ldE hnE hdE at*;rw[Qy hk];generalize vK s (Geo.edges r)[k] =p at ha hb|-;generalize stE s r k=q at h2 h3 h4 h5|-;obtain⟨a,b⟩:=p;obtain⟨ln,ld,hn,hd⟩:=q;unfold ibd at*;dsimp only at*;unfold rF;dsimp only;split
  ·split
   ·dsimp only;omega
   ·dsimp only;omega
  ·split
   ·split
    ·dsimp only;omega
    ·dsimp only;omega
   ·dsimp only;omega
theorem Xh{s:Geo.S}{r:Geo.aD}{k:Nat}(hk:k<(Geo.edges r).length)(ho:Eh (vK s (Geo.edges r)[k])=true):Geo.cO s r=false:=by
 have h:=lJ (uC s r) (0,1,1,1);have hm:(uC s r).any Eh=true:=List.any_eq_true.2 ⟨_,List.mem_map.2 ⟨_,List.getElem_mem hk,rfl⟩,ho⟩;rw[hm]at h;exact h
theorem Xj{s:Geo.S}{r:Geo.aD}(h:yH s r (Geo.edges r).length):Geo.cO s r=decide (lnE s r (Geo.edges r).length*hdE s r (Geo.edges r).length<hnE s r (Geo.edges r).length*ldE s r (Geo.edges r).length):=by
 have hl:(uC s r).length=(Geo.edges r).length:=by unfold uC;rw[List.length_map]
 have h1:=h.1;have e:=lJ (uC s r) (0,1,1,1);unfold lnE ldE hnE hdE stE;rw[<-hl,List.take_length]at h1|-;rw[h1]at e;exact e
structure TriOk(r:Geo.aD):Prop where
 three:3<=r.length
 len:r.length<=1000
 near:∀v∈r,Geo.aO v 10000=true
 edges:∀e∈Geo.edges r,Geo.aO e.a 10000=true/\Geo.aO e.b 10000=true
theorem Qp{r:Geo.aD}(h:Geo.VR r){e:Geo.S}(he:e∈Geo.edges r):Geo.aO e.a 10000=true/\Geo.aO e.b 10000=true:=by
 have h3:=h.three;unfold Geo.edges at he;rw[if_neg (by omega)]at he
 obtain⟨i,hi,rfl⟩:=List.mem_map.1 he;have hi:=List.mem_range.1 hi;exact⟨Geo.dQ (Geo.tC h.near i hi) (by omega),Geo.dQ (Geo.tC h.near _ (Nat.mod_lt _ (by omega))) (by omega)⟩
theorem aCx{r:Geo.aD}(h:Geo.VR r){v:Geo.V}(hv:v∈r):Geo.aO v 10000=true:=by
 have h1:=h.near;unfold Geo.near at h1;rw[List.all_eq_true]at h1;exact Geo.dQ (h1 v hv) (by omega)
theorem Qs{r:Geo.aD}(h:Geo.bW r=true):TriOk r:=by
 have h:=(Geo.cS r).1 h;have:=h.most;exact⟨h.three,by omega,fun v hv=>aCx h hv,fun e he=>Qp h he⟩
end Go.Proofs.YtdaeofhdgabhjaaGreat
namespace Go.Proofs.YtdaeofhdgabhjaaGreat
open Go.RowKit
set_option maxRecDepth 100000
noncomputable section
open Geo (aE nth aA)
def eP(s:Geo.S)(r:Geo.aD)(k:Nat):Int×Int:=vK s (aX (Geo.edges r) k)
def eA(s:Geo.S)(r:Geo.aD)(k:Nat):Int:=(eP s r k).1
def eB'(s:Geo.S)(r:Geo.aD)(k:Nat):Int:=(eP s r k).2
def eO(s:Geo.S)(r:Geo.aD)(k:Nat):Bool:=Eh (eP s r k)
theorem Gn{s:Geo.Shape}(h:Geo.VS s):∀e∈aE s,Geo.aO e.a 10000=true/\Geo.aO e.b 10000=true:=by
 intro e he;unfold aE at he;obtain⟨r,hr,her⟩:=List.mem_flatMap.1 he;exact Qp (h.ring hr) her
def aMD:Con:=con (ac aS (a1 (aL .V))) (fun(s,r)=>[bd 10000 s.a,bd 10000 s.b,r.length<=1000,(∀i,i<(Geo.edges r).length->bd 10000 (aX (Geo.edges r) i).a/\bd 10000 (aX (Geo.edges r) i).b)]) (fun(s,r)=> .bool (Geo.cO s r))
set_option maxHeartbeats 2000000 in
theorem aOE:aMD.Ok Tryz.prog 158:=aU (bL aKQ) (raw:=bO) (fun(s,r)=>[(3,.mk Nat (fun F _=>rH F 17) [] (fun k=>[k<=(Geo.edges r).length,yH s r k]) (fun k=>[(17,.int .i64 (k:Int)),(5,.int .i64 (lnE s r k)),(6,.int .i64 (ldE s r k)),(7,.int .i64 (hnE s r k)),(8,.int .i64 (hdE s r k))]) (fun _=>[]) (fun k=>(Geo.edges r).length-k) fun k=>
  [jU 7 [(12,.int .i64 (eA s r k)),(13,.int .i64 (eB' s r k))],jb 8 40 (eO s r k),jPU 15 [eO s r k=false] [(5,.int .i64 (lnE s r (k+1))),(6,.int .i64 (ldE s r (k+1))),(7,.int .i64 (hnE s r (k+1))),(8,.int .i64 (hdE s r (k+1)))]])]
  ) (fun(_,_)=>⟨_,rfl⟩) fun(s,r) hp=>bM (q:=r.length<=1000/\(0=(0:Int)/\0=lnE s r 0/\1=ldE s r 0/\1=hnE s r 0/\1=hdE s r 0/\(0:Nat)<=(Geo.edges r).length/\yH s r 0)/\
 (∀x:Nat,x<=(Geo.edges r).length/\yH s r x->((x:Int)<(Geo.edges r).length->(ix (x:Int) (Geo.edges r).length/\x<(Geo.edges r).length/\bd 1000000000 (aX (Geo.edges r) x).b/\bd 1000000000 (aX (Geo.edges r) x).a/\(bd 1000000000 s.a/\bd 1000000000 (aX (Geo.edges r) x).a/\cOK (Geo.sub (aX (Geo.edges r) x).b (aX (Geo.edges r) x).a) (Geo.sub s.a (aX (Geo.edges r) x).a)/\bd 1000000000 s.b/\bd 1000000000 (aX (Geo.edges r) x).a/\cOK (Geo.sub (aX (Geo.edges r) x).b (aX (Geo.edges r) x).a) (Geo.sub s.b (aX (Geo.edges r) x).a)/\Geo.cross (Geo.sub (aX (Geo.edges r) x).b (aX (Geo.edges r) x).a) (Geo.sub s.a (aX (Geo.edges r) x).a)=eA s r x/\Geo.cross (Geo.sub (aX (Geo.edges r) x).b (aX (Geo.edges r) x).a) (Geo.sub s.b (aX (Geo.edges r) x).a)=eB' s r x)/\
    (∀y:Unit,((eA s r x<=0->decide (eB' s r x<=0)=eO s r x)/\
      (¬eA s r x<=0->false=eO s r x))/\
     (∀y_1:Unit,(eO s r x=true->false=Geo.cO s r)/\
      (eO s r x=false->(eA s r x<0->aG (0-eA s r x)/\aG ((0-eA s r x)*ldE s r x)/\aG (eB' s r x-eA s r x)/\aG (lnE s r x*(eB' s r x-eA s r x))/\(lnE s r x*(eB' s r x-eA s r x)<(0-eA s r x)*ldE s r x->aG (0-eA s r x)/\aG (eB' s r x-eA s r x)/\0-eA s r x=lnE s r (x+1)/\eB' s r x-eA s r x=ldE s r (x+1)/\hnE s r x=hnE s r (x+1)/\hdE s r x=hdE s r (x+1)/\eO s r x=false)/\
        (¬lnE s r x*(eB' s r x-eA s r x)<(0-eA s r x)*ldE s r x->lnE s r x=lnE s r (x+1)/\ldE s r x=ldE s r (x+1)/\hnE s r x=hnE s r (x+1)/\hdE s r x=hdE s r (x+1)/\eO s r x=false))/\
       (¬eA s r x<0->(eB' s r x<0->aG (eA s r x*hdE s r x)/\aG (eA s r x-eB' s r x)/\aG (hnE s r x*(eA s r x-eB' s r x))/\(eA s r x*hdE s r x<hnE s r x*(eA s r x-eB' s r x)->aG (eA s r x-eB' s r x)/\lnE s r x=lnE s r (x+1)/\ldE s r x=ldE s r (x+1)/\eA s r x=hnE s r (x+1)/\eA s r x-eB' s r x=hdE s r (x+1)/\eO s r x=false)/\
         (¬eA s r x*hdE s r x<hnE s r x*(eA s r x-eB' s r x)->lnE s r x=lnE s r (x+1)/\ldE s r x=ldE s r (x+1)/\hnE s r x=hnE s r (x+1)/\hdE s r x=hdE s r (x+1)/\eO s r x=false))/\
        (¬eB' s r x<0->lnE s r x=lnE s r (x+1)/\ldE s r x=ldE s r (x+1)/\hnE s r x=hnE s r (x+1)/\hdE s r x=hdE s r (x+1)/\eO s r x=false))))))/\
   (∀y:Unit,eO s r x=false->aG ((x:Int)+1)/\(x:Int)+1=((x+1:Nat):Int)/\lnE s r (x+1)=lnE s r (x+1)/\ldE s r (x+1)=ldE s r (x+1)/\hnE s r (x+1)=hnE s r (x+1)/\hdE s r (x+1)=hdE s r (x+1)/\x+1<=(Geo.edges r).length/\yH s r (x+1)/\(Geo.edges r).length-(x+1)<(Geo.edges r).length-x))/\
  (¬(x:Int)<(Geo.edges r).length->aG (lnE s r x*hdE s r x)/\aG (hnE s r x*ldE s r x)/\decide (Geo.fX (lnE s r x*hdE s r x) (hnE s r x*ldE s r x)<0)=Geo.cO s r))) (by kernel_rfl) (by
  change bd 10000 s.a/\bd 10000 s.b/\r.length<=1000/\((∀i,i<(Geo.edges r).length->bd 10000 (aX (Geo.edges r) i).a/\bd 10000 (aX (Geo.edges r) i).b))at hp;obtain⟨ha,hb,hl,he⟩:=hp;have he:∀i:Nat,(i:Int)<(Geo.edges r).length->bd 10000 (aX (Geo.edges r) i).a/\bd 10000 (aX (Geo.edges r) i).b:=fun i h=>he i (by omega)
  have el:(Geo.edges r).length<=1000:=by unfold Geo.edges;split<;>simp<;>omega
  have ha9:bd 1000000000 s.a:=ha.mono;have hb9:bd 1000000000 s.b:=hb.mono;have e9a:∀i:Nat,(i:Int)<(Geo.edges r).length->bd 1000000000 (aX (Geo.edges r) i).a:=fun i h=>(he i h).1.mono
  have e9b:∀i:Nat,(i:Int)<(Geo.edges r).length->bd 1000000000 (aX (Geo.edges r) i).b:=fun i h=>(he i h).2.mono
  have cA:∀(v:Geo.V) (i:Nat),bd 10000 v->(i:Int)<(Geo.edges r).length->cOK (Geo.sub (aX (Geo.edges r) i).b (aX (Geo.edges r) i).a) (Geo.sub v (aX (Geo.edges r) i).a):=fun v i hv h=>by
   have:=nK (kJ (he i h).2 (he i h).1) (kJ hv (he i h).1);unfold cOK;omega
  have eN:∀i:Nat,(i:Int)<(Geo.edges r).length->aX (Geo.edges r) i=(Geo.edges r)[i]! :=fun i h=>by rw[fA (by omega),getElem!_pos _ _ (by omega)]
  have bA:∀i:Nat,(i:Int)<(Geo.edges r).length->ibd 800000000 (eA s r i)/\ibd 800000000 (eB' s r i):=fun i h=>by
   have h1:=nK (kJ (he i h).2 (he i h).1) (kJ ha (he i h).1);have h2:=nK (kJ (he i h).2 (he i h).1) (kJ hb (he i h).1);unfold eA eB' eP vK ibd;dsimp only;unfold Geo.cross;omega
  have sN:∀i:Nat,(i:Int)<(Geo.edges r).length->stE s r (i+1)=rF (stE s r i) (eP s r i):=fun i h=>by
   rw[Qy (show i<(Geo.edges r).length by omega)];unfold eP;rw[fA (by omega)]
  have iN:∀i:Nat,(i:Int)<(Geo.edges r).length->yH s r i->eO s r i=false->yH s r (i+1):=fun i h h1 h2=>by
   have hb:=bA i h;have e:eP s r i=vK s (Geo.edges r)[i] :=by unfold eP;rw[fA (by omega)]
   refine aBu (show i<(Geo.edges r).length by omega) h1 ?_ ?_ ?_
   ·rw[<-e];exact h2
   ·rw[<-e];exact hb.1
   ·rw[<-e];exact hb.2
  have oY:∀i:Nat,(i:Int)<(Geo.edges r).length->eO s r i=true->false=Geo.cO s r:=fun i h h2=>by
   symm;refine Xh (k:=i) (show i<(Geo.edges r).length by omega) ?_
   rw[<-fA (by omega)];exact h2
  have oE:∀i:Nat,¬(i:Int)<(Geo.edges r).length->i<=(Geo.edges r).length->yH s r i->decide (Geo.fX (lnE s r i*hdE s r i) (hnE s r i*ldE s r i)<0)=Geo.cO s r:=fun i h h2 h3=>by
   obtain rfl:i=(Geo.edges r).length:=by omega
   rw[Xj h3];unfold Geo.fX;grind
  have o1:∀i:Nat,eA s r i<=0->decide (eB' s r i<=0)=eO s r i:=fun i h=>by
   unfold eO Eh;rw[decide_eq_true (show(eP s r i).1<=0 from h)];rfl
  have o2:∀i:Nat,¬eA s r i<=0->false=eO s r i:=fun i h=>by
   unfold eO Eh;rw[decide_eq_false (show¬(eP s r i).1<=0 from h)];rfl
  have nN:∀x:Int,0-x= -x:=fun x=>by omega
  have s1:∀i:Nat,(i:Int)<(Geo.edges r).length->eA s r i<0->lnE s r i*(eB' s r i-eA s r i)<(0-eA s r i)*ldE s r i->stE s r (i+1)=(0-eA s r i,eB' s r i-eA s r i,hnE s r i,hdE s r i):=fun i h h1 h2=>by
   rw[sN i h];unfold rF;rw[if_pos (show(eP s r i).1<0 from h1)];rw[nN]at h2;exact(if_pos (show(stE s r i).1*((eP s r i).2-(eP s r i).1)< -(eP s r i).1*(stE s r i).2.1 from h2)).trans (by rw[nN];rfl)
  have s2:∀i:Nat,(i:Int)<(Geo.edges r).length->eA s r i<0->¬lnE s r i*(eB' s r i-eA s r i)<(0-eA s r i)*ldE s r i->stE s r (i+1)=stE s r i:=fun i h h1 h2=>by
   rw[sN i h];unfold rF;rw[if_pos (show(eP s r i).1<0 from h1)];rw[nN]at h2;exact if_neg h2
  have s3:∀i:Nat,(i:Int)<(Geo.edges r).length->¬eA s r i<0->eB' s r i<0->eA s r i*hdE s r i<hnE s r i*(eA s r i-eB' s r i)->stE s r (i+1)=(lnE s r i,ldE s r i,eA s r i,eA s r i-eB' s r i):=fun i h h1 h2 h3=>by
   rw[sN i h];unfold rF;rw[if_neg (show¬(eP s r i).1<0 from h1),if_pos (show(eP s r i).2<0 from h2)];exact if_pos h3
  have s4:∀i:Nat,(i:Int)<(Geo.edges r).length->¬eA s r i<0->eB' s r i<0->¬eA s r i*hdE s r i<hnE s r i*(eA s r i-eB' s r i)->stE s r (i+1)=stE s r i:=fun i h h1 h2 h3=>by
   rw[sN i h];unfold rF;rw[if_neg (show¬(eP s r i).1<0 from h1),if_pos (show(eP s r i).2<0 from h2)];exact if_neg h3
  have s5:∀i:Nat,(i:Int)<(Geo.edges r).length->¬eA s r i<0->¬eB' s r i<0->stE s r (i+1)=stE s r i:=fun i h h1 h2=>by
   rw[sN i h];unfold rF;rw[if_neg (show¬(eP s r i).1<0 from h1)];exact if_neg (show¬(eP s r i).2<0 from h2)
  have w:∀i:Nat,(i:Int)<(Geo.edges r).length->yH s r i->aG (0-eA s r i)/\aG ((0-eA s r i)*ldE s r i)/\aG (eB' s r i-eA s r i)/\aG (lnE s r i*(eB' s r i-eA s r i))/\aG (eA s r i*hdE s r i)/\aG (eA s r i-eB' s r i)/\aG (hnE s r i*(eA s r i-eB' s r i)):=fun i h hI=>by
   obtain⟨h1,h2⟩:=bA i h;obtain⟨_,g1,g2,g3,g4⟩:=hI;unfold ibd at h1 h2 g1 g2 g3 g4;have m1:=iP (x:=0-eA s r i) (y:=ldE s r i) (A:=1600000000) (B:=1600000000) (by omega) (by omega)
   have m2:=iP (x:=lnE s r i) (y:=eB' s r i-eA s r i) (A:=1600000000) (B:=1600000000) (by omega) (by omega)
   have m3:=iP (x:=eA s r i) (y:=hdE s r i) (A:=1600000000) (B:=1600000000) (by omega) (by omega)
   have m4:=iP (x:=hnE s r i) (y:=eA s r i-eB' s r i) (A:=1600000000) (B:=1600000000) (by omega) (by omega)
   exact⟨dY (by omega),dY (by omega),dY (by omega),dY (by omega),dY (by omega),dY (by omega),dY (by omega)⟩
  have wE:∀i:Nat,yH s r i->aG (lnE s r i*hdE s r i)/\aG (hnE s r i*ldE s r i):=fun i hI=>by
   obtain⟨_,g1,g2,g3,g4⟩:=hI;unfold ibd at g1 g2 g3 g4;have m1:=iP (x:=lnE s r i) (y:=hdE s r i) (A:=1600000000) (B:=1600000000) (by omega) (by omega)
   have m2:=iP (x:=hnE s r i) (y:=ldE s r i) (A:=1600000000) (B:=1600000000) (by omega) (by omega)
   exact⟨dY (by omega),dY (by omega)⟩
  have z:=aBt s r;have q1:∀i:Nat,(i:Int)<(Geo.edges r).length->eA s r i<0->lnE s r i*(eB' s r i-eA s r i)<(0-eA s r i)*ldE s r i->0-eA s r i=lnE s r (i+1)/\eB' s r i-eA s r i=ldE s r (i+1)/\hnE s r i=hnE s r (i+1)/\hdE s r i=hdE s r (i+1):=fun i h0 h1 h2=>by
   have e:=s1 i h0 h1 h2;exact⟨(congrArg (fun q:Q4=>q.1) e).symm,(congrArg (fun q:Q4=>q.2.1) e).symm,(congrArg (fun q:Q4=>q.2.2.1) e).symm,(congrArg (fun q:Q4=>q.2.2.2) e).symm⟩
  have q2:∀i:Nat,(i:Int)<(Geo.edges r).length->eA s r i<0->¬lnE s r i*(eB' s r i-eA s r i)<(0-eA s r i)*ldE s r i->lnE s r i=lnE s r (i+1)/\ldE s r i=ldE s r (i+1)/\hnE s r i=hnE s r (i+1)/\hdE s r i=hdE s r (i+1):=fun i h0 h1 h2=>by
   have e:=s2 i h0 h1 h2;exact⟨(congrArg (fun q:Q4=>q.1) e).symm,(congrArg (fun q:Q4=>q.2.1) e).symm,(congrArg (fun q:Q4=>q.2.2.1) e).symm,(congrArg (fun q:Q4=>q.2.2.2) e).symm⟩
  have q3:∀i:Nat,(i:Int)<(Geo.edges r).length->¬eA s r i<0->eB' s r i<0->eA s r i*hdE s r i<hnE s r i*(eA s r i-eB' s r i)->lnE s r i=lnE s r (i+1)/\ldE s r i=ldE s r (i+1)/\eA s r i=hnE s r (i+1)/\eA s r i-eB' s r i=hdE s r (i+1):=fun i h0 h1 h2 h3=>by
   have e:=s3 i h0 h1 h2 h3;exact⟨(congrArg (fun q:Q4=>q.1) e).symm,(congrArg (fun q:Q4=>q.2.1) e).symm,(congrArg (fun q:Q4=>q.2.2.1) e).symm,(congrArg (fun q:Q4=>q.2.2.2) e).symm⟩
  have q4:∀i:Nat,(i:Int)<(Geo.edges r).length->¬eA s r i<0->eB' s r i<0->¬eA s r i*hdE s r i<hnE s r i*(eA s r i-eB' s r i)->lnE s r i=lnE s r (i+1)/\ldE s r i=ldE s r (i+1)/\hnE s r i=hnE s r (i+1)/\hdE s r i=hdE s r (i+1):=fun i h0 h1 h2 h3=>by
   have e:=s4 i h0 h1 h2 h3;exact⟨(congrArg (fun q:Q4=>q.1) e).symm,(congrArg (fun q:Q4=>q.2.1) e).symm,(congrArg (fun q:Q4=>q.2.2.1) e).symm,(congrArg (fun q:Q4=>q.2.2.2) e).symm⟩
  have q5:∀i:Nat,(i:Int)<(Geo.edges r).length->¬eA s r i<0->¬eB' s r i<0->lnE s r i=lnE s r (i+1)/\ldE s r i=ldE s r (i+1)/\hnE s r i=hnE s r (i+1)/\hdE s r i=hdE s r (i+1):=fun i h0 h1 h2=>by
   have e:=s5 i h0 h1 h2;exact⟨(congrArg (fun q:Q4=>q.1) e).symm,(congrArg (fun q:Q4=>q.2.1) e).symm,(congrArg (fun q:Q4=>q.2.2.1) e).symm,(congrArg (fun q:Q4=>q.2.2.2) e).symm⟩
  clear he sN bA eN nN s1 s2 s3 s4 s5
  repeat' first|with_reducible apply And.intro|with_reducible intro
  all_goals repeat with_reducible cases‹_/\yH _ _ _›
  all_goals first|assumption|with_reducible rfl|(with_reducible exact e9a _ ‹_›)|(with_reducible exact e9b _ ‹_›)|(with_reducible exact cA _ _ ‹_› ‹_›)|(with_reducible exact oY _ ‹_› ‹_›)|(with_reducible exact oE _ ‹_› ‹_› ‹_›)|(with_reducible exact o1 _ ‹_›)|(with_reducible exact o2 _ ‹_›)|(with_reducible exact(w _ ‹_› ‹_›).1)|(with_reducible exact(w _ ‹_› ‹_›).2.1)|(with_reducible exact(w _ ‹_› ‹_›).2.2.1)|(with_reducible exact(w _ ‹_› ‹_›).2.2.2.1)|(with_reducible exact(w _ ‹_› ‹_›).2.2.2.2.1)|(with_reducible exact(w _ ‹_› ‹_›).2.2.2.2.2.1)|(with_reducible exact(w _ ‹_› ‹_›).2.2.2.2.2.2)|(with_reducible exact(wE _ ‹_›).1)|(with_reducible exact(wE _ ‹_›).2)|(with_reducible exact iN _ ‹_› ‹_› ‹_›)|(with_reducible exact(q1 _ ‹_› ‹_› ‹_›).1)|(with_reducible exact(q1 _ ‹_› ‹_› ‹_›).2.1)|(with_reducible exact(q1 _ ‹_› ‹_› ‹_›).2.2.1)|(with_reducible exact(q1 _ ‹_› ‹_› ‹_›).2.2.2)|(with_reducible exact(q2 _ ‹_› ‹_› ‹_›).1)|(with_reducible exact(q2 _ ‹_› ‹_› ‹_›).2.1)|(with_reducible exact(q2 _ ‹_› ‹_› ‹_›).2.2.1)|(with_reducible exact(q2 _ ‹_› ‹_› ‹_›).2.2.2)|(with_reducible exact(q3 _ ‹_› ‹_› ‹_› ‹_›).1)|(with_reducible exact(q3 _ ‹_› ‹_› ‹_› ‹_›).2.1)|(with_reducible exact(q3 _ ‹_› ‹_› ‹_› ‹_›).2.2.1)|(with_reducible exact(q3 _ ‹_› ‹_› ‹_› ‹_›).2.2.2)|(with_reducible exact(q4 _ ‹_› ‹_› ‹_› ‹_›).1)|(with_reducible exact(q4 _ ‹_› ‹_› ‹_› ‹_›).2.1)|(with_reducible exact(q4 _ ‹_› ‹_› ‹_› ‹_›).2.2.1)|(with_reducible exact(q4 _ ‹_› ‹_› ‹_› ‹_›).2.2.2)|(with_reducible exact(q5 _ ‹_› ‹_› ‹_›).1)|(with_reducible exact(q5 _ ‹_› ‹_› ‹_›).2.1)|(with_reducible exact(q5 _ ‹_› ‹_› ‹_›).2.2.1)|(with_reducible exact(q5 _ ‹_› ‹_› ‹_›).2.2.2)|omega|(unfold ix;omega)|(unfold aG;omega)|rfl)
def aLo:Tab:=cJ [(158,aMD)] t21
theorem aHD:aLo.Ok Tryz.prog:=aH aKQ ⟨aOE,trivial⟩
theorem aAr{t:LT}{l:List t.ty}{q:t.ty->Bool}{j:Nat}(hj:j<l.length)(h:q (t.nth l j)=true):l.any q=true:=
 List.any_eq_true.2 ⟨_,List.getElem_mem hj,by rw[<-t.nth_eq l hj];exact h⟩
theorem aC0{t:LT}{l:List t.ty}{q:t.ty->Bool}(h:aW (fun j=>q (t.nth l j)=false) l.length):l.any q=false:=
 List.any_eq_false.2 fun x hx=>by
  obtain⟨j,hj,rfl⟩:=List.getElem_of_mem hx;have:=h j hj;dsimp only at this;rw[t.nth_eq l hj]at this;rw[this];simp
def c88:Con:=con (ac (aL .V) (a1 (aL .V))) (fun(a,b)=>[TriOk a,TriOk b]) (fun(a,b)=> .bool (Geo.cY a b))
theorem k88:c88.Ok Tryz.prog 88:=aU (bL aHD) (raw:=bO) (fun(a,b)=>[cnt 2 12 (Geo.edges a).length (aW fun i=>Geo.cO (aX (Geo.edges a) i) b=false),cnt 8 23 (Geo.edges b).length (aW fun i=>Geo.cO (aX (Geo.edges b) i) a=false)]
  ) (fun(_,_)=>⟨_,rfl⟩) fun(a,b) hp=>bM (q:=a.length<=1000/\(0=(0:Int)/\(0:Nat)<=(Geo.edges a).length/\aW (fun i=>Geo.cO (aX (Geo.edges a) i) b=false) 0)/\
 (∀x:Nat,x<=(Geo.edges a).length/\aW (fun i=>Geo.cO (aX (Geo.edges a) i) b=false) x->((x:Int)<(Geo.edges a).length->ix (x:Int) (Geo.edges a).length/\x<(Geo.edges a).length/\bd 10000 (aX (Geo.edges a) x).a/\bd 10000 (aX (Geo.edges a) x).b/\b.length<=1000/\(∀i:Nat,i<(Geo.edges b).length->bd 10000 (aX (Geo.edges b) i).a/\bd 10000 (aX (Geo.edges b) i).b)/\(Geo.cO (aX (Geo.edges a) x) b=true->true=Geo.cY a b)/\
   (Geo.cO (aX (Geo.edges a) x) b=false->aG ((x:Int)+1)/\(x:Int)+1=((x+1:Nat):Int)/\x+1<=(Geo.edges a).length/\aW (fun i=>Geo.cO (aX (Geo.edges a) i) b=false) (x+1)/\(Geo.edges a).length-(x+1)<(Geo.edges a).length-x))/\
  (¬(x:Int)<(Geo.edges a).length->b.length<=1000/\(0=(0:Int)/\(0:Nat)<=(Geo.edges b).length/\aW (fun i=>Geo.cO (aX (Geo.edges b) i) a=false) 0)/\
   (∀x_1:Nat,x_1<=(Geo.edges b).length/\aW (fun i=>Geo.cO (aX (Geo.edges b) i) a=false) x_1->((x_1:Int)<(Geo.edges b).length->ix (x_1:Int) (Geo.edges b).length/\x_1<(Geo.edges b).length/\bd 10000 (aX (Geo.edges b) x_1).a/\bd 10000 (aX (Geo.edges b) x_1).b/\a.length<=1000/\(∀i:Nat,i<(Geo.edges a).length->bd 10000 (aX (Geo.edges a) i).a/\bd 10000 (aX (Geo.edges a) i).b)/\(Geo.cO (aX (Geo.edges b) x_1) a=true->true=Geo.cY a b)/\
     (Geo.cO (aX (Geo.edges b) x_1) a=false->aG ((x_1:Int)+1)/\(x_1:Int)+1=((x_1+1:Nat):Int)/\x_1+1<=(Geo.edges b).length/\aW (fun i=>Geo.cO (aX (Geo.edges b) i) a=false) (x_1+1)/\(Geo.edges b).length-(x_1+1)<(Geo.edges b).length-x_1))/\
    (¬(x_1:Int)<(Geo.edges b).length->ix 0 a.length/\ix 1 a.length/\ix 2 a.length/\bd 1000000000 (nth a 0)/\bd 1000000000 (nth a 1)/\bd 1000000000 (nth a 2)/\b.length<=1000/\decide (Geo.bH b (Geo.cU (nth a 0) (nth a 1) (nth a 2))=2)=Geo.cY a b))))) (by kernel_rfl) (by
  change TriOk a/\TriOk b at hp;obtain⟨ha,hb⟩:=hp;have la:=ha.len;have lb:=hb.len;have l3:=ha.three;have el:∀r:Geo.aD,r.length<=1000->(Geo.edges r).length<=1000:=fun r h=>by unfold Geo.edges;split<;>simp<;>omega
  have ela:=el a la;have elb:=el b lb;have eb:∀r:Geo.aD,TriOk r->∀i:Nat,i<(Geo.edges r).length->bd 10000 (aX (Geo.edges r) i).a/\bd 10000 (aX (Geo.edges r) i).b:=fun r h i hi=>by
   have:=h.edges _ (List.getElem_mem hi);rw[fA hi];exact⟨pF this.1,pF this.2⟩
  have ea1:∀i:Nat,(i:Int)<(Geo.edges a).length->bd 10000 (aX (Geo.edges a) i).a:=fun i h=>(eb a ha i (by omega)).1
  have ea2:∀i:Nat,(i:Int)<(Geo.edges a).length->bd 10000 (aX (Geo.edges a) i).b:=fun i h=>(eb a ha i (by omega)).2
  have eb1:∀i:Nat,(i:Int)<(Geo.edges b).length->bd 10000 (aX (Geo.edges b) i).a:=fun i h=>(eb b hb i (by omega)).1
  have eb2:∀i:Nat,(i:Int)<(Geo.edges b).length->bd 10000 (aX (Geo.edges b) i).b:=fun i h=>(eb b hb i (by omega)).2
  have xa1:∀i:Nat,i<(Geo.edges a).length->bd 10000 (aX (Geo.edges a) i).a:=fun i h=>(eb a ha i h).1
  have xa2:∀i:Nat,i<(Geo.edges a).length->bd 10000 (aX (Geo.edges a) i).b:=fun i h=>(eb a ha i h).2
  have xb1:∀i:Nat,i<(Geo.edges b).length->bd 10000 (aX (Geo.edges b) i).a:=fun i h=>(eb b hb i h).1
  have xb2:∀i:Nat,i<(Geo.edges b).length->bd 10000 (aX (Geo.edges b) i).b:=fun i h=>(eb b hb i h).2
  have vb:∀i,i<a.length->bd 1000000000 (nth a i):=fun i h=>pF (ha.near _ (Geo.fK h)) (by decide)
  have v0:=vb 0 (by omega)
  have v1:=vb 1 (by omega)
  have v2:=vb 2 (by omega)
  have t1:∀i:Nat,(i:Int)<(Geo.edges a).length->Geo.cO (aX (Geo.edges a) i) b=true->true=Geo.cY a b:=fun i h h2=>by
   unfold Geo.cY;rw[aAr (t:= .S) (l:=Geo.edges a) (q:=fun s=>Geo.cO s b) (j:=i) (by omega) h2];rfl
  have t2:∀i:Nat,(i:Int)<(Geo.edges b).length->Geo.cO (aX (Geo.edges b) i) a=true->true=Geo.cY a b:=fun i h h2=>by
   unfold Geo.cY;rw[aAr (t:= .S) (l:=Geo.edges b) (q:=fun s=>Geo.cO s a) (j:=i) (by omega) h2];simp
  have t3:∀x y:Nat,¬(x:Int)<(Geo.edges a).length->x<=(Geo.edges a).length->aW (fun i=>Geo.cO (aX (Geo.edges a) i) b=false) x->¬(y:Int)<(Geo.edges b).length->y<=(Geo.edges b).length->aW (fun i=>Geo.cO (aX (Geo.edges b) i) a=false) y->decide (Geo.bH b (Geo.cU (nth a 0) (nth a 1) (nth a 2))=2)=Geo.cY a b:=fun x y h1 h2 h3 h4 h5 h6=>by
   obtain rfl:x=(Geo.edges a).length:=by omega
   obtain rfl:y=(Geo.edges b).length:=by omega
   unfold Geo.cY;rw[aC0 (t:= .S) (l:=Geo.edges a) (q:=fun s=>Geo.cO s b) h3,aC0 (t:= .S) (l:=Geo.edges b) (q:=fun s=>Geo.cO s a) h6,Bool.false_or,Bool.false_or,Bool.eq_iff_iff];simp
  clear ha hb eb el vb
  repeat' first|with_reducible apply And.intro|with_reducible intro
  all_goals repeat with_reducible cases‹_/\aW _ _›
  all_goals first|assumption|rfl|omega|(unfold ix;omega)|(unfold aG;omega)|exact bC _|exact ea1 _ ‹_› |exact ea2 _ ‹_› |exact eb1 _ ‹_› |exact eb2 _ ‹_› |exact xa1 _ ‹_› |exact xa2 _ ‹_› |exact xb1 _ ‹_› |exact xb2 _ ‹_› |exact t1 _ ‹_› ‹_› |exact t2 _ ‹_› ‹_› |exact t3 _ _ ‹_› ‹_› ‹_› ‹_› ‹_› ‹_› |exact aC ‹_› ‹_›)
def t88:Tab:=cJ [(88,c88)] aLo
theorem aKd:t88.Ok Tryz.prog:=aH aHD ⟨k88,trivial⟩
def c85:Con:=con (ac aSh (a1 (aL .V))) (fun(s,r)=>[Fit s,TriOk r,(aE s).length<=1000000,(∀e∈aE s,Geo.aO e.a 10000=true/\Geo.aO e.b 10000=true)]) (fun(s,r)=> .bool (Geo.iI s r))
theorem k85:c85.Ok Tryz.prog 85:=aU (bL aKd) (raw:=bO) (fun(s,r)=>[cnt 2 10 (aE s).length (aW fun i=>Geo.cO (aX (aE s) i) r=false)]
  ) (fun(_,_)=>⟨_,rfl⟩) fun(s,r) hp=>bM (q:=Fit s/\(0=(0:Int)/\(0:Nat)<=(aE s).length/\aW (fun i=>Geo.cO (aX (aE s) i) r=false) 0)/\
 (∀x:Nat,x<=(aE s).length/\aW (fun i=>Geo.cO (aX (aE s) i) r=false) x->((x:Int)<(aE s).length->ix (x:Int) (aE s).length/\bd 10000 (aX (aE s) x).a/\bd 10000 (aX (aE s) x).b/\r.length<=1000/\(∀i:Nat,i<(Geo.edges r).length->bd 10000 (aX (Geo.edges r) i).a/\bd 10000 (aX (Geo.edges r) i).b)/\(Geo.cO (aX (aE s) x) r=true->false=Geo.iI s r)/\
   (Geo.cO (aX (aE s) x) r=false->aG ((x:Int)+1)/\(x:Int)+1=((x+1:Nat):Int)/\x+1<=(aE s).length/\aW (fun i=>Geo.cO (aX (aE s) i) r=false) (x+1)/\(aE s).length-(x+1)<(aE s).length-x))/\
  (¬(x:Int)<(aE s).length->ix 0 r.length/\ix 1 r.length/\ix 2 r.length/\bd 1000000000 (nth r 0)/\bd 1000000000 (nth r 1)/\bd 1000000000 (nth r 2)/\Fit s/\decide (Geo.dG s (Geo.cU (nth r 0) (nth r 1) (nth r 2))=2)=Geo.iI s r))) (by kernel_rfl) (by
  change Fit s/\TriOk r/\(aE s).length<=1000000/\((∀e∈aE s,Geo.aO e.a 10000=true/\Geo.aO e.b 10000=true))at hp;obtain⟨hf,hr,hl,he⟩:=hp;have lr:=hr.len;have l3:=hr.three;have e1:∀i:Nat,(i:Int)<(aE s).length->bd 10000 (aX (aE s) i).a:=fun i h=>by rw[fA (by omega)];exact pF (he _ (List.getElem_mem _)).1
  have e2:∀i:Nat,(i:Int)<(aE s).length->bd 10000 (aX (aE s) i).b:=fun i h=>by rw[fA (by omega)];exact pF (he _ (List.getElem_mem _)).2
  have x1:∀i:Nat,i<(Geo.edges r).length->bd 10000 (aX (Geo.edges r) i).a:=fun i h=>by rw[fA h];exact pF (hr.edges _ (List.getElem_mem _)).1
  have x2:∀i:Nat,i<(Geo.edges r).length->bd 10000 (aX (Geo.edges r) i).b:=fun i h=>by rw[fA h];exact pF (hr.edges _ (List.getElem_mem _)).2
  have vb:∀i,i<r.length->bd 1000000000 (nth r i):=fun i h=>pF (hr.near _ (Geo.fK h)) (by decide)
  have v0:=vb 0 (by omega)
  have v1:=vb 1 (by omega)
  have v2:=vb 2 (by omega)
  have t1:∀i:Nat,(i:Int)<(aE s).length->Geo.cO (aX (aE s) i) r=true->false=Geo.iI s r:=fun i h h2=>by
   unfold Geo.iI;rw[Nq (t:= .S) (l:=aE s) (q:=fun e=> !Geo.cO e r) (j:=i) (by omega) (by rw[show Geo.cO (LT.S.nth (aE s) i) r=true from h2];rfl)];rfl
  have t3:∀x:Nat,¬(x:Int)<(aE s).length->x<=(aE s).length->aW (fun i=>Geo.cO (aX (aE s) i) r=false) x->decide (Geo.dG s (Geo.cU (nth r 0) (nth r 1) (nth r 2))=2)=Geo.iI s r:=fun x h1 h2 h3=>by
   obtain rfl:x=(aE s).length:=by omega
   unfold Geo.iI;rw[Fp (t:= .S) (l:=aE s) (q:=fun e=> !Geo.cO e r) (fun j hj=>by show(!Geo.cO (aX (aE s) j) r)=true;rw[show Geo.cO (aX (aE s) j) r=false from h3 j hj];rfl),Bool.true_and,Bool.eq_iff_iff];simp
  clear he hr vb
  repeat' first|with_reducible apply And.intro|with_reducible intro
  all_goals repeat with_reducible cases‹_/\aW _ _›
  all_goals first|assumption|rfl|omega|(unfold ix;omega)|(unfold aG;omega)|exact bC _|exact e1 _ ‹_› |exact e2 _ ‹_› |exact x1 _ ‹_› |exact x2 _ ‹_› |exact t1 _ ‹_› ‹_› |exact t3 _ ‹_› ‹_› ‹_› |exact aC ‹_› ‹_›)
def t85:Tab:=cJ [(85,c85)] t88
theorem aKg:t85.Ok Tryz.prog:=aH aKd ⟨k85,trivial⟩
def fgn(v:List Geo.V)(p:Geo.V):Bool:= !v.any fun u=>decide (p=u)
def aMK:Con:=con (ac (aL .V) (a1 aV)) (fun(l,_)=>[l.length<=1000000]) (fun(l,v)=> .int .i64 (fI (fun u=>decide (v=u)) l))
theorem aOL:aMK.Ok Tryz.prog 150:=aU (bL aKg) (raw:=bO) (fun(l,v)=>[cnt 2 8 l.length (aW fun j=>decide (v=nth l j)=false)]
  ) (fun(_,_)=>⟨_,rfl⟩) fun(l,v) hp=>bM (q:=(0=(0:Int)/\(0:Nat)<=l.length/\aW (fun j=>decide (v=nth l j)=false) 0)/\
 (∀x:Nat,x<=l.length/\aW (fun j=>decide (v=nth l j)=false) x->((x:Int)<l.length->ix (x:Int) l.length/\(v=(nth l x)->(x:Int)=fI (fun u=>decide (v=u)) l)/\
   (¬v=(nth l x)->aG ((x:Int)+1)/\(x:Int)+1=((x+1:Nat):Int)/\x+1<=l.length/\aW (fun j=>decide (v=nth l j)=false) (x+1)/\l.length-(x+1)<l.length-x))/\
  (¬(x:Int)<l.length-> -1=fI (fun u=>decide (v=u)) l))) (by kernel_rfl) (by
  change l.length<=1000000 at hp
  repeat' first|with_reducible apply And.intro|with_reducible intro
  all_goals repeat with_reducible cases‹_/\_›
  all_goals first|assumption|rfl|exact trivial|exact nb ‹_› |exact nb' ‹_› |omega|exact cV (by omega)|(unfold ix;omega)|(unfold aG;omega)|exact bC _|exact aC ‹_› ‹_› |(refine aC ‹_› ?_;simp_all;done)|exact Dk (t:= .V) (by omega) (decide_eq_true ‹_›) ‹_› |(obtain rfl:_=l.length:=Nat.le_antisymm ‹_› (by omega);exact yZ (t:= .V) ‹_›)|grind)
def aLw:Tab:=cJ [(150,aMK)] t85
theorem aHM:aLw.Ok Tryz.prog:=aH aKg ⟨aOL,trivial⟩
def c82:Con:=con (ac (aL .V) (a1 aV)) (fun(l,_)=>[l.length<=1000000]) (fun(l,v)=> .bool (l.any fun u=>decide (v=u))
 )
theorem k82:c82.Ok Tryz.prog 82:=aU (bL aHM) (raw:=bO) (fun(_,_)=>[]) (fun(_,_)=>⟨_,rfl⟩) fun(l,v) hp=>bM (q:=l.length<=1000000/\decide (0<=fI (fun u=>decide (v=u)) l)=List.any l (fun u=>decide (v=u))) (by kernel_rfl) (by
 change l.length<=1000000 at hp;exact⟨hp,By _ _⟩)
def t82:Tab:=cJ [(82,c82)] aLw
theorem aKk:t82.Ok Tryz.prog:=aH aHM ⟨k82,trivial⟩
def c81:Con:=con (ac aV (a1 aPR)) (fun(_,l)=>[l.length<=1000000]) (fun(v,l)=> .bool (fgn l v)
 )
theorem k81:c81.Ok Tryz.prog 81:=aU (bL aKk) (raw:=bO) (fun(_,_)=>[]) (fun(_,_)=>⟨_,rfl⟩) fun(v,l) hp=>bM (q:=l.length<=1000000/\(!List.any l (fun u=>decide (v=u)))=fgn l v) (by kernel_rfl) (by
 change l.length<=1000000 at hp;exact⟨hp,rfl⟩)
def t81:Tab:=cJ [(81,c81)] t82
theorem aKl:t81.Ok Tryz.prog:=aH aKk ⟨k81,trivial⟩
def aNg:Ar (Geo.aD×Unit):=aCl 81 (ac aPR a0)
def aNf:Ar (Geo.aD×Unit):=aCl 87 (ac aPR a0)
def aIp:Con:=con (ac (aL .V) (a1 aNg)) (fun(l,c)=>[l.length<=1000000,c.1.length<=1000000]) (fun(l,c)=> .int .i64 (fI (fgn c.1) l))
theorem aNx:aIp.Ok Tryz.prog 157:=aU (bL aKl) (raw:=bO) (fun(l,c)=>[cnt 2 8 l.length (aW fun j=>fgn c.1 (nth l j)=false)]
  ) (fun(_,_)=>⟨_,rfl⟩) fun(l,c) hp=>bM (q:=(0=(0:Int)/\(0:Nat)<=l.length/\aW (fun j=>fgn c.1 (nth l j)=false) 0)/\
 (∀x:Nat,x<=l.length/\aW (fun j=>fgn c.1 (nth l j)=false) x->((x:Int)<l.length->ix (x:Int) l.length/\c.1.length<=1000000/\(fgn c.1 (nth l x)=true->(x:Int)=fI (fgn c.1) l)/\
   (fgn c.1 (nth l x)=false->aG ((x:Int)+1)/\(x:Int)+1=((x+1:Nat):Int)/\x+1<=l.length/\aW (fun j=>fgn c.1 (nth l j)=false) (x+1)/\l.length-(x+1)<l.length-x))/\
  (¬(x:Int)<l.length-> -1=fI (fgn c.1) l))) (by kernel_rfl) (by
  change l.length<=1000000/\c.1.length<=1000000 at hp
  repeat' first|with_reducible apply And.intro|with_reducible intro
  all_goals repeat with_reducible cases‹_/\_›
  all_goals first|assumption|rfl|exact trivial|exact nb ‹_› |exact nb' ‹_› |omega|exact cV (by omega)|(unfold ix;omega)|(unfold aG;omega)|exact bC _|exact aC ‹_› ‹_› |(refine aC ‹_› ?_;simp_all;done)|exact Dk (t:= .V) (by omega) ‹_› ‹_› |(obtain rfl:_=l.length:=Nat.le_antisymm ‹_› (by omega);exact yZ (t:= .V) ‹_›)|exact aC ‹_› ‹_› |grind)
def aHF:Tab:=cJ [(157,aIp)] t81
theorem aCz:aHF.Ok Tryz.prog:=aH aKl ⟨aNx,trivial⟩
def aL6:Con:=con (ac (aL .V) (a1 aNg)) (fun(l,c)=>[l.length<=1000000,c.1.length<=1000000]) (fun(l,c)=> .bool (l.any (fgn c.1))
 )
theorem aN7:aL6.Ok Tryz.prog 84:=aU (bL aCz) (raw:=bO) (fun(_,_)=>[]) (fun(_,_)=>⟨_,rfl⟩) fun(l,c) hp=>bM (q:=l.length<=1000000/\c.fst.length<=1000000/\decide (0<=fI (fgn c.fst) l)=List.any l (fgn c.1)) (by kernel_rfl) (by
 change l.length<=1000000/\c.1.length<=1000000 at hp;exact⟨hp.1,hp.2,By _ _⟩)
def aKi:Tab:=cJ [(84,aL6)] aHF
theorem aG6:aKi.Ok Tryz.prog:=aH aCz ⟨aN7,trivial⟩
def c87:Con:=con (ac (aL .V) (a1 aPR)) (fun(o,r)=>[TriOk r,TriOk o]) (fun(o,r)=> .bool (Geo.cY r o)
 )
theorem k87:c87.Ok Tryz.prog 87:=aU (bL aG6) (raw:=bO) (fun(_,_)=>[]) (fun(_,_)=>⟨_,rfl⟩) fun(o,r) hp=>bM (q:=TriOk r/\TriOk o/\Geo.cY r o=Geo.cY r o) (by kernel_rfl) (by
 change TriOk r/\TriOk o at hp;exact⟨hp.1,hp.2,rfl⟩)
def t87:Tab:=cJ [(87,c87)] aKi
theorem aKe:t87.Ok Tryz.prog:=aH aG6 ⟨k87,trivial⟩
def aMC:Con:=con (ac (aL .R) (a1 aNf)) (fun(l,c)=>[l.length<=1000000,TriOk c.1,(∀o∈l,TriOk o)]) (fun(l,c)=> .int .i64 (fI (Geo.cY c.1) l))
theorem aOD:aMC.Ok Tryz.prog 159:=aU (bL aKe) (raw:=bO) (fun(l,c)=>[cnt 2 8 l.length (aW fun j=>Geo.cY c.1 (aA l j)=false)]
  ) (fun(_,_)=>⟨_,rfl⟩) fun(l,c) hp=>bM (q:=(0=(0:Int)/\(0:Nat)<=l.length/\aW (fun j=>Geo.cY c.1 (aA l j)=false) 0)/\
 (∀x:Nat,x<=l.length/\aW (fun j=>Geo.cY c.1 (aA l j)=false) x->((x:Int)<l.length->ix (x:Int) l.length/\TriOk c.1/\TriOk (aA l x)/\(Geo.cY c.1 (aA l x)=true->(x:Int)=fI (Geo.cY c.1) l)/\
   (Geo.cY c.1 (aA l x)=false->aG ((x:Int)+1)/\(x:Int)+1=((x+1:Nat):Int)/\x+1<=l.length/\aW (fun j=>Geo.cY c.1 (aA l j)=false) (x+1)/\l.length-(x+1)<l.length-x))/\
  (¬(x:Int)<l.length-> -1=fI (Geo.cY c.1) l))) (by kernel_rfl) (by
  change l.length<=1000000/\TriOk c.1/\((∀o∈l,TriOk o))at hp;have hm:∀x:Nat,(x:Int)<l.length->TriOk (aA l x):=fun x h=>hp.2.2 _ (Geo.fD (by omega))
  repeat' first|with_reducible apply And.intro|with_reducible intro
  all_goals repeat with_reducible cases‹_/\_›
  all_goals first|assumption|rfl|exact trivial|exact nb ‹_› |exact nb' ‹_› |omega|exact cV (by omega)|(unfold ix;omega)|(unfold aG;omega)|exact bC _|exact aC ‹_› ‹_› |(refine aC ‹_› ?_;simp_all;done)|exact hm _ ‹_› |exact Dk (t:= .R) (by omega) ‹_› ‹_› |(obtain rfl:_=l.length:=Nat.le_antisymm ‹_› (by omega);exact yZ (t:= .R) ‹_›)|grind)
def aLn:Tab:=cJ [(159,aMC)] t87
theorem aHC:aLn.Ok Tryz.prog:=aH aKe ⟨aOD,trivial⟩
def c86:Con:=con (ac (aL .R) (a1 aNf)) (fun(l,c)=>[l.length<=1000000,TriOk c.1,(∀o∈l,TriOk o)]) (fun(l,c)=> .bool (l.any (Geo.cY c.1))
 )
theorem k86:c86.Ok Tryz.prog 86:=aU (bL aHC) (raw:=bO) (fun(_,_)=>[]) (fun(_,_)=>⟨_,rfl⟩) fun(l,c) hp=>bM (q:=l.length<=1000000/\TriOk c.fst/\(∀o:Geo.aD,o∈l->TriOk o)/\decide (0<=fI (Geo.cY c.fst) l)=List.any l (Geo.cY c.1)) (by kernel_rfl) (by
 change l.length<=1000000/\TriOk c.1/\((∀o∈l,TriOk o))at hp;exact⟨hp.1,hp.2.1,hp.2.2,By _ _⟩)
def t86:Tab:=cJ [(86,c86)] aLn
theorem aKf:t86.Ok Tryz.prog:=aH aHC ⟨k86,trivial⟩
def ckA(s:Geo.Shape)(r:Geo.aD):Bool:=(decide (¬(r.length:Int)=3)||(!Geo.bW r||(r.any (fgn (vOf s))|| !Geo.iI s r)))
def ckB(l:List Geo.aD)(i:Nat):Bool:=(l.take i).any (Geo.cY (aA l i))
def ck(s:Geo.Shape)(l:List Geo.aD)(i:Nat):Prop:=ckA s (aA l i)=false/\ckB l i=false
def a2(r:Geo.aD):Int:=if Geo.bW r=true then Geo.area r else 0
def a2S(l:List Geo.aD)(k:Nat):Int:=((l.take k).map a2).sum
def eM(s:Geo.Shape)(l:List Geo.aD):Bool:=Geo.bV s&&((List.range l.length).all fun i=> !ckA s (aA l i)&& !ckB l i)&&decide (a2S l l.length=jD s)
def c28:Con:=con (ac aSh (a1 (aL .R))) (fun(s,l)=>[Fit s,l.length<=1000,(∀r∈l,r.length<=1000)]) (fun(s,l)=> .bool (eM s l))
set_option maxHeartbeats 1000000 in
theorem k28:c28.Ok Tryz.prog 28:=aU (bL aKf) (raw:=bO) (fun(s,l)=>[lp 6 20 l.length (fun k=>[aW (ck s l) k]) [] (fun k=>[(7,.int .i64 (a2S l k))]) (fun _=>[]) fun k=>[jb 10 44 (ckA s (aA l k))]]
  ) (fun(_,_)=>⟨_,rfl⟩) fun(s,l) hp=>bM (q:=Fit s/\(¬eOf s=0->false=eM s l)/\
 (¬(¬eOf s=0)->(0=(0:Int)/\0=a2S l 0/\(0:Nat)<=l.length/\aW (ck s l) 0)/\
  (∀x:Nat,x<=l.length/\aW (ck s l) x->((x:Int)<l.length->ix (x:Int) l.length/\((¬((aA l x).length:Int)=3->true=ckA s (aA l x))/\
     (¬(¬((aA l x).length:Int)=3)->(aA l x).length<=1000/\((!Geo.bW (aA l x))=true->true=ckA s (aA l x))/\
      ((!Geo.bW (aA l x))=false->(aA l x).length<=1000000/\(vOf s).length<=1000000/\(List.any (aA l x) (fgn (vOf s))=true->true=ckA s (aA l x))/\
       (List.any (aA l x) (fgn (vOf s))=false->Fit s/\TriOk (aA l x)/\(aE s).length<=1000000/\(∀e:Geo.S,e∈aE s->Geo.aO e.a 10000=true/\Geo.aO e.b 10000=true)/\(!Geo.iI s (aA l x))=ckA s (aA l x)))))/\
    (∀y:Unit,(ckA s (aA l x)=true->false=eM s l)/\
     (ckA s (aA l x)=false->(0<=(x:Int)/\(x:Int)<=l.length)/\(List.take x l).length<=1000000/\TriOk (aA l x)/\(∀o:Geo.aD,o∈List.take x l->TriOk o)/\(List.any (List.take x l) (Geo.cY (aA l x))=true->false=eM s l)/\
      (List.any (List.take x l) (Geo.cY (aA l x))=false->(aA l x).length<=1000/\aG (a2S l x+(if Geo.bW (aA l x)=true then Geo.area (aA l x)else 0))/\aG ((x:Int)+1)/\(x:Int)+1=((x+1:Nat):Int)/\a2S l x+(if Geo.bW (aA l x)=true then Geo.area (aA l x)else 0)=a2S l (x+1)/\x+1<=l.length/\aW (ck s l) (x+1)/\l.length-(x+1)<l.length-x))))/\
   (¬(x:Int)<l.length->Fit s/\decide (a2S l x=(if Geo.bV s=true then jD s else 0))=eM s l)))) (by kernel_rfl) (by
  change Fit s/\l.length<=1000/\((∀r∈l,r.length<=1000))at hp;obtain⟨hf,hl,hr⟩:=hp;have R:¬¬eOf s=0->Geo.aQ s=true:=fun h=>Ff h
  have hvP:¬¬eOf s=0->Geo.bV s=true:=fun h=>by rw[Geo.lW];exact R h
  have V:¬¬eOf s=0->Geo.VS s:=fun h=>vsR (R h)
  have hv:=Bt s;have hvl:(vOf s).length<=1000000:=by omega
  have he:¬¬eOf s=0->(aE s).length<=1000000:=fun h=>by have:=rO (V h);omega
  have hw:¬¬eOf s=0->∀e∈aE s,Geo.aO e.a 10000=true/\Geo.aO e.b 10000=true:=fun h=>Gn (V h)
  have hr:∀x:Nat,(x:Int)<l.length->(aA l x).length<=1000:=fun x h=>hr _ (Geo.fD (by omega))
  have hr6:∀x:Nat,(x:Int)<l.length->(aA l x).length<=1000000:=fun x h=>by have:=hr x h;omega
  have c0:¬eOf s=0->false=eM s l:=fun h=>by
   unfold eM;rw[Geo.lW];cases e:Geo.aQ s with
   |false=>rfl
   |true=>exact absurd (by unfold eOf;rw[e];rfl) h
  have a1:∀x:Nat,¬((aA l x).length:Int)=3->true=ckA s (aA l x):=fun x h=>by unfold ckA;rw[decide_eq_true h];rfl
  have a2':∀x:Nat,(!Geo.bW (aA l x))=true->true=ckA s (aA l x):=fun x h=>by unfold ckA;rw[h];simp
  have a3:∀x:Nat,List.any (aA l x) (fgn (vOf s))=true->true=ckA s (aA l x):=fun x h=>by unfold ckA;rw[h];simp
  have a4:∀x:Nat,¬¬((aA l x).length:Int)=3->(!Geo.bW (aA l x))=false->List.any (aA l x) (fgn (vOf s))=false->(!Geo.iI s (aA l x))=ckA s (aA l x):=fun x h1 h2 h3=>by
   unfold ckA;rw[decide_eq_false h1,h2,h3];rfl
  have kV:∀r:Geo.aD,ckA s r=false->Geo.bW r=true:=fun r h=>by
   unfold ckA at h;cases e:Geo.bW r with
   |true=>rfl
   |false=>rw[e]at h;simp at h
  have tO:∀x:Nat,(!Geo.bW (aA l x))=false->TriOk (aA l x):=fun x h=>Qs (nb h)
  have tO2:∀x:Nat,ckA s (aA l x)=false->TriOk (aA l x):=fun x h=>Qs (kV _ h)
  have tO3:∀x:Nat,x<=l.length->aW (ck s l) x->∀o∈List.take x l,TriOk o:=fun x hx h o ho=>by
   obtain⟨j,hj,rfl⟩:=List.getElem_of_mem ho;rw[List.length_take]at hj;rw[List.getElem_take,<-gY (by omega)]
   exact tO2 j (h j (by omega)).1
  have tl:∀x:Nat,(List.take x l).length<=1000000:=fun x=>by rw[List.length_take];omega
  have no:∀x:Nat,(x:Int)<l.length->(ckA s (aA l x)=true\/List.any (List.take x l) (Geo.cY (aA l x))=true)->false=eM s l:=fun x h h2=>by
   unfold eM;rw[show((List.range l.length).all fun i=> !ckA s (aA l i)&& !ckB l i)=false from List.all_eq_false.2 ⟨x,List.mem_range.2 (by omega),by
    rcases h2 with h2|h2
    ·rw[h2];simp
    ·rw[show ckB l x=true from h2];simp⟩]
   simp
  have sS:∀x:Nat,(x:Int)<l.length->a2S l x+a2 (aA l x)=a2S l (x+1):=fun x h=>by
   unfold a2S;rw[List.take_succ_eq_append_getElem (by omega),List.map_append,List.sum_append,gY (by omega)];simp
  have b1:∀r:Geo.aD,-8000000000<=a2 r/\a2 r<=8000000000:=fun r=>by
   unfold a2;split
   ·exact xL ‹_›
   ·omega
  have bS:∀x:Nat,x<=l.length-> -(8000000000*(x:Int))<=a2S l x/\a2S l x<=8000000000*(x:Int):=fun x=>by
   induction x with
   |zero=>intro _;unfold a2S;simp
   |succ x ih=>
    intro h;have h1:=ih (by omega)
    have h2:=b1 (aA l x);rw[<-sS x (by omega)];omega
  have wS:∀x:Nat,(x:Int)<l.length->aG (a2S l x+a2 (aA l x)):=fun x h=>by
   have h1:=bS x (by omega)
   have h2:=b1 (aA l x);exact dY (by omega)
  have yE:¬¬eOf s=0->∀x:Nat,¬(x:Int)<l.length->x<=l.length->aW (ck s l) x->decide (a2S l x=(if Geo.bV s=true then jD s else 0))=eM s l:=fun h x h1 h2 h3=>by
   obtain rfl:x=l.length:=by omega
   unfold eM;rw[if_pos (hvP h),hvP h,show((List.range l.length).all fun i=> !ckA s (aA l i)&& !ckB l i)=true from List.all_eq_true.2 fun i hi=>by
    obtain⟨g1,g2⟩:=h3 i (List.mem_range.1 hi);rw[g1,g2];rfl]
   simp
  clear V kV b1 bS hvP R
  repeat' first|with_reducible apply And.intro|with_reducible intro
  all_goals repeat with_reducible cases‹_/\aW _ _›
  all_goals first|assumption|with_reducible rfl|(with_reducible exact c0 ‹_›)|(with_reducible exact he ‹_›)|(with_reducible exact hw ‹_› _ ‹_›)|exact(hw ‹_› _ ‹_›).1|exact(hw ‹_› _ ‹_›).2|(with_reducible exact hr _ ‹_›)|(with_reducible exact hr6 _ ‹_›)|(with_reducible exact a1 _ ‹_›)|(with_reducible exact a2' _ ‹_›)|(with_reducible exact a3 _ ‹_›)|(with_reducible exact a4 _ ‹_› ‹_› ‹_›)|(with_reducible exact tO _ ‹_›)|(with_reducible exact tO2 _ ‹_›)|(with_reducible exact tO3 _ ‹_› ‹_› _ ‹_›)|(with_reducible exact tl _)|(with_reducible exact no _ ‹_› (.inl ‹_›))|(with_reducible exact no _ ‹_› (.inr ‹_›))|exact sS _ ‹_› |exact wS _ ‹_› |(with_reducible exact yE ‹_› _ ‹_› ‹_› ‹_›)|exact aC ‹_› ⟨‹_›,‹_›⟩|exact bC _|omega|(unfold ix;omega)|(unfold aG;omega)|rfl)
def t28:Tab:=cJ [(28,c28)] t86
theorem aNX:t28.Ok Tryz.prog:=aH aKf ⟨k28,trivial⟩
end
end Go.Proofs.YtdaeofhdgabhjaaGreat
namespace Go.Proofs.YtdaeofhdgabhjaaGreat
open Go.RowKit
def frS(s:Nat)(cells:List PV)(x' y:AV):Prop:=x'= .any\/x'=y\/∃n,y= .own s 0 n/\x'= .p (.sl n cells)
def frL(s:Nat)(cells:List PV):List AV->List AV->Prop
 |[],[] =>True
 |x::l,y::r=>frS s cells x y/\frL s cells l r
 |_,_=>False
def frO(s:Nat)(cells:List PV)(L:Sto):Sto->Prop
 |[] =>True
 |(_,none)::r=>frO s cells L r
 |(k,some ob')::r=>(k≠s/\∃ob,look L k=some ob/\ob'.ty=ob.ty/\ob'.esz=ob.esz/\frL s cells ob'.cells ob.cells)/\frO s cells L r
theorem So{s:Nat}{cells:List PV}{L:Sto}:∀{L':Sto},frO s cells L L'->∀k ob',look L' k=some ob'->k≠s/\∃ob,look L k=some ob/\ob'.ty=ob.ty/\ob'.esz=ob.esz/\frL s cells ob'.cells ob.cells
 |[],_,k,ob',h=>by simp[look]at h
 |(j,x)::r,hO,k,ob',h=>by
  unfold look at h;split at h
  ·rename_i e;subst e;subst h;unfold frO at hO;exact hO.1
  ·refine So (L':=r) ?_ k ob' h;cases x with
   |none=>unfold frO at hO;exact hO
   |some ob=>unfold frO at hO;exact hO.2
theorem zL{s:Nat}{cells:List PV}:∀{l r:List AV},frL s cells l r->l.length=r.length
 |[],[],_=>rfl
 |x::l,y::r,h=>by unfold frL at h;simp[zL h.2]
 |[],_::_,h=>by unfold frL at h;exact h.elim
 |_::_,[],h=>by unfold frL at h;exact h.elim
theorem Ol{s:Nat}{cells:List PV}:∀{l r:List AV},frL s cells l r->∀(i:Nat) x,l[i]? =some x->∃y,r[i]? =some y/\frS s cells x y
 |[],[],_,i,x,h=>by simp at h
 |x::l,y::r,h,0,z,hz=>by unfold frL at h;simp at hz;subst hz;exact⟨y,rfl,h.1⟩
 |x::l,y::r,h,i+1,z,hz=>by unfold frL at h;exact Ol h.2 i z (by simpa using hz)
 |[],_::_,h,_,_,_=>by unfold frL at h;exact h.elim
 |_::_,[],h,_,_,_=>by unfold frL at h;exact h.elim
theorem Th{F F':List AV}{L L':Sto}{N:Nat}{ty esz:Nat}(s:Nat)(cells:List PV)(hs:look L s=some ⟨ty,esz,cells.map .p⟩)(_hz:esz≠0)(hF:frL s cells F' F)(hL:frO s cells L L'):rZ F L N F' L' N:=by
 intro C0 B wI a w ⟨⟨ρ,s1,s2,s3⟩,s4,s5,s6,s7⟩;have hl:=So hL;have hsn:look L' s=none:=by
  cases h:look L' s with
  |none=>rfl
  |some ob=>exact absurd rfl (hl s ob h).1
 have hdead:∀k,look L k=none->look L' k=none:=by
  intro k hk;cases h:look L' k with
  |none=>rfl
  |some ob=>obtain⟨_,ob2,h2,_⟩:=hl k ob h;rw[hk]at h2;cases h2
 have hmono:∀b o v,bD C0 B w ρ (look L) b o v->bD C0 B w ρ (look L') b o v:=fun b o v ⟨e1,e2,e3⟩=>⟨e1,fun k c h=>hdead k (e2 k c h),e3⟩
 have hone:∀x' y v,frS s cells x' y->aP ρ (bD C0 B w ρ (look L)) y v->aP ρ (bD C0 B w ρ (look L')) x' v:=by
  rintro x' y v (rfl|rfl|⟨n,rfl,rfl⟩) hv
  ·unfold aP;trivial
  ·exact aP.mono (fun _ _ h=>h) hmono _ v hv
  ·unfold aP at hv|-;obtain⟨q,c,hρ,hcase⟩:=hv;obtain⟨q2,c2,hρ2,hob⟩:=s1.ob s _ hs;rw[hρ]at hρ2;cases hρ2;unfold bI;rcases hcase with⟨h1,h4,h5,_⟩|⟨b,o',c',h1,h4,h5,h6,h7⟩
   ·subst h5;rcases hob with⟨_,_,h8,_⟩|⟨b,arr,h8,_⟩
    ·exact⟨none,0,h4,Nat.le_refl _,fun _=>⟨rfl,by simpa using h8⟩,fun ad e=>by cases e⟩
    ·rw[h1]at h8;cases h8
   ·obtain⟨rfl,rfl⟩:=h7 rfl;rcases hob with⟨h8,_⟩|⟨b2,arr,h8,h9,h10⟩
    ·rw[h1]at h8;cases h8
    ·rw[h1]at h8;cases h8;refine⟨_,c',h4,h5,(fun e=>by cases e),fun ad e=> ?_⟩
     cases e;refine⟨fun _=>rfl,eZ.of _ _ _ fun i x hi=> ?_⟩
     obtain⟨u,k1,k2,k3⟩:=h10.cells i (.p x) (by show(cells.map AV.p)[i]? =_;rw[List.getElem?_map,hi];rfl)
     unfold aP at k3;refine⟨u,⟨by rw[Nat.zero_add,h10.cell];exact k1,fun k c2 hk=> ?_,.inl h9⟩,k2,bI.mono hmono x u k3⟩
     cases h:look L' k with
     |none=>rfl
     |some ob=>
      obtain⟨hne,ob2,h2,_⟩:=hl k ob h;exact absurd (s1.inj k s ob2 _ b c2 c' h2 hs hk (by rw[hρ,h1])) hne
 refine⟨⟨ρ,⟨?_,?_⟩,s2,?_⟩,s4,s5,?_,s7⟩
 ·intro k ob' hk;obtain⟨hne,ob,h2,h3,h4,h5⟩:=hl k ob' hk;obtain⟨q,c,hρ,hcase⟩:=s1.ob k ob h2;refine⟨q,c,hρ,?_⟩;have hlen:=zL h5;rcases hcase with⟨g1,g2,g3,g4⟩|⟨b,arr,g1,g2,g3⟩
  ·exact .inl ⟨g1,by rw[h4];exact g2,by rw[g3]at hlen;exact List.length_eq_zero_iff.1 hlen,g4⟩
  ·refine .inr ⟨b,arr,g1,g2,⟨by rw[h3];exact g3.blk,fun h=>by rw[hlen];exact g3.box (by rw[<-h4];exact h),fun h=>by rw[hlen,h4];exact g3.row (by rw[<-h4];exact h),fun i x hi=> ?_⟩⟩
   obtain⟨y,k1,k2⟩:=Ol h5 i x hi;obtain⟨v,m1,m2,m3⟩:=g3.cells i y k1;exact⟨v,m1,m2,hone x y v k2 m3⟩
 ·intro k k' o o' b c c' h1 h2 h3 h4;obtain⟨_,ob,g1,_⟩:=hl k o h1;obtain⟨_,ob',g2,_⟩:=hl k' o' h2;exact s1.inj k k' ob ob' b c c' g1 g2 h3 h4
 ·intro t;rcases Nat.lt_or_ge t F'.length with h|h
  ·obtain⟨y,k1,k2⟩:=Ol hF t F'[t] (List.getElem?_eq_getElem h);have e1:F'.getD t .any=F'[t] :=by rw[List.getD_eq_getElem?_getD,List.getElem?_eq_getElem h];rfl
   have e2:F.getD t .any=y:=by rw[List.getD_eq_getElem?_getD,k1];rfl
   have h3:=s3 t;rw[e2]at h3;rw[e1];exact hone _ _ _ k2 h3
  ·rw[List.getD_eq_getElem?_getD,List.getElem?_eq_none h];show aP _ _ .any _;unfold aP;trivial
 ·rw[s6,zL hF]
end Go.Proofs.YtdaeofhdgabhjaaGreat
namespace Go.Proofs.YtdaeofhdgabhjaaGreat
open Go.RowKit
def sq:Geo.Shape:=⟨[⟨2,2⟩,⟨0,2⟩,⟨0,0⟩,⟨2,0⟩],[]⟩
def sqD:List Geo.S:=[⟨⟨0,0⟩,⟨2,2⟩⟩]
def sqT:List Geo.aD:=[[⟨0,0⟩,⟨2,0⟩,⟨2,2⟩],[⟨0,0⟩,⟨2,2⟩,⟨0,2⟩]]
theorem Vh:Fit sq:=by unfold Fit;decide
theorem aLY:eOf sq=0:=by kernel_rfl
theorem aI0:dOf sq=sqD:=by kernel_rfl
theorem aIZ:tOf sq=sqT:=by kernel_rfl
theorem aNp:eM sq sqT=true:=by kernel_rfl
theorem aCU(l:List Geo.aD):(SV.lst .R l).av= .p (kM l):=by show AV.p (.sl _ (LT.R.enc _))=_;rw[Dl];rfl
theorem aN1:Sat Tryz.prog false 19 [gR sq] (.tup [Kh sqD,.int .i64 0]):=
 vO (k19 [aSh.enc sq] sq rfl ((fE (l:=c19.pre sq)).1 Vh)) (by simp only[avs,Dm];rfl) (by show(SV.tup [.lst .S (dOf sq),.int .i64 (eOf sq)]).av=_;rw[aI0,aLY];rfl)
theorem aN0:Sat Tryz.prog false 21 [gR sq] (.tup [kM sqT,.int .i64 0]):=
 vO (k21 [aSh.enc sq] sq rfl ((fE (l:=c21.pre sq)).1 Vh)) (by simp only[avs,Dm];rfl) (by show(SV.tup [.lst .R (tOf sq),.int .i64 (eOf sq)]).av=_;rw[aIZ,aLY];simp only[SV.av,avs];rfl)
theorem aN2:Sat Tryz.prog false 28 [gR sq,kM sqT] (.bool true):=
 vO (k28 [aSh.enc sq,.lst .R sqT] (sq,sqT) rfl ((fE (l:=c28.pre (sq,sqT))).1 ⟨Vh,show sqT.length<=1000 by decide,show∀r∈sqT,r.length<=1000 by decide⟩)) (by simp only[avs,Dm,aCU];rfl) (by show(SV.bool (eM sq sqT)).av=_;rw[aNp];rfl)
theorem aNo:Sat Tryz.prog false 24 [Kh sqD,Kh sqD] (.bool true):=
 vO (k24 [.lst .S sqD,.lst .S sqD] (sqD,sqD) rfl ((fE (l:=c24.pre (sqD,sqD))).1 (show sqD.length<=1000000 by decide))) rfl (by show(SV.bool (sqD==sqD)).av=_;rw[beq_self_eq_true];rfl)
theorem aNn:Sat Tryz.prog false 25 [kM sqT,kM sqT] (.bool true):=
 vO (k25 [.lst .R sqT,.lst .R sqT] (sqT,sqT) rfl ((fE (l:=c25.pre (sqT,sqT))).1 ⟨show sqT.length<=1000000 by decide,show∀r∈sqT,r.length<=100000 by decide⟩)) (by simp only[avs,aCU];rfl) (by show(SV.bool (sqT==sqT)).av=_;rw[beq_self_eq_true];rfl)
set_option maxRecDepth 100000 in
set_option maxHeartbeats 4000000 in
theorem aBf:Sat Tryz.prog false 15 [] (.bool true):=by
 refine zE (by kernel_rfl) Tryz.func15 rfl ?_
 rw[Tryz.ntmps15,Tryz.results15];show awp _ _ (Un _ _ _) (un 53 []) [] 0;simp only[un];refine pl 1 (by kernel_rfl) rfl fun K0 hK0=> ?_
 refine op (by simp only[go_sem,simprocAttr];and_intros<;>first|rfl|trivial) (by simp only[PS];rfl) ?_
 refine dN (hK0 _ _ _ ?_);refine Bn (fun Fz Lz Nz=>Fz=(.p (.bool false):: .ptr 7 0:: .undef:: .undef:: .undef:: .undef:: .p (.agg [.int .i64 2,.int .i64 2]):: .p (.agg [.int .i64 0,.int .i64 2]):: .p (.agg [.int .i64 0,.int .i64 0]):: .p (.agg [.int .i64 2,.int .i64 0]):: .p (.sl [(⟨2,2⟩:Geo.V),(⟨0,2⟩:Geo.V),(⟨0,0⟩:Geo.V),(⟨2,0⟩:Geo.V)].length (jB [(⟨2,2⟩:Geo.V),(⟨0,2⟩:Geo.V),(⟨0,0⟩:Geo.V),(⟨2,0⟩:Geo.V)])):: .any:: .undef:: .undef:: .undef:: .undef:: .undef:: .undef:: .undef:: .undef:: .undef:: .undef:: .undef:: .undef:: .undef:: .undef:: .undef:: .undef:: .undef:: .undef:: .undef:: .undef:: .undef:: .undef:: .undef:: .undef:: .undef:: .undef:: .undef:: .undef:: .undef:: .undef:: .undef:: .undef:: .undef:: .undef:: .undef:: .undef:: .undef:: .undef:: .undef:: .undef:: .undef::[])/\Lz=[(7,some ⟨26,0,[.p (.sl [(⟨2,2⟩:Geo.V),(⟨0,2⟩:Geo.V),(⟨0,0⟩:Geo.V),(⟨2,0⟩:Geo.V)].length (jB [(⟨2,2⟩:Geo.V),(⟨0,2⟩:Geo.V),(⟨0,0⟩:Geo.V),(⟨2,0⟩:Geo.V)])),.nil]⟩)]/\Nz=9) ?_ ?_
 {
 refine ple 9 (by kernel_rfl) rfl fun K1 hK1=> ?_
 iterate 4 refine op (by simp only[go_sem,simprocAttr,PS];and_intros<;>first|rfl|trivial) (by simp only[PS];rfl) ?_
 refine st 5 5 rfl rfl rfl (by simp only[AOp,eH,GD,uJ,zQ,oO,gS,lO,LC,lR,kP,Nat.reduceMul,Nat.reduceLeDiff,List.cons_ne_nil,↓reduceIte,Nat.reduceAdd,LA,LB,T23,T44];and_intros<;>first|rfl|trivial) (by simp only[PS];rfl) (by simp only[GS];rfl) ?_
 refine op (by simp only[go_sem,simprocAttr,PS];and_intros<;>first|rfl|trivial) (by simp only[PS];rfl) ?_
 refine st 7 7 rfl rfl rfl (by simp only[AOp,Np,LA,T26];and_intros<;>first|rfl|trivial) (by simp only[PS];rfl) (by simp only[GS];rfl) ?_
 refine st 8 8 rfl rfl rfl (by simp only[AOp,eH,GD,yU,gS,lO,LC,LB,look,LA,↓reduceIte,Nat.reduceAdd,T26];and_intros<;>first|rfl|trivial) (by simp only[PS];rfl) (by simp only[GS];rfl) ?_
 refine dN (hK1 _ _ _ ?_);try simp only
 refine⟨_,_,_,?w1,⟨rfl,rfl,rfl⟩⟩;refine Th (ty:=44) (esz:=2) 5 (jB [(⟨2,2⟩:Geo.V),(⟨0,2⟩:Geo.V),(⟨0,0⟩:Geo.V),(⟨2,0⟩:Geo.V)]) (by simp only[look,Nat.reduceEqDiff,↓reduceIte];try rfl) (by decide) ?_ ?_
 ·simp only[frL,frS,reduceCtorEq,RL] <;>(and_intros<;>first|rfl|trivial|decide|exact .inl rfl|exact .inr (.inl rfl)|exact .inr (.inr ⟨_,rfl,rfl⟩)|exact .inr ⟨_,rfl,rfl⟩)
 ·simp only[frL,frO,frS,look,Nat.reduceEqDiff,reduceCtorEq,↓reduceIte,RL] <;>(and_intros<;>first|rfl|trivial|decide|exact .inl rfl|exact .inr (.inl rfl)|exact .inr (.inr ⟨_,rfl,rfl⟩)|exact .inr ⟨_,rfl,rfl⟩)
 }
 rintro _ _ _ ⟨hFz,rfl,rfl⟩
 (try simp only[an]at hFz);subst hFz
 have c2:Sat Tryz.prog _ 19 [.agg [.sl [(⟨2,2⟩:Geo.V),(⟨0,2⟩:Geo.V),(⟨0,0⟩:Geo.V),(⟨2,0⟩:Geo.V)].length (jB [(⟨2,2⟩:Geo.V),(⟨0,2⟩:Geo.V),(⟨0,0⟩:Geo.V),(⟨2,0⟩:Geo.V)]),.sl 0 []]] (.tup [.sl sqD.length (Ur sqD),.int .i64 0]):=aN1;refine pl 16 (by kernel_rfl) rfl fun K2 hK2=> ?_
 refine op (by simp only[go_sem,simprocAttr];and_intros<;>first|rfl|trivial) (by simp only[PS];rfl) ?_
 refine st 10 2 rfl rfl rfl (by simp only[AOp,eH,GD,rK,LB];exact .inl (wM (A:=[.agg [.sl [(⟨2,2⟩:Geo.V),(⟨0,2⟩:Geo.V),(⟨0,0⟩:Geo.V),(⟨2,0⟩:Geo.V)].length (jB [(⟨2,2⟩:Geo.V),(⟨0,2⟩:Geo.V),(⟨0,0⟩:Geo.V),(⟨2,0⟩:Geo.V)]),.sl 0 []]]) c2 (by simp only[nS,jA,Option.map_some];try rfl) (by simp only[dP,iV,List.append_nil];rfl) ⟨rfl,rfl,rfl⟩)) (by simp only[PS];rfl) (by simp only[LB];rfl) ?_
 iterate 5 refine op (by simp only[go_sem,simprocAttr];and_intros<;>first|rfl|trivial) (by simp only[PS];rfl) ?_
 refine dN (hK2 _ _ _ ?_);have c3:Sat Tryz.prog _ 21 [.agg [.sl [(⟨2,2⟩:Geo.V),(⟨0,2⟩:Geo.V),(⟨0,0⟩:Geo.V),(⟨2,0⟩:Geo.V)].length (jB [(⟨2,2⟩:Geo.V),(⟨0,2⟩:Geo.V),(⟨0,0⟩:Geo.V),(⟨2,0⟩:Geo.V)]),.sl 0 []]] (.tup [.sl sqT.length (List.map fN sqT),.int .i64 0]):=aN0;refine pl 23 (by kernel_rfl) rfl fun K3 hK3=> ?_
 refine op (by simp only[go_sem,simprocAttr];and_intros<;>first|rfl|trivial) (by simp only[PS];rfl) ?_
 refine st 17 2 rfl rfl rfl (by simp only[AOp,eH,GD,rK,LB];exact .inl (wM (A:=[.agg [.sl [(⟨2,2⟩:Geo.V),(⟨0,2⟩:Geo.V),(⟨0,0⟩:Geo.V),(⟨2,0⟩:Geo.V)].length (jB [(⟨2,2⟩:Geo.V),(⟨0,2⟩:Geo.V),(⟨0,0⟩:Geo.V),(⟨2,0⟩:Geo.V)]),.sl 0 []]]) c3 (by simp only[nS,jA,Option.map_some];try rfl) (by simp only[dP,iV,List.append_nil];rfl) ⟨rfl,rfl,rfl⟩)) (by simp only[PS];rfl) (by simp only[LB];rfl) ?_
 iterate 5 refine op (by simp only[go_sem,simprocAttr];and_intros<;>first|rfl|trivial) (by simp only[PS];rfl) ?_
 refine dN (hK3 _ _ _ ?_);have v4:((0:Int)==0)=true:=by decide
 have c6:Sat Tryz.prog _ 24 [.sl sqD.length (Ur sqD),.sl 1 [.int .i64 0,.int .i64 0,.int .i64 2,.int .i64 2]] (.bool true):=aNo;have c7:Sat Tryz.prog _ 25 [.sl sqT.length (List.map fN sqT),.sl 2 [.sl 3 [.int .i64 0,.int .i64 0,.int .i64 2,.int .i64 0,.int .i64 2,.int .i64 2],.sl 3 [.int .i64 0,.int .i64 0,.int .i64 2,.int .i64 2,.int .i64 0,.int .i64 2]]] (.bool true):=aNn;have c8:Sat Tryz.prog _ 28 [.agg [.sl [(⟨2,2⟩:Geo.V),(⟨0,2⟩:Geo.V),(⟨0,0⟩:Geo.V),(⟨2,0⟩:Geo.V)].length (jB [(⟨2,2⟩:Geo.V),(⟨0,2⟩:Geo.V),(⟨0,0⟩:Geo.V),(⟨2,0⟩:Geo.V)]),.sl 0 []],.sl sqT.length (List.map fN sqT)] (.bool true):=aN2;refine pl 55 (by kernel_rfl) rfl fun K4 hK4=> ?_
 iterate 10 refine op (by simp only[go_sem,simprocAttr,PS,v4,GG];and_intros<;>first|rfl|trivial) (by simp only[PS];rfl) ?_
 refine stg 33 11 rfl (by simp only[gdA,GG] <;>rfl) rfl rfl (by simp only[AOp,eH,GD,uJ,zQ,oO,gS,lO,LC,lR,kP,Nat.reduceLeDiff,List.cons_ne_nil,↓reduceIte,Nat.reduceAdd,LA,LB,T32,T46];and_intros<;>first|rfl|trivial) (by simp only[PS];rfl) (by simp only[GS];rfl) ?_
 refine spg 12 rfl (by simp only[gdA,GG] <;>rfl) rfl (by simp only[AOp,eH,GD,rK,LB];exact .inl (nQ (A:=[.sl sqD.length (Ur sqD),.sl 1 [.int .i64 0,.int .i64 0,.int .i64 2,.int .i64 2]]) (c6.fresh rfl) (by simp only[nS,jA,look,Option.bind_some,Option.map_some,List.drop_zero,List.take_succ_cons,List.take_zero,Nat.reduceMul,↓reduceIte];try rfl) (by simp only[dP,iV,look,List.append_nil,List.nil_append,↓reduceIte];rfl) ⟨rfl,rfl,rfl⟩)) (by simp only[PS];rfl) ?_
 iterate 6 refine op (by simp only[go_sem,simprocAttr,PS,GG];and_intros<;>first|rfl|trivial) (by simp only[PS];rfl) ?_
 refine stg 41 19 rfl (by simp only[gdA,GG] <;>rfl) rfl rfl (by simp only[AOp,eH,GD,uJ,zQ,oO,gS,lO,LC,lR,kP,Nat.reduceMul,Nat.reduceLeDiff,List.cons_ne_nil,↓reduceIte,Nat.reduceAdd,LA,LB,T23,T44];and_intros<;>first|rfl|trivial) (by simp only[PS];rfl) (by simp only[GS];rfl) ?_
 iterate 3 refine op (by simp only[go_sem,simprocAttr,GG,PS];and_intros<;>first|rfl|trivial) (by simp only[PS];rfl) ?_
 refine stg 45 23 rfl (by simp only[gdA,GG] <;>rfl) rfl rfl (by simp only[AOp,eH,GD,uJ,zQ,oO,gS,lO,LC,lR,kP,Nat.reduceMul,Nat.reduceLeDiff,List.cons_ne_nil,↓reduceIte,Nat.reduceAdd,LA,LB,T23,T44];and_intros<;>first|rfl|trivial) (by simp only[PS];rfl) (by simp only[GS];rfl) ?_
 refine stg 46 24 rfl (by simp only[gdA,GG] <;>rfl) rfl rfl (by simp only[AOp,eH,GD,uJ,zQ,oO,gS,lO,LC,lR,kP,Nat.reduceLeDiff,List.cons_ne_nil,↓reduceIte,Nat.reduceAdd,LA,LB,T23,T24];and_intros<;>first|rfl|trivial) (by simp only[PS];rfl) (by simp only[GS];rfl) ?_
 refine spg 25 rfl (by simp only[gdA,GG] <;>rfl) rfl (by simp only[AOp,eH,GD,rK,LB];exact .inl (nQ (A:=[.sl sqT.length (List.map fN sqT),.sl 2 [.sl 3 [.int .i64 0,.int .i64 0,.int .i64 2,.int .i64 0,.int .i64 2,.int .i64 2],.sl 3 [.int .i64 0,.int .i64 0,.int .i64 2,.int .i64 2,.int .i64 0,.int .i64 2]]]) (c7.fresh rfl) (by simp only[nS,jA,look,Nat.reduceEqDiff,Option.bind_some,Option.map_some,List.drop_zero,List.take_succ_cons,List.take_zero,Nat.reduceMul,↓reduceIte];try rfl) (by simp only[dP,iV,look,Nat.reduceEqDiff,List.append_nil,List.cons_append,List.nil_append,↓reduceIte];rfl) ⟨rfl,rfl,rfl⟩)) (by simp only[PS];rfl) ?_
 iterate 4 refine op (by simp only[go_sem,simprocAttr,GG];and_intros<;>first|rfl|trivial) (by simp only[PS];rfl) ?_
 refine spg 30 rfl (by simp only[gdA,GG] <;>rfl) rfl (by simp only[AOp,eH,GD,rK,LB];exact .inl (nQ (A:=[.agg [.sl [(⟨2,2⟩:Geo.V),(⟨0,2⟩:Geo.V),(⟨0,0⟩:Geo.V),(⟨2,0⟩:Geo.V)].length (jB [(⟨2,2⟩:Geo.V),(⟨0,2⟩:Geo.V),(⟨0,0⟩:Geo.V),(⟨2,0⟩:Geo.V)]),.sl 0 []],.sl sqT.length (List.map fN sqT)]) (c8.fresh rfl) (by simp only[nS,jA,Option.map_some];try rfl) (by simp only[dP,iV,List.append_nil];rfl) ⟨rfl,rfl,rfl⟩)) (by simp only[PS];rfl) ?_
 iterate 2 refine op (by simp only[go_sem,simprocAttr];and_intros<;>first|rfl|trivial) (by simp only[PS];rfl) ?_
 refine dN (hK4 _ _ _ ?_);refine aAq ?_;try simp only[IF,reduceCtorEq,Nat.reduceEqDiff]
 try rw[hret]
 simp only[Un,yD,GD];first|exact⟨_,rfl,rfl⟩|(refine⟨_,rfl,?_⟩;rfl)
noncomputable def c15:Con:=aAx false a0 (fun _=>[]) (fun _=> .bool true)
theorem k15:c15.Ok Tryz.prog 15:=Ai (fun _=>[]) (fun _=> .bool true) (fun _=>rfl) (fun _=>rfl) fun _ _=>aBf
noncomputable def t15:Tab:=cJ [(15,c15)] t28
theorem aLm:t15.Ok Tryz.prog:=aH aNX ⟨k15,trivial⟩
end Go.Proofs.YtdaeofhdgabhjaaGreat
namespace Go.Proofs.YtdaeofhdgabhjaaGreat
open Go.RowKit
def aPf(l:List Geo.aD):Prop:=l.length<=1000000000000000000/\∀r∈l,r.length<=1000000000000000000
end Go.Proofs.YtdaeofhdgabhjaaGreat
namespace Go.Proofs.YtdaeofhdgabhjaaGreat
open Go.ChangeShapes Go.WideShapes Go.ChangeAt Go.RowKit Go.Joins Go.Deep
theorem Tryz.own:ownKnob Tryz.prog.godebug=none:=by kernel_rfl
theorem Tryz.laidOut:laidOutB Tryz.prog=true:=by kernel_rfl
theorem aGa:Tryz.prog.cellsOf 26=2:=by kernel_rfl
theorem aF9:Tryz.prog.cellsOf 44=2:=by kernel_rfl
theorem aGb:Tryz.prog.cellsOf 23=1:=by kernel_rfl
theorem aGc:Tryz.prog.bytesOf 44=16:=by kernel_rfl
theorem aGd:Tryz.prog.bytesOf 23=24:=by kernel_rfl
theorem Ld{C:cF}:∀(l:List Geo.V) (b o:Nat),(∀i (h:i<l.length),C b (o+i*2) (.int .i64 l[i].x)/\C b (o+i*2+1) (.int .i64 l[i].y))->eZ C (jB l) b o
 |[],b,o,_=>by show eZ C [] b o;unfold eZ;trivial
 |v::l,b,o,h=>by
  show eZ C (.int .i64 v.x:: .int .i64 v.y::jB l) b o;have h0:=h 0 (by simp)
  unfold eZ;refine⟨⟨_,by simpa using h0.1,rfl,by unfold bI;rfl⟩,?_⟩
  unfold eZ;refine⟨⟨_,by simpa using h0.2,rfl,by unfold bI;rfl⟩,?_⟩
  refine Ld l b (o+1+1) fun i hi=> ?_
  have:=h (i+1) (by simpa using hi)
  rw[show o+1+1+i*2=o+(i+1)*2 by omega]
  exact this
theorem Ie{C:cF}:∀(l:List Geo.aD) (b o:Nat),(∀i (h:i<l.length),∃u,C b (o+i) u/\u.oneCell'=true/\bI C (fN l[i]) u)->eZ C (l.map fN) b o
 |[],b,o,_=>by simp only[List.map_nil];unfold eZ;trivial
 |r::l,b,o,h=>by
  simp only[List.map_cons];unfold eZ;refine⟨h 0 (by simp),Ie l b (o+1) fun i hi=> ?_⟩
  have:=h (i+1) (by simpa using hi)
  rw[show o+1+i=o+(i+1) by omega]
  exact this
section
variable {H:Type} {enc:TypeId×Value->H} {w:World} {base:Nat} {spare:Nat->Bool} {held:Bool}
theorem Lk{fuel:Nat}{v:Value}{y:DataW H×List MemPlace}(h:DataW.trod enc Tryz.prog w base spare held fuel 23 [v] =some y):
  ∃r:Geo.aD,bI (vN w) (fN r) v/\v.oneCell'=true/\∀B,(∀n∈DataW.weights Tryz.prog 23 y.1,n<=B)->r.length*16<=B:=by
 rcases open_slice_pairs Tryz.underlying23 Tryz.underlying44 aF9 rfl rfl (by kernel_rfl) (by kernel_rfl) h with⟨h1,h2⟩|⟨a,len,cap,m,n,V0,V1,D0,D1,P0,P1,h1,_,hl,_,hm,hx,hc⟩
 ·simp only[List.cons.injEq,and_true]at h1;subst h1;refine⟨[],?_,rfl,fun B _=>by simp⟩
  unfold fN bI;exact⟨none,0,rfl,Nat.le_refl _,fun _=>⟨rfl,rfl⟩,fun ad e=>by cases e⟩
 ·simp only[List.cons.injEq,and_true]at h1;subst h1;have hlm:len<=m:=by rw[hm];split<;>omega
  have hint:∀i,i<m->∃p:Int×Int,V0 i= .int .i64 p.1/\V1 i= .int .i64 p.2:=by
   intro i hi;obtain⟨_,_,g3,g4⟩:=hc i hi;obtain⟨p,hp,_⟩:=DataW.trod_int Tryz.underlying3 g3;obtain⟨q,hq,_⟩:=DataW.trod_int Tryz.underlying3 g4;simp only[List.cons.injEq,and_true]at hp hq;exact⟨(p,q),hp,hq⟩
  obtain⟨f,hf⟩:=choose_lt (α:=Int×Int) (p:=fun i p=>V0 i= .int .i64 p.1/\V1 i= .int .i64 p.2) hint
  refine⟨(List.range len).map fun i=>⟨(f i).1,(f i).2⟩,?_,rfl,fun B hB=> ?_⟩
  ·unfold fN bI;refine⟨some a,cap,by simp,by simpa using hl,(fun e=>by cases e),fun ad e=> ?_⟩
   cases e;refine⟨fun hpos=> ?_,Ld _ _ _ fun i hi=> ?_⟩
   ·have h0:=(hc 0 (by simp at hpos;omega)).1
    simpa[Addr.add]using World.cell?_spot h0
   ·simp only[List.length_map,List.length_range]at hi;obtain⟨g1,g2,_⟩:=hc i (by omega)
    obtain⟨e0,e1⟩:=hf i (by omega)
    have hs:a.spot=none:=by simpa[Addr.add]using World.cell?_spot (hc 0 (by omega)).1
    obtain⟨b,off,sp⟩:=a;dsimp only at hs;subst hs;rw[e0]at g1;rw[e1]at g2;simp only[List.getElem_map,List.getElem_range];unfold vN;rw[Addr.add_mid]at g1 g2;exact⟨g1,g2⟩
  ·have:=hB ((len+(m-len))*16) (by rw[hx];simp[DataW.weights,Tryz.underlying23,aGc])
   simp only[List.length_map,List.length_range];omega
theorem Wq{fuel:Nat}{v:Value}{y:DataW H×List MemPlace}(h:DataW.trod enc Tryz.prog w base spare held fuel 24 [v] =some y):
  ∃l:List Geo.aD,bI (vN w) (kM l) v/\v.oneCell'=true/\∀B,(∀n∈DataW.weights Tryz.prog 24 y.1,n<=B)->l.length*24<=B/\∀r∈l,r.length*16<=B:=by
 rcases open_slice1 Tryz.underlying24 aGb h with⟨h1,h2⟩|⟨a,len,cap,m,n,V,D,Pl,h1,_,hl,_,hm,hx,hc⟩
 ·simp only[List.cons.injEq,and_true]at h1;subst h1;refine⟨[],?_,rfl,fun B _=>⟨by simp,fun r hr=>by cases hr⟩⟩
  unfold kM bI;exact⟨none,0,rfl,Nat.le_refl _,fun _=>⟨rfl,rfl⟩,fun ad e=>by cases e⟩
 ·simp only[List.cons.injEq,and_true]at h1;subst h1;have hlm:len<=m:=by rw[hm];split<;>omega
  have hring:∀i,i<m->∃r:Geo.aD,bI (vN w) (fN r) (V i)/\(V i).oneCell'=true/\∀B,(∀n∈DataW.weights Tryz.prog 23 (D i),n<=B)->r.length*16<=B:=fun i hi=>Lk (hc i hi).2
  obtain⟨f,hf⟩:=choose_lt (α:=Geo.aD) (p:=fun i r=>bI (vN w) (fN r) (V i)/\(V i).oneCell'=true/\∀B,(∀n∈DataW.weights Tryz.prog 23 (D i),n<=B)->r.length*16<=B) hring
  refine⟨(List.range len).map f,?_,rfl,fun B hB=> ?_⟩
  ·unfold kM bI;refine⟨some a,cap,by simp,by simpa using hl,(fun e=>by cases e),fun ad e=> ?_⟩
   cases e;refine⟨fun hpos=> ?_,Ie _ _ _ fun i hi=> ?_⟩
   ·have h0:=(hc 0 (by simp at hpos;omega)).1
    simpa[Addr.add]using World.cell?_spot h0
   ·simp only[List.length_map,List.length_range]at hi;have g1:=(hc i (by omega)).1
    have hs:a.spot=none:=by simpa[Addr.add]using World.cell?_spot (hc 0 (by omega)).1
    obtain⟨b,off,sp⟩:=a;dsimp only at hs;subst hs;rw[Addr.add_mid]at g1;simp only[List.getElem_map,List.getElem_range];exact⟨V i,g1,(hf i (by omega)).2.1,(hf i (by omega)).1⟩
  ·have hw:∀x,x∈DataW.weights Tryz.prog 24 (DataW.slice ((List.range len).map D) ((List.range (m-len)).map fun j=>D (len+j)))->x<=B:=by rw[hx]at hB;exact hB
   have hmem:∀{l:List (DataW H)} {d:DataW H} {x:Nat},d∈l->x∈DataW.weights Tryz.prog 23 d->x∈DataW.weightsAll Tryz.prog 23 l:=by
    intro l;induction l with
    |nil=>intro d x h;cases h
    |cons e l ih=>
     intro d x hd hx;simp only[DataW.weightsAll,List.mem_append];rcases List.mem_cons.1 hd with rfl|hd
     ·exact .inl hx
     ·exact .inr (ih hd hx)
   refine⟨?_,fun r hr=> ?_⟩
   ·have:=hw ((len+(m-len))*24) (by simp[DataW.weights,Tryz.underlying24,aGd])
    simp only[List.length_map,List.length_range];omega
   ·obtain⟨i,hi,rfl⟩:=List.mem_map.1 hr;have hi:=List.mem_range.1 hi;refine(hf i (by omega)).2.2 B fun x hx2=>hw x ?_
    simp only[DataW.weights,Tryz.underlying24,List.mem_cons,List.mem_append];exact .inr (.inl (hmem (List.mem_map.2 ⟨i,List.mem_range.2 hi,rfl⟩) hx2))
set_option maxRecDepth 100000 in
theorem Wp{r:Reach}{b0:Nat}{v:Value}{d:DataW H}{p:List MemPlace}(hv:Value.okWide Tryz.prog w r b0 26 v)(h:DataW.Trod enc Tryz.prog w base spare held 26 v d p)(hw:∀n∈DataW.weights Tryz.prog 26 d,n<=reachBytes):
  ∃s:Geo.Shape,bI (vN w) (gR s) v/\sL s:=by
 obtain⟨v0,v1,y0,y1,n,rfl,rfl,_,h0,h1⟩:=open_agg2 Tryz.underlying26 (by kernel_rfl) aGa hv h
 obtain⟨ro,g1,g2,g3⟩:=Lk h0;obtain⟨rs,g4,g5,g6⟩:=Wq h1;have hB:reachBytes<=140737488351232:=of_decide_eq_true (by kernel_rfl)
 have k1:=g3 reachBytes fun x hx=>hw x (by simp only[DataW.weights,Tryz.underlying26,List.map_cons,DataW.weightsEach,List.mem_append];exact .inl hx)
 have k2:=g6 reachBytes fun x hx=>hw x (by simp only[DataW.weights,Tryz.underlying26,List.map_cons,DataW.weightsEach,List.mem_append];exact .inr (.inl hx))
 refine⟨⟨ro,rs⟩,?_,by show ro.length<=_;omega,by show rs.length<=_;omega,fun q hq=>by have:=k2.2 q hq;omega⟩
 unfold gR bI;refine⟨[v0,v1],rfl,?_,?_⟩
 ·unfold cG;refine⟨v0,[v1],rfl,g1,?_⟩;unfold cG;exact⟨v1,[],rfl,g4,by unfold cG;rfl⟩
 ·intro u hu;simp only[List.mem_cons,List.not_mem_nil,or_false]at hu;rcases hu with rfl|rfl
  ·exact g2
  ·exact g5
end
section
variable {H:Type} {enc:TypeId×Value->H} {w:World} {base:Nat} {spare:Nat->Bool} {held:Bool}
end
end Go.Proofs.YtdaeofhdgabhjaaGreat
namespace Go.Proofs.YtdaeofhdgabhjaaGreat
open Go.RowKit
set_option maxRecDepth 100000
noncomputable section
open Geo (aD dK cD eJ aE iW nth jC cI gG fT)
def swR(a b:aD)(n:Nat):aD:=if n % 2=0 then a else b
theorem aDf(a b:aD)(n:Nat):swR b a n=swR a b (n+1):=by unfold swR;split<;>split<;>first|rfl|omega
def rU(a b:aD)(i k:Nat):Bool:=(List.range k).all fun j=>decide (Geo.turn (nth a i) (nth a ((i+1) % a.length)) (nth b j)<=0)
theorem Zm(a b:aD)(i k:Nat):rU a b i (k+1)=(rU a b i k&&decide (Geo.turn (nth a i) (nth a ((i+1) % a.length)) (nth b k)<=0)):=by
 unfold rU;rw[List.range_succ,List.all_append];simp
theorem aI8(a b:aD)(i:Nat):rU a b i b.length=b.all fun v=>decide (Geo.turn (nth a i) (Geo.nxt a i) v<=0):=by
 unfold rU;rw[Bool.eq_iff_iff,List.all_eq_true,List.all_eq_true];constructor
 ·intro h v hv;obtain⟨j,hj,rfl⟩:=Geo.fL.1 hv;exact h j (List.mem_range.2 hj)
 ·intro h j hj;exact h _ (Geo.fK (List.mem_range.1 hj))
theorem Id(a b:aD):jC a b=(List.range a.length).any fun i=>rU a b i b.length:=by
 unfold jC;congr 1;funext i;rw[aI8]
theorem Wm{a b:aD}{i:Nat}(hi:i<a.length)(h:rU a b i b.length=true):jC a b=true:=by
 rw[Id];exact List.any_eq_true.2 ⟨i,List.mem_range.2 hi,h⟩
theorem aA8{a b:aD}(h:aW (fun i=>rU a b i b.length=false) a.length):jC a b=false:=by
 rw[Id];exact List.any_eq_false.2 fun i hi=>by rw[h i (List.mem_range.1 hi)];simp
theorem aEg{a b:aD}{n:Nat}(h:jC (swR a b n) (swR b a n)=true):true=dK a b:=by
 unfold swR at h;unfold dK;split at h
 ·rw[h];rfl
 ·rw[h];simp
theorem aEh{a b:aD}(h:aW (fun n=>jC (swR a b n) (swR b a n)=false) 2):false=dK a b:=by
 have h0:=h 0 (by omega)
 have h1:=h 1 (by omega)
 unfold swR at h0 h1;unfold dK;rw[show jC a b=false from h0,show jC b a=false from h1];rfl
def c77:Con:=con (ac (aL .V) (ac (aL .V) (a1 (aF 78)))) (fun(a,b,_)=>[a.length<=1000000,b.length<=1000000]) (fun(a,b,_)=> .int .i64 (cD a b))
theorem k77:c77.Ok Tryz.prog 77:=aU (bL aCh) (raw:=bO) (fun(a,b,_)=>[lp 2 13 a.length (fun k=>[k<=b.length,aW (fun j=>eJ (nth a j) (nth b j)=0) k]) [] (fun _=>[]) (fun _=>[])]
  ) (fun(_,_,_)=>⟨_,rfl⟩) fun(a,b,u) hp=>bM (q:=(0=(0:Int)/\(0:Nat)<=a.length/\(0:Nat)<=b.length/\aW (fun j=>eJ (nth a j) (nth b j)=0) 0)/\
 (∀x:Nat,x<=a.length/\x<=b.length/\aW (fun j=>eJ (nth a j) (nth b j)=0) x->((x:Int)<a.length->ix (x:Int) a.length/\((b.length:Int)<=x->1=cD a b)/\
   (¬(b.length:Int)<=x->ix (x:Int) b.length/\(¬eJ (nth a x) (nth b x)=0->eJ (nth a x) (nth b x)=cD a b)/\
    (¬(¬eJ (nth a x) (nth b x)=0)->aG ((x:Int)+1)/\(x:Int)+1=((x+1:Nat):Int)/\x+1<=a.length/\x+1<=b.length/\aW (fun j=>eJ (nth a j) (nth b j)=0) (x+1)/\a.length-(x+1)<a.length-x)))/\
  (¬(x:Int)<a.length->((a.length:Int)<b.length-> -1=cD a b)/\
   (¬(a.length:Int)<b.length->0=cD a b)))) (by kernel_rfl) (by
  change a.length<=1000000/\b.length<=1000000 at hp;have g1:∀x:Nat,(x:Int)<a.length->x<=b.length->aW (fun j=>eJ (nth a j) (nth b j)=0) x->(b.length:Int)<=x->1=cD a b:=fun x h1 h2 h3 h4=>by
   rw[wQ (k:=x) (by omega) h2 (.inr (by omega)) h3];unfold Geo.sgn;rw[if_pos (by omega)]
  have g2:∀x:Nat,¬(x:Int)<a.length->x<=a.length->x<=b.length->aW (fun j=>eJ (nth a j) (nth b j)=0) x->cD a b=Geo.sgn ((a.length:Int)-b.length):=fun x h1 h2 h3 h4=>wQ h2 h3 (.inl (by omega)) h4
  have s1:(a.length:Int)<b.length-> -1=Geo.sgn ((a.length:Int)-b.length):=fun h=>by unfold Geo.sgn;rw[if_neg (by omega),if_pos (by omega)]
  have s2:(a.length:Int)=b.length->0=Geo.sgn ((a.length:Int)-b.length):=fun h=>by unfold Geo.sgn;rw[if_neg (by omega),if_neg (by omega)]
  repeat' first|with_reducible apply And.intro|with_reducible intro
  all_goals repeat with_reducible cases‹_/\_›
  all_goals first|assumption|rfl|exact trivial|exact nb ‹_› |exact nb' ‹_› |omega|exact cV (by omega)|(unfold ix;omega)|(unfold aG;omega)|exact bC _|exact aC ‹_› ‹_› |(refine aC ‹_› ?_;simp_all;done)|exact(Je ‹_› ‹_› (by omega) (by omega)).symm|exact g1 _ ‹_› ‹_› ‹_› ‹_› |(rw[g2 _ ‹_› ‹_› ‹_› ‹_›];first|exact s1 ‹_› |exact s2 (by omega))|exact aC ‹_› (Decidable.of_not_not ‹¬¬_›)|grind)
def t77:Tab:=cJ [(77,c77)] aIz
theorem aKo:t77.Ok Tryz.prog:=aH aCh ⟨k77,trivial⟩
def c26:Con:=con (ac (aL .V) (a1 (aL .V))) (fun(a,b)=>[a.length<=1000000,b.length<=1000000]) (fun(a,b)=> .int .i64 (cD a b))
theorem k26:c26.Ok Tryz.prog 26:=aU (bL aKo) (raw:=bO) (fun(_,_)=>[]
 ) (fun(_,_)=>⟨_,rfl⟩) fun(a,b) hp=>bM (q:=a.length<=1000000/\b.length<=1000000/\cD a b=cD a b) (by kernel_rfl) (by
 change a.length<=1000000/\b.length<=1000000 at hp;exact⟨hp.1,hp.2,rfl⟩)
def t26:Tab:=cJ [(26,c26)] t77
theorem aKI:t26.Ok Tryz.prog:=aH aKo ⟨k26,trivial⟩
def c93:Con:=con (ac (aL .V) (a1 (aL .V))) (fun(a,b)=>[a.length<=1000,b.length<=1000,(∀v∈a,bd 1000000000 v),(∀v∈b,bd 1000000000 v)]) (fun(a,b)=> .bool (dK a b))
theorem k93:c93.Ok Tryz.prog 93:=aU (bL aKI) (raw:=bO) (fun(a,b)=>[lp 2 5 2 (fun n=>[aW (fun j=>jC (swR a b j) (swR b a j)=false) n]) [] (fun n=>[(0,.lst .V (swR a b n)),(1,.lst .V (swR b a n))]) (fun _=>[]) fun n=>[cnt 5 6 (swR a b n).length (aW fun i=>rU (swR a b n) (swR b a n) i (swR b a n).length=false) fun i=>[lp 9 8 (swR b a n).length (fun _=>[]) [] (fun k=>[(7,.bool (rU (swR a b n) (swR b a n) i k))]) (fun _=>[])]]]
  ) (fun(_,_)=>⟨_,rfl⟩) fun(a,b) hp=>bM (q:=(0=(0:Int)/\a=swR a b 0/\b=swR b a 0/\(0:Nat)<=2/\aW (fun j=>jC (swR a b j) (swR b a j)=false) 0)/\
 (∀x:Nat,x<=2/\aW (fun j=>jC (swR a b j) (swR b a j)=false) x->((x:Int)<2->(0=(0:Int)/\(0:Nat)<=(swR a b x).length/\aW (fun i=>rU (swR a b x) (swR b a x) i (swR b a x).length=false) 0)/\
   (∀x_1:Nat,x_1<=(swR a b x).length/\aW (fun i=>rU (swR a b x) (swR b a x) i (swR b a x).length=false) x_1->((x_1:Int)<(swR a b x).length->(0=(0:Int)/\true=rU (swR a b x) (swR b a x) x_1 0/\(0:Nat)<=(swR b a x).length)/\
     (∀x_2:Nat,x_2<=(swR b a x).length->((x_2:Int)<(swR b a x).length->(rU (swR a b x) (swR b a x) x_1 x_2=true->ix (x_1:Int) (swR a b x).length/\aG ((x_1:Int)+1)/\((swR a b x).length:Int)≠0/\ix (((x_1+1) % (swR a b x).length:Nat):Int) (swR a b x).length/\ix (x_2:Int) (swR b a x).length/\bd 1000000000 (nth (swR a b x) x_1)/\bd 1000000000 (nth (swR a b x) ((x_1+1) % (swR a b x).length))/\bd 1000000000 (nth (swR b a x) x_2)/\aG ((x_2:Int)+1)/\(x_2:Int)+1=((x_2+1:Nat):Int)/\decide (Geo.turn (nth (swR a b x) x_1) (nth (swR a b x) ((x_1+1) % (swR a b x).length)) (nth (swR b a x) x_2)<=0)=rU (swR a b x) (swR b a x) x_1 (x_2+1)/\x_2+1<=(swR b a x).length/\(swR b a x).length-(x_2+1)<(swR b a x).length-x_2)/\
       (rU (swR a b x) (swR b a x) x_1 x_2=false->aG ((x_2:Int)+1)/\(x_2:Int)+1=((x_2+1:Nat):Int)/\false=rU (swR a b x) (swR b a x) x_1 (x_2+1)/\x_2+1<=(swR b a x).length/\(swR b a x).length-(x_2+1)<(swR b a x).length-x_2))/\
      (¬(x_2:Int)<(swR b a x).length->(rU (swR a b x) (swR b a x) x_1 x_2=true->true=dK a b)/\
       (rU (swR a b x) (swR b a x) x_1 x_2=false->aG ((x_1:Int)+1)/\(x_1:Int)+1=((x_1+1:Nat):Int)/\x_1+1<=(swR a b x).length/\aW (fun i=>rU (swR a b x) (swR b a x) i (swR b a x).length=false) (x_1+1)/\(swR a b x).length-(x_1+1)<(swR a b x).length-x_1))))/\
    (¬(x_1:Int)<(swR a b x).length->aG ((x:Int)+1)/\(x:Int)+1=((x+1:Nat):Int)/\swR b a x=swR a b (x+1)/\swR a b x=swR b a (x+1)/\x+1<=2/\aW (fun j=>jC (swR a b j) (swR b a j)=false) (x+1)/\2-(x+1)<2-x)))/\
  (¬(x:Int)<2->false=dK a b))) (by kernel_rfl) (by
  change a.length<=1000/\b.length<=1000/\((∀v∈a,bd 1000000000 v))/\((∀v∈b,bd 1000000000 v))at hp;obtain⟨la,lb,va,vb⟩:=hp;have l1:∀n,(swR a b n).length<=1000:=fun n=>by unfold swR;split<;>assumption
  have l2:∀n,(swR b a n).length<=1000:=fun n=>by unfold swR;split<;>assumption
  have v1:∀n i,i<(swR a b n).length->bd 1000000000 (nth (swR a b n) i):=fun n i h=>by
   have:=Geo.fK h;unfold swR at this|-;split at this<;>rename_i e
   ·rw[if_pos e];exact va _ this
   ·rw[if_neg e];exact vb _ this
  have v2:∀n i,i<(swR b a n).length->bd 1000000000 (nth (swR b a n) i):=fun n i h=>by
   have:=Geo.fK h;unfold swR at this|-;split at this<;>rename_i e
   ·rw[if_pos e];exact vb _ this
   ·rw[if_neg e];exact va _ this
  have z:∀A B:aD,∀i,true=rU A B i 0:=fun A B i=>rfl
  have us:∀(A B:aD) (i k:Nat),rU A B i k=true->decide (Geo.turn (nth A i) (nth A ((i+1) % A.length)) (nth B k)<=0)=rU A B i (k+1):=fun A B i k h=>by rw[Zm,h,Bool.true_and]
  have uf:∀(A B:aD) (i k:Nat),rU A B i k=false->false=rU A B i (k+1):=fun A B i k h=>by rw[Zm,h,Bool.false_and]
  have yes:∀n i k:Nat,(i:Int)<(swR a b n).length->¬(k:Int)<(swR b a n).length->k<=(swR b a n).length->rU (swR a b n) (swR b a n) i k=true->true=dK a b:=fun n i k h1 h2 h3 h4=>by
   obtain rfl:k=(swR b a n).length:=by omega
   exact aEg (n:=n) (Wm (by omega) h4)
  have no:∀n i k:Nat,¬(k:Int)<(swR b a n).length->k<=(swR b a n).length->rU (swR a b n) (swR b a n) i k=false->aW (fun i=>rU (swR a b n) (swR b a n) i (swR b a n).length=false) i->aW (fun i=>rU (swR a b n) (swR b a n) i (swR b a n).length=false) (i+1):=fun n i k h2 h3 h4 h5=>by
   obtain rfl:k=(swR b a n).length:=by omega
   exact aC h5 h4
  have nx:∀n i:Nat,¬(i:Int)<(swR a b n).length->i<=(swR a b n).length->aW (fun i=>rU (swR a b n) (swR b a n) i (swR b a n).length=false) i->aW (fun j=>jC (swR a b j) (swR b a j)=false) n->aW (fun j=>jC (swR a b j) (swR b a j)=false) (n+1):=fun n i h1 h2 h3 h4=>by
   obtain rfl:i=(swR a b n).length:=by omega
   exact aC h4 (aA8 h3)
  have fin:∀n:Nat,¬(n:Int)<2->n<=2->aW (fun j=>jC (swR a b j) (swR b a j)=false) n->false=dK a b:=fun n h1 h2 h3=>by
   obtain rfl:n=2:=by omega
   exact aEh h3
  have e0:a=swR a b 0:=rfl;have e1:b=swR b a 0:=rfl
  repeat' first|with_reducible apply And.intro|with_reducible intro
  all_goals repeat with_reducible cases‹_/\aW _ _›
  all_goals first|assumption|exact z _ _ _|exact us _ _ _ _ ‹_› |exact uf _ _ _ _ ‹_› |exact yes _ _ _ ‹_› ‹_› ‹_› ‹_› |exact no _ _ _ ‹_› ‹_› ‹_› ‹_› |exact nx _ _ ‹_› ‹_› ‹_› ‹_› |exact fin _ ‹_› ‹_› ‹_› |exact aDf _ _ _|exact bC _|exact v1 _ _ (by omega)|exact v2 _ _ (by omega)|exact v1 _ _ (Nat.mod_lt _ (by omega))|exact cV (by omega)|omega|(have:=l1 ‹Nat›;unfold ix;omega)|(unfold aG;have h1:=l1;have h2:=l2;omega)|(unfold ix;omega)|(have h1:=l1;have h2:=l2;exact dY (by grind))|grind)
def t93:Tab:=cJ [(93,c93)] t26
theorem aKb:t93.Ok Tryz.prog:=aH aKI ⟨k93,trivial⟩
def c94:Con:=con (a1 (aL .V)) (fun r=>[r.length<=100000]) (fun r=> .int .i64 (if cI r=true then Geo.area r else 0)
 )
theorem k94:c94.Ok Tryz.prog 94:=aU (bL aKb) (raw:=bO) (fun _=>[]) (fun _=>⟨_,rfl⟩) fun r hp=>bM (q:=r.length<=100000/\((!cI r)=true->0=(if cI r=true then Geo.area r else 0))/\
 ((!cI r)=false->Geo.near r=true/\r.length<=100000/\Geo.area r=(if cI r=true then Geo.area r else 0))) (by kernel_rfl) (by
  change r.length<=100000 at hp;have e1:(!cI r)=true->0=(if cI r=true then Geo.area r else 0):=fun h=>by rw[nb' h];rfl
  have e2:(!cI r)=false->Geo.area r=(if cI r=true then Geo.area r else 0):=fun h=>by rw[nb h];rfl
  exact⟨hp,e1,fun h=>⟨(qP r|>.1 (nb h)).2.2.1,hp,e2 h⟩⟩)
def t94:Tab:=cJ [(94,c94)] t93
theorem aNL:t94.Ok Tryz.prog:=aH aKb ⟨k94,trivial⟩
def c92:Con:=con (ac aSh (a1 (aL .V))) (fun(s,r)=>[Fit s,3<=r.length,r.length<=1000,(∀v∈r,bd 10000 v),(aE s).length<=1000000,(∀e∈aE s,bd 10000 e.a/\bd 10000 e.b)]) (fun(s,r)=> .bool (fT s r))
theorem k92:c92.Ok Tryz.prog 92:=aU (bL aNL) (raw:=bO) (fun(s,r)=>[cnt 3 6 (aE s).length (aW fun i=>dK r [(aX (aE s) i).a,(aX (aE s) i).b] =true)]
  ) (fun(_,_)=>⟨_,rfl⟩) fun(s,r) hp=>bM (q:=Fit s/\(0=(0:Int)/\(0:Nat)<=(aE s).length/\aW (fun i=>dK r [(aX (aE s) i).a,(aX (aE s) i).b] =true) 0)/\
 (∀x:Nat,x<=(aE s).length/\aW (fun i=>dK r [(aX (aE s) i).a,(aX (aE s) i).b] =true) x->((x:Int)<(aE s).length->ix (x:Int) (aE s).length/\ix (x:Int) (aE s).length/\r.length<=1000/\[(aX (aE s) x).a,(aX (aE s) x).b].length<=1000/\(∀v:Geo.V,v∈r->bd 1000000000 v)/\(∀v:Geo.V,v∈[(aX (aE s) x).a,(aX (aE s) x).b]->bd 1000000000 v)/\((!dK r [(aX (aE s) x).a,(aX (aE s) x).b])=true->false=fT s r)/\
   ((!dK r [(aX (aE s) x).a,(aX (aE s) x).b])=false->aG ((x:Int)+1)/\(x:Int)+1=((x+1:Nat):Int)/\x+1<=(aE s).length/\aW (fun i=>dK r [(aX (aE s) i).a,(aX (aE s) i).b] =true) (x+1)/\(aE s).length-(x+1)<(aE s).length-x))/\
  (¬(x:Int)<(aE s).length->((0:Int)<=3/\3<=(r.length:Int))/\(0:Nat)<(List.take 3 r).length/\(List.take 3 r).length<=1000/\(∀v:Geo.V,v∈List.take 3 r->bd 10000 v)/\Fit s/\decide (gG s (iW (List.take 3 r))=2)=fT s r))) (by kernel_rfl) (by
  change Fit s/\3<=r.length/\r.length<=1000/\((∀v∈r,bd 10000 v))/\(aE s).length<=1000000/\((∀e∈aE s,bd 10000 e.a/\bd 10000 e.b))at hp;obtain⟨hf,l3,lr,vr,le,ve⟩:=hp;have ve:∀x:Nat,(x:Int)<(aE s).length->∀v∈[(aX (aE s) x).a,(aX (aE s) x).b],bd 1000000000 v:=fun x h v hv=>by
   have:=ve _ (List.getElem_mem (show x<(aE s).length by omega))
   rw[<-fA (by omega)]at this
   rcases List.mem_cons.1 hv with rfl|hv
   ·exact this.1.mono
   ·rw[List.mem_singleton.1 hv];exact this.2.mono
  have vr9:∀v∈r,bd 1000000000 v:=fun v hv=>(vr v hv).mono
  have vt:∀v∈List.take 3 r,bd 10000 v:=fun v hv=>vr v (List.mem_of_mem_take hv)
  have lt:(List.take 3 r).length=3:=by rw[List.length_take];omega
  have no:∀x:Nat,(x:Int)<(aE s).length->(!dK r [(aX (aE s) x).a,(aX (aE s) x).b])=true->false=fT s r:=fun x h h2=>by
   unfold fT;rw[show((aE s).all fun e=>dK r [e.a,e.b])=false from List.all_eq_false.2 ⟨_,List.getElem_mem (show x<(aE s).length by omega),by
    rw[<-fA (by omega),nb' h2];simp⟩]
   rfl
  have yes:∀x:Nat,¬(x:Int)<(aE s).length->x<=(aE s).length->aW (fun i=>dK r [(aX (aE s) i).a,(aX (aE s) i).b] =true) x->decide (gG s (iW (List.take 3 r))=2)=fT s r:=fun x h1 h2 h3=>by
   obtain rfl:x=(aE s).length:=by omega
   unfold fT;rw[show((aE s).all fun e=>dK r [e.a,e.b])=true from List.all_eq_true.2 fun e he=>by
    obtain⟨j,hj,rfl⟩:=List.getElem_of_mem he;have:=h3 j hj;dsimp only at this;rw[fA hj]at this;exact this]
   rw[Bool.true_and,Bool.eq_iff_iff];simp
  repeat' first|with_reducible apply And.intro|with_reducible intro
  all_goals repeat with_reducible cases‹_/\_›
  all_goals first|assumption|rfl|exact trivial|exact nb ‹_› |exact nb' ‹_› |omega|exact cV (by omega)|(unfold ix;omega)|(unfold aG;omega)|exact bC _|exact aC ‹_› ‹_› |(refine aC ‹_› ?_;simp_all;done)|exact ve _ ‹_› _ ‹_› |exact no _ ‹_› ‹_› |exact yes _ ‹_› ‹_› ‹_› |exact Nat.le_of_lt (by decide)|(show 2<=1000;omega)|exact aC ‹_› (nb ‹_›)|grind)
end
end Go.Proofs.YtdaeofhdgabhjaaGreat
