/- What the statements about triangulations stand on: contracts of functions, plain laws. Part 4 of 5, no condition of its own. (J8 Shelf J9 J10 J11 J12 K13 K14 J13 N18 J14 K15 H1 H2 H3 H4 J15 K16 N17 J16 M0 Q0 K22 M1 H6 H7 H8 I1) -/
import Derived.Test.YtdaeofhdgabhjaaGreatPT3
import Derived.Shelf.SlSortCmp.NoneTotal
import Derived.Ground.SlsfProg
import Derived.Test.YtdaeofhdgabhjaaGreatProg
import Derived.KernelRfl
import Derived.Test.YtdaeofhdgabhjaaGreatRows
import Derived.ProofKit
import Derived.Carry
import Derived.SizedLaws
import Derived.Deep.SlicePairs
import Derived.Lib.SmallJoins
namespace Go.Proofs.YtdaeofhdgabhjaaGreat
open Go.RowKit
section
variable {C:cE} {w:World}
theorem eW.rdV(hC:∀b o v,C b o v->w.cell? ⟨b,o,none⟩=some v){r:List Geo.V}{b o:Nat}(h:eW C (iV r) b o):RdV w (some ⟨b,o,none⟩) r:=by
 intro i hi;have h1:=Ic.at r i hi;have g0:(iV r)[i*2]? =some (.int .i64 r[i].x):=by
  have:=congrArg (fun l=>l[0]?) h1
  simpa[List.getElem?_take,List.getElem?_drop]using this
 have g1:(iV r)[i*2+1]? =some (.int .i64 r[i].y):=by
  have:=congrArg (fun l=>l[1]?) h1
  simpa[List.getElem?_take,List.getElem?_drop]using this
 obtain⟨v0,a1,_,a3⟩:=eW.get _ _ _ h _ _ g0;obtain⟨v1,b1,_,b3⟩:=eW.get _ _ _ h _ _ g1;unfold bF at a3 b3;subst a3 b3;have en:Geo.nth r i=r[i] :=by unfold Geo.nth;rw[List.getD_eq_getElem?_getD,List.getElem?_eq_getElem hi];rfl
 refine⟨b,o,rfl,World.block_lt_of_cell? w ⟨b,_,none⟩ (hC _ _ _ a1),?_,?_⟩
 ·rw[en];exact hC _ _ _ a1
 ·rw[en];have:=hC _ _ _ b1;rwa[show o+(i*2+1)=o+i*2+1 by omega]at this
theorem Em(hC:∀b o v,C b o v->w.cell? ⟨b,o,none⟩=some v){r:List Geo.V}{v:Value}(h:bF C (fL r) v):∃a c,v= .slice a r.length c/\RdV w a r/\r.length<=c/\(a=none->c=0):=by
 unfold fL bF at h;obtain⟨a,c,rfl,h1,h2,h3⟩:=h;refine⟨a,c,rfl,?_,h1,fun e=>(h2 e).1⟩
 cases a with
 |none=>
  have:r=[] :=by
   have:=congrArg List.length (h2 rfl).2;rw[Ic.length]at this;exact List.length_eq_zero_iff.1 (by simp at this;omega)
  subst this;intro i hi;simp at hi
 |some ad=>
  obtain⟨b,o,sp⟩:=ad;obtain⟨h4,h5⟩:=h3 _ rfl;dsimp only at h4 h5;rcases Nat.eq_zero_or_pos r.length with hr0|hr0
  ·intro i hi;omega
  ·have h4:=h4 hr0;subst h4;exact h5.rdV hC
theorem Bw(hC:∀b o v,C b o v->w.cell? ⟨b,o,none⟩=some v):∀(l:List Geo.aC) (b o:Nat),eW C (l.map fL) b o->∃hs:List RV,hs.map RV.r=l/\(∀i,i<hs.length->b<w.heap.size/\w.cell? ⟨b,o+i,none⟩=some (RV.enc (hs.getD i default)))/\∀x∈hs,RdV w x.a x.r/\x.r.length<=x.c/\(x.a=none->x.c=0)
 |[],b,o,_=>⟨[],rfl,(fun i h=>by simp at h),fun x h=>by cases h⟩
 |r::l,b,o,h=>by
  rw[List.map_cons]at h;unfold eW at h;obtain⟨⟨v,h1,_,h2⟩,h3⟩:=h;obtain⟨a,c,rfl,h4,h5⟩:=Em hC h2;obtain⟨hs,g1,g2,g3⟩:=Bw hC l b (o+1) h3;refine⟨⟨a,c,r⟩::hs,by simp[g1],?_,?_⟩
  ·intro i hi;cases i with
   |zero=>exact⟨World.block_lt_of_cell? w ⟨b,_,none⟩ (hC _ _ _ h1),by simpa[RV.enc]using hC _ _ _ h1⟩
   |succ i=>
    have:=g2 i (by simpa using hi)
    rw[show o+1+i=o+(i+1) by omega]at this
    simpa using this
  ·intro x hx;rcases List.mem_cons.1 hx with rfl|hx
   ·exact⟨h4,h5⟩
   ·exact g3 x hx
theorem Zq(hC:∀b o v,C b o v->w.cell? ⟨b,o,none⟩=some v){l:List Geo.aC}{v:Value}(h:bF C (jT l) v):
  ∃ah ch,∃hs:List RV,v= .slice ah hs.length ch/\hs.length<=ch/\hs.map RV.r=l/\RdH w.heap.size w ah hs/\∀x∈hs,RdV w x.a x.r/\x.r.length<=x.c/\(x.a=none->x.c=0):=by
 unfold jT bF at h;obtain⟨a,c,rfl,h1,h2,h3⟩:=h;cases a with
 |none=>
  have:l=[] :=by simpa using(h2 rfl).2
  subst this;exact⟨none,c,[],rfl,Nat.zero_le _,rfl,(fun i hi=>by simp at hi),fun x hx=>by cases hx⟩
 |some ad=>
  obtain⟨b,o,sp⟩:=ad;obtain⟨h4,h5⟩:=h3 _ rfl;dsimp only at h4 h5;rcases Nat.eq_zero_or_pos l.length with hl0|hl0
  ·have:l=[] :=List.length_eq_zero_iff.1 hl0;subst this;exact⟨_,c,[],rfl,Nat.zero_le _,rfl,(fun i hi=>by simp at hi),fun x hx=>by cases hx⟩
  have h4:=h4 hl0;subst h4;obtain⟨hs,g1,g2,g3⟩:=Bw hC l b o h5;have hl:hs.length=l.length:=by rw[<-g1];simp
  exact⟨_,c,hs,by rw[hl],by omega,g1,fun i hi=>⟨b,o,rfl,(g2 i hi).1,(g2 i hi).2⟩,g3⟩
theorem vP(hC:∀b o v,C b o v->w.cell? ⟨b,o,none⟩=some v){s:Geo.Shape}{v:Value}(hf:Fit s)(h:bF C (gK s) v):
  ∃o ah ch hs,v= .agg #[RV.enc o,.slice ah hs.length ch]/\RdSh w o ah hs/\hs.length<=ch/\(∀x∈o::hs,x.r.length<=x.c)/\kB o hs=s:=by
 unfold gK bF at h;obtain⟨vs,rfl,h1,_⟩:=h;unfold cG at h1;obtain⟨v1,r1,rfl,h2,h3⟩:=h1;unfold cG at h3;obtain⟨v2,r2,rfl,h4,h5⟩:=h3;unfold cG at h5;subst h5;obtain⟨a,c,rfl,g1,g2⟩:=Em hC h2;obtain⟨ah,ch,hs,rfl,k1,k2,k3,k4⟩:=Zq hC h4;have hl:hs.length=s.holes.length:=by rw[<-k2];simp
 refine⟨⟨a,c,s.outer⟩,ah,ch,hs,rfl,⟨k3,?_,by rw[hl];have:=hf.2.1;omega⟩,k1,?_,by unfold kB;rw[k2]⟩
 ·intro x hx;rcases List.mem_cons.1 hx with rfl|hx
  ·exact⟨g1,hf.1,g2.1,g2.2⟩
  ·exact⟨(k4 x hx).1,hf.2.2 _ (by rw[<-k2];exact List.mem_map.2 ⟨x,hx,rfl⟩),(k4 x hx).2.1,(k4 x hx).2.2⟩
 ·intro x hx;rcases List.mem_cons.1 hx with rfl|hx
  ·exact g2.1
  ·exact(k4 x hx).2.1
theorem Am{cs:List PV}{us:List Value}{a:Option Addr}{n c N:Nat}(hr:Rd w a us)(hf:nS N a)(hn:a=none->c=0)(hc:n<=c)(hu:us.length=cs.length)(hsp:cs=[]->∀ad,a=some ad->ad.spot=none)
  (hv:∀(i:Nat) x u,cs[i]? =some x->us[i]? =some u->u.oneCell'=true/\bF (fun b o x=>N<=b/\w.cell? ⟨b,o,none⟩=some x) x u):bF (fun b o x=>N<=b/\w.cell? ⟨b,o,none⟩=some x) (.sl n cs) (.slice a n c):=by
 unfold bF;refine⟨a,c,rfl,hc,fun ha=>⟨hn ha,?_⟩,fun ad ha=> ?_⟩
 ·cases cs with
  |nil=>rfl
  |cons x cs=>
   cases us with
   |nil=>simp at hu
   |cons u us=>obtain⟨b,off,h1,_⟩:=hr 0 u rfl;rw[ha]at h1;cases h1
 ·subst ha;cases cs with
  |nil=>
   exact⟨fun _=>hsp rfl _ rfl,by unfold eW;trivial⟩
  |cons x cs=>
   cases us with
   |nil=>simp at hu
   |cons u us=>
    obtain⟨b,off,h1,_⟩:=hr 0 u rfl;cases h1;refine⟨fun _=>rfl,eW.of _ _ _ fun i y hi=> ?_⟩
    have hlt:i<(u::us).length:=by rw[hu];exact(List.getElem?_eq_some_iff.1 hi).1
    have hui:(u::us)[i]? =some (u::us)[i] :=List.getElem?_eq_getElem hlt;obtain⟨b',off',h2,_,h3⟩:=hr i _ hui;cases h2;obtain⟨g1,g2⟩:=hv i y _ hi hui;exact⟨_,⟨hf _ rfl,h3⟩,g1,g2⟩
end
theorem Vf{C:cE}(r:List Geo.V):(mK r).length=(iV r).length/\∀(i:Nat) x u,(iV r)[i]? =some x->(mK r)[i]? =some u->u.oneCell'=true/\bF C x u:=by
 refine⟨by rw[oP,Ic.length],?_⟩
 have key:∀(l:List Geo.V) (i:Nat) x u,(l.flatMap fun v=>[PV.int .i64 v.x,PV.int .i64 v.y])[i]? =some x->(l.flatMap fun v=>[Value.int .i64 v.x,Value.int .i64 v.y])[i]? =some u->u.oneCell'=true/\bF C x u:=by
  intro l;induction l with
  |nil=>intro i x u h;simp at h
  |cons v l ih=>
   intro i x u h1 h2;simp only[List.flatMap_cons,List.cons_append,List.nil_append]at h1 h2;match i with
   |0=>simp at h1 h2;subst h1 h2;exact⟨rfl,by unfold bF;rfl⟩
   |1=>simp at h1 h2;subst h1 h2;exact⟨rfl,by unfold bF;rfl⟩
   |i+2=>exact ih i x u (by simpa using h1) (by simpa using h2)
 exact key r
theorem Vg{C:cE}(r:List Geo.S):(lM r).length=(Sn r).length/\∀(i:Nat) x u,(Sn r)[i]? =some x->(lM r)[i]? =some u->u.oneCell'=true/\bF C x u:=by
 refine⟨by rw[zQ,aL3.length],?_⟩
 have key:∀(l:List Geo.S) (i:Nat) x u,(l.flatMap fun s=>[PV.int .i64 s.a.x,PV.int .i64 s.a.y,PV.int .i64 s.b.x,PV.int .i64 s.b.y])[i]? =some x->(l.flatMap fun s=>[Value.int .i64 s.a.x,Value.int .i64 s.a.y,Value.int .i64 s.b.x,Value.int .i64 s.b.y])[i]? =some u->u.oneCell'=true/\bF C x u:=by
  intro l;induction l with
  |nil=>intro i x u h;simp at h
  |cons v l ih=>
   intro i x u h1 h2;simp only[List.flatMap_cons,List.cons_append,List.nil_append]at h1 h2;match i with
   |0=>simp at h1 h2;subst h1 h2;exact⟨rfl,by unfold bF;rfl⟩
   |1=>simp at h1 h2;subst h1 h2;exact⟨rfl,by unfold bF;rfl⟩
   |2=>simp at h1 h2;subst h1 h2;exact⟨rfl,by unfold bF;rfl⟩
   |3=>simp at h1 h2;subst h1 h2;exact⟨rfl,by unfold bF;rfl⟩
   |i+4=>exact ih i x u (by simpa using h1) (by simpa using h2)
 exact key r
theorem aCh{w:World}{N:Nat}{v:Value}{xs:List Geo.S}(h:w.ownsRow N 46 4 v xs.length (lM xs)):bF (fun b o x=>N<=b/\w.cell? ⟨b,o,none⟩=some x) (Ie xs) v:=by
 have hsp:∀a c,v= .slice a xs.length c->∀ad,a=some ad->ad.spot=none:=by
  intro a c hv ad ha;rcases h.2 with⟨h1,_⟩|⟨g,cap,cur,h1,_⟩
  ·rw[h1]at hv;injection hv with e1;rw[<-e1]at ha;cases ha
  ·rw[h1]at hv;injection hv with e1;rw[<-e1]at ha;cases ha;rfl
 obtain⟨a,c,rfl,h1,h2,h3,h4⟩:=Rd.Ly h;obtain⟨g1,g2⟩:=Vg (C:=fun b o x=>N<=b/\w.cell? ⟨b,o,none⟩=some x) xs
 exact Am h1 h2 h3 h4 g1 (fun _=>hsp a c rfl) g2
theorem aCn{w:World}{N:Nat}{a:Option Addr}{c:Nat}{xs:List Geo.V}(h:RdV w a xs)(hf:nS N a)(hc:xs.length<=c)(h0:0<xs.length):bF (fun b o x=>N<=b/\w.cell? ⟨b,o,none⟩=some x) (fL xs) (.slice a xs.length c):=by
 obtain⟨b0,o0,rfl,_⟩:=h 0 h0;obtain⟨g1,g2⟩:=Vf (C:=fun b o x=>N<=b/\w.cell? ⟨b,o,none⟩=some x) xs
 refine Am (us:=mK xs) ?_ hf (fun h=>by cases h) hc g1 (fun _ ad ha=>by cases ha;rfl) g2
 intro i u hi;have hlt:i<xs.length*2:=by rw[<-oP];exact(List.getElem?_eq_some_iff.1 hi).1
 obtain⟨k,hk⟩:∃k,i=k*2\/i=k*2+1:=⟨i/2,by omega⟩
 obtain⟨b,o,he,h1,h2,h3⟩:=h k (by omega)
 cases he;obtain⟨f0,f1⟩:=Ay xs k (by omega)
 rcases hk with rfl|rfl
 ·rw[f0]at hi;cases hi;exact⟨b0,o0,rfl,h1,h2⟩
 ·rw[f1]at hi;cases hi;exact⟨b0,o0,rfl,h1,h3⟩
section
variable {fr:Bool}
theorem Hn(s:Geo.Shape)(hf:Fit s):Sat Tryz.prog true 55 [gK s] (.bool (Geo.bV s)):=by
 refine⟨by kernel_rfl,fun C w vs hC h=> ?_⟩
 unfold cG at h;obtain⟨v,r,rfl,h1,h2⟩:=h;unfold cG at h2;subst h2;obtain⟨o,ah,ch,hs,rfl,H,hch,_,rfl⟩:=vP hC hf h1;refine(qB o ah ch hs w H hch).mono ?_;rintro e w' ⟨rfl,hb⟩;exact⟨_,rfl,by unfold bF;rfl,hb⟩
theorem Ho(s:Geo.Shape)(hf:Fit s):Sat Tryz.prog true 131 [gK s] (Ie (Geo.aQ s)):=by
 refine⟨by kernel_rfl,fun C w vs hC h=> ?_⟩
 unfold cG at h;obtain⟨v,r,rfl,h1,h2⟩:=h;unfold cG at h2;subst h2;obtain⟨o,ah,ch,hs,rfl,H,hch,_,rfl⟩:=vP hC hf h1;have hn:hs.length<=900:=by have:=hf.2.1;simpa[kB]using this
 refine(Hm o ah ch hs w H hn).mono ?_;rintro e w' ⟨v,rfl,hrow,hb⟩;exact⟨_,rfl,bF.mono (fun b o x h=> .inr h) _ _ (aCh hrow),hb⟩
theorem Hx(s:Geo.Shape)(hf:Fit s):Sat Tryz.prog true 90 [gK s] (.int .i64 (if Geo.bV s then pN s else 0)):=by
 refine⟨by kernel_rfl,fun C w vs hC h=> ?_⟩
 unfold cG at h;obtain⟨v,r,rfl,h1,h2⟩:=h;unfold cG at h2;subst h2;obtain⟨o,ah,ch,hs,rfl,H,hch,_,rfl⟩:=vP hC hf h1;refine(Hw o ah ch hs w H hch).mono ?_;rintro e w' ⟨rfl,hb⟩;exact⟨_,rfl,by unfold bF;rfl,hb⟩
theorem Ui{w:World}{N:Nat}{v:Value}{rs:List RV}(h:w.ownsRow N 23 1 v rs.length (rs.map RV.enc))(hx:∀x∈rs,RdV w x.a x.r/\nS N x.a/\x.r.length<=x.c/\0<x.r.length):
  bF (fun b o x=>N<=b/\w.cell? ⟨b,o,none⟩=some x) (jT (rs.map RV.r)) v:=by
 have hsp:∀a c,v= .slice a rs.length c->∀ad,a=some ad->ad.spot=none:=by
  intro a c hv ad ha;rcases h.2 with⟨h1,_⟩|⟨g,cap,cur,h1,_⟩
  ·rw[h1]at hv;injection hv with e1;rw[<-e1]at ha;cases ha
  ·rw[h1]at hv;injection hv with e1;rw[<-e1]at ha;cases ha;rfl
 obtain⟨a,c,rfl,h1,h2,h3,h4⟩:=Rd.Ly h;unfold jT;rw[List.length_map];refine Am h1 h2 h3 h4 (by simp) (fun _=>hsp a c rfl) ?_
 intro i x u hi hu;rw[List.getElem?_map,List.getElem?_map]at hi;rw[List.getElem?_map]at hu;cases hr:rs[i]? with
 |none=>rw[hr]at hi;cases hi
 |some y=>
  rw[hr]at hi hu;simp only[Option.map_some,Option.some.injEq]at hi hu;subst hi hu;obtain⟨k1,k2,k3,k4⟩:=hx y (List.mem_of_getElem? hr);exact⟨rfl,aCn k1 k2 k3 k4⟩
theorem vC(s:Geo.Shape)(hf:Fit s)(hp:0<s.outer.length/\∀r∈s.holes,0<r.length):Sat Tryz.prog true 56 [gK s] (jT (Geo.aG s)):=by
 refine⟨by kernel_rfl,fun C w vs hC h=> ?_⟩
 unfold cG at h;obtain⟨v,r,rfl,h1,h2⟩:=h;unfold cG at h2;subst h2;obtain⟨o,ah,ch,hs,rfl,H,hch,_,rfl⟩:=vP hC hf h1;refine(Hl o ah ch hs w H).mono ?_;rintro e w' ⟨v,rs,rfl,hrs,hrow,hok,hb⟩;refine⟨_,rfl,bF.mono (fun b o x h=> .inr h) _ _ ?_,hb⟩
 rw[<-hrs];refine Ui hrow fun x hx=>⟨(hok x hx).rd,(hok x hx).fresh,(hok x hx).cap,?_⟩
 have hm:x.r∈Geo.aG (kB o hs):=by rw[<-hrs];exact List.mem_map.2 ⟨x,hx,rfl⟩
 unfold Geo.aG at hm;rcases List.mem_cons.1 hm with h|h
 ·rw[h];exact hp.1
 ·exact hp.2 _ h
end
def Yq{α:Type}(fr:Bool)(A:Arl α)(pre:α->List Prop)(res:α->SV):Con:=⟨α,A.dec,pre,.val fr res⟩
theorem yR{f:FuncId}{fr:Bool}{α:Type}{A:Arl α}{pre:α->List Prop}{res:α->SV}(B:α->List PV)(q:α->PV)(hB:∀x,avs (A.enc x)=(B x).map .p)(hq:∀x,(res x).av= .p (q x))(h:∀x,Nw (pre x)->Sat Tryz.prog fr f (B x) (q x)):(Yq fr A pre res).Ok Tryz.prog f:=by
 intro s x hd hp;exact⟨B x,q x,(A.ok s x hd).trans (hB x),hq x,h x (fB.2 hp)⟩
theorem Bm(l:List Geo.aC):LT.R.enc l=l.map fL:=by
 unfold LT.enc;induction l with
 |nil=>rfl
 |cons r l ih=>rw[List.flatMap_cons,ih];rfl
theorem Lg(s:Geo.Shape):avs ((a1 aSh).enc s)=[gK s].map .p:=by
 show [SV.av (.agg [.lst .V s.outer,.lst .R s.holes])] =_;show [iK [.p (.sl s.outer.length (iV s.outer)),.p (.sl s.holes.length (LT.R.enc s.holes))]] =_;rw[Bm];rfl
def c55:Con:=Yq true (a1 aSh) (fun s=>[Fit s]) (fun s=> .bool (Geo.bV s))
theorem k55:c55.Ok Tryz.prog 55:=yR (fun s=>[gK s]) (fun s=> .bool (Geo.bV s)) Lg (fun _=>rfl) fun s h=>Hn s h
def aLM:Con:=Yq true (a1 aSh) (fun s=>[Fit s]) (fun s=> .lst .S (Geo.aQ s))
theorem aNI:aLM.Ok Tryz.prog 131:=yR (fun s=>[gK s]) (fun s=>Ie (Geo.aQ s)) Lg (fun _=>rfl) fun s h=>Ho s h
def c90:Con:=Yq true (a1 aSh) (fun s=>[Fit s]) (fun s=> .int .i64 (if Geo.bV s=true then pN s else 0))
theorem k90:c90.Ok Tryz.prog 90:=yR (fun s=>[gK s]) (fun s=> .int .i64 (if Geo.bV s=true then pN s else 0)) Lg (fun _=>rfl) fun s h=>Hx s h
def c56:Con:=Yq true (a1 aSh) (fun s=>[Fit s,0<s.outer.length,∀r∈s.holes,0<r.length]) (fun s=> .lst .R (Geo.aG s))
theorem k56:c56.Ok Tryz.prog 56:=yR (fun s=>[gK s]) (fun s=>jT (Geo.aG s)) Lg (fun s=>by show AV.p (.sl _ (LT.R.enc _))=_;rw[Bm];rfl) fun s h=>vC s h.1 h.2
noncomputable def tS:Tab:=cK [(55,c55),(131,aLM),(90,c90),(56,c56)] aKB
theorem tSo:tS.Ok Tryz.prog:=aH aL9 ⟨k55,aNI,k90,k56,trivial⟩
end Go.Proofs.YtdaeofhdgabhjaaGreat
/-
  DERIVED: THE SHELF's CONTRACTS AT THIS DUMP, IN PLAIN WORDS (tools/lay-plain.mjs out of 'YtdaeofhdgabhjaaGreatLayS.lean', which tools/lay-shelf.mjs wrote): THE SAME DECLARATIONS UNDER THE SAME NAMES: 'import', 'namespace', 'open', 'def', 'theorem' AND NOTHING ELSE: no command of the shelf's: FOR A HAND-IN. Each laying: the table of numbers ('.._ren') and one theorem, a field a fact of the dump's own or the kernel's comparison; each contract: ONE APPLICATION.
-/
namespace Go.Proofs
open Go.Shelf
def Tryz.sort68_ren:Go.Shelf.Ren:=⟨fun|6=>68|15=>143|14=>142|28=>195|29=>196|20=>187|21=>188|22=>189|23=>190|24=>191|25=>192|26=>193|27=>194|46=>210|47=>211|48=>212|49=>213|50=>214|57=>226|n=>n,fun|22=>24|24=>23|25=>40|3=>3|39=>134|0=>0|53=>170|55=>172|4=>4|46=>163|45=>162|50=>167|5=>5|9=>9|66=>180|70=>184|76=>193|77=>60|n=>n,fun|n=>n⟩
theorem Tryz.sort68:Go.Proofs.SlLaysF.n6 Tryz.prog Tryz.sort68_ren:={
 mixed:=by kernel_rfl
 f6:=⟨Tryz.f68.name,by decide,Tryz.func68.trans (congrArg some (by kernel_rfl))⟩
 f14:=⟨Tryz.f142.name,by decide,Tryz.func142.trans (congrArg some (by kernel_rfl))⟩
 f15:=Tryz.func143.trans (congrArg some (by kernel_rfl))
 f20:=⟨Tryz.f187.name,by decide,Tryz.func187.trans (congrArg some (by kernel_rfl))⟩
 f21:=⟨Tryz.f188.name,by decide,Tryz.func188.trans (congrArg some (by kernel_rfl))⟩
 f22:=⟨Tryz.f189.name,by decide,Tryz.func189.trans (congrArg some (by kernel_rfl))⟩
 f23:=⟨Tryz.f190.name,by decide,Tryz.func190.trans (congrArg some (by kernel_rfl))⟩
 f24:=⟨Tryz.f191.name,by decide,Tryz.func191.trans (congrArg some (by kernel_rfl))⟩
 f25:=⟨Tryz.f192.name,by decide,Tryz.func192.trans (congrArg some (by kernel_rfl))⟩
 f26:=⟨Tryz.f193.name,by decide,Tryz.func193.trans (congrArg some (by kernel_rfl))⟩
 f27:=⟨Tryz.f194.name,by decide,Tryz.func194.trans (congrArg some (by kernel_rfl))⟩
 f28:=Tryz.func195.trans (congrArg some (by kernel_rfl))
 f29:=Tryz.func196.trans (congrArg some (by kernel_rfl))
 f46:=⟨Tryz.f210.name,by decide,Tryz.func210.trans (congrArg some (by kernel_rfl))⟩
 f47:=Tryz.func211.trans (congrArg some (by kernel_rfl))
 f48:=Tryz.func212.trans (congrArg some (by kernel_rfl))
 f49:=⟨Tryz.f213.name,by decide,Tryz.func213.trans (congrArg some (by kernel_rfl))⟩
 f50:=⟨Tryz.f214.name,by decide,Tryz.func214.trans (congrArg some (by kernel_rfl))⟩
 f57:=⟨Tryz.f226.name,by decide,Tryz.func226.trans (congrArg some (by kernel_rfl))⟩
 t0:=Tryz.underlying0
 a0:=Tryz.isAgg0
 z0:=Tryz.sizeOf0
 v0:=Tryz.zeroValue0
 t3:=Tryz.underlying3
 a3:=Tryz.isAgg3
 z3:=Tryz.sizeOf3
 v3:=Tryz.zeroValue3
 t4:=Tryz.underlying4
 a4:=Tryz.isAgg4
 z4:=Tryz.sizeOf4
 v4:=Tryz.zeroValue4
 t5:=Tryz.underlying5
 a5:=Tryz.isAgg5
 z5:=Tryz.sizeOf5
 v5:=Tryz.zeroValue5
 t9:=Tryz.underlying9
 a9:=Tryz.isAgg9
 z9:=Tryz.sizeOf9
 v9:=Tryz.zeroValue9
 t22:=Tryz.underlying24
 a22:=Tryz.isAgg24
 z22:=Tryz.sizeOf24
 v22:=Tryz.zeroValue24
 a24:=Tryz.isAgg23
 z24:=Tryz.sizeOf23
 t25:=Tryz.underlying40
 a25:=Tryz.isAgg40
 z25:=Tryz.sizeOf40
 v25:=Tryz.zeroValue40
 t39:=Tryz.underlying134
 a39:=Tryz.isAgg134
 z39:=Tryz.sizeOf134
 v39:=Tryz.zeroValue134
 t45:=Tryz.underlying162
 a45:=Tryz.isAgg162
 z45:=Tryz.sizeOf162
 v45:=Tryz.zeroValue162
 t46:=Tryz.underlying163
 a46:=Tryz.isAgg163
 z46:=Tryz.sizeOf163
 v46:=Tryz.zeroValue163
 t50:=Tryz.underlying167
 a50:=Tryz.isAgg167
 z50:=Tryz.sizeOf167
 v50:=Tryz.zeroValue167
 t53:=Tryz.underlying170
 a53:=Tryz.isAgg170
 z53:=Tryz.sizeOf170
 v53:=Tryz.zeroValue170
 t55:=Tryz.underlying172
 a55:=Tryz.isAgg172
 z55:=Tryz.sizeOf172
 v55:=Tryz.zeroValue172
 t66:=Tryz.underlying180
 a66:=Tryz.isAgg180
 z66:=Tryz.sizeOf180
 v66:=Tryz.zeroValue180
 t70:=Tryz.underlying184
 a70:=Tryz.isAgg184
 z70:=Tryz.sizeOf184
 v70:=Tryz.zeroValue184
 t76:=Tryz.underlying193
 a76:=Tryz.isAgg193
 z76:=Tryz.sizeOf193
 v76:=Tryz.zeroValue193
 t77:=Tryz.underlying60
 a77:=Tryz.isAgg60
 z77:=Tryz.sizeOf60
 v77:=Tryz.zeroValue60}
end Go.Proofs
namespace Go.Proofs.YtdaeofhdgabhjaaGreat
open Go.RowKit
set_option maxRecDepth 100000
open Geo (nth)
structure Lay(w w':World):Prop where
 below:Below w.heap.size w w'
 drawn:w.drawn<=w'.drawn
theorem Lay.refl(w:World):Lay w w:=⟨Below.refl _ _,Nat.le_refl _⟩
theorem Lay.trans{a b c:World}(h:Lay a b)(k:Lay b c):Lay a c:=⟨Below.then_ h.below k.below,Nat.le_trans h.drawn k.drawn⟩
theorem Lay.alloc{a b:World}(h:Lay a b)(x:Obj):Lay a (b.alloc x):=⟨h.below.alloc h.below.size _,h.drawn⟩
theorem Lay.drew{a b:World}(h:Lay a b):Lay a b.drew:=⟨h.below.drew,Nat.le_trans h.drawn (Nat.le_succ _)⟩
theorem Lay.grow{w w':World}(h:Lay w w'):∃q os,w'=Sort.grow (w.drewN q) os:=by
 obtain⟨p,hp⟩:=Nf h.below;refine⟨w'.drawn-w.drawn,p.os,?_⟩;have hd:=h.drawn;have hn:w'.drawn=p.n:=by rw[hp];rfl
 rw[hp];unfold grD Sort.grow World.drewN;simp only[World.mk.injEq,true_and,and_true];rw[hn]at hd;omega
set_option maxHeartbeats 2000000 in
theorem zR(ax ay bx b_y:Int)(w:World):Calls Tryz.prog 78 #[.agg #[.int .i64 ax,.int .i64 ay],.agg #[.int .i64 bx,.int .i64 b_y]] w
  fun e w'=>e= .returned (.int .i64 (oH ax ay bx b_y))/\Lay w w':=by
 have B1:=(Blk.new w 44 #[.int .i64 ax,.int .i64 ay]).alloc (.cells #[.int .i64 bx,.int .i64 b_y] 44);have B2:=Blk.new (w.alloc (.cells #[.int .i64 ax,.int .i64 ay] 44)) 44 #[.int .i64 bx,.int .i64 b_y];have hL:Lay w ((w.alloc (.cells #[.int .i64 ax,.int .i64 ay] 44)).alloc (.cells #[.int .i64 bx,.int .i64 b_y] 44)):=((Lay.refl w).alloc _).alloc _;rw[World.size_alloc]at B2
 go_enter Tryz.func78,Tryz.ntmps78
 go_upto_region 1 with fail
 generalize (w.alloc (.cells #[.int .i64 ax,.int .i64 ay] 44)).alloc (.cells #[.int .i64 bx,.int .i64 b_y] 44)=W at B1 B2 hL|-;refine uL (by kernel_rfl) [4,5,6,7,8,9,10,11,12,13,14,15,16] [[],[0],[],[2],[0,1,2,3],[],[5],[],[7],[0,1,2,3,4,5,6,7,8],[0,1,2,3,4,5,6,7,8,9],[0,1,2,3,4,5,6,7,8,9,10],[0,1,2,3,4,5,6,7,8,9,10,11]] (by kernel_rfl) (by kernel_rfl) (by intro s hs;simp at hs|-;omega)
  (fun D wx=>Lay W wx)
  (fun i v wx=>match i with
    |0=>v= .pointer (some ⟨w.heap.size,1,none⟩)
    |1=>v= .int .i64 ay
    |2=>v= .pointer (some ⟨w.heap.size+1,1,none⟩)
    |3=>v= .int .i64 b_y
    |4=>v= .int .i64 (fV ay b_y)
    |5=>v= .pointer (some ⟨w.heap.size,0,none⟩)
    |6=>v= .int .i64 ax
    |7=>v= .pointer (some ⟨w.heap.size+1,0,none⟩)
    |8=>v= .int .i64 bx
    |9=>v= .int .i64 (fV ax bx)
    |10=>∃g,v= .slice (some ⟨g,0,none⟩) 2 2/\Blk wx g 3 #[.int .i64 (fV ay b_y),.int .i64 (fV ax bx)]
    |11=>v= .int .i64 (oH ax ay bx b_y)
    |12=>v= .int .i64 (oH ax ay bx b_y)
    |_=>True)
  (Lay.refl _).drew ?_ ?_ ?_
 ·intro j v wx wy hf hxy;match j with
  |0=>exact hf
  |1=>exact hf
  |2=>exact hf
  |3=>exact hf
  |4=>exact hf
  |5=>exact hf
  |6=>exact hf
  |7=>exact hf
  |8=>exact hf
  |9=>exact hf
  |10=>obtain⟨g,h1,h2⟩:=hf;exact⟨g,h1,h2.then_ hxy⟩
  |11=>exact hf
  |12=>exact hf
  |_+13=>exact trivial
 ·refine⟨?_,?_,?_,?_,?_,?_,?_,?_,?_,?_,?_,?_,?_,trivial⟩
  ·intro D V wx hD hanc hdesc hin hWR;have hA:=hWR;have e2:=hin 2 (by kernel_rfl)
   simp at e2;refine opK ?_;intro K hK;simp[cC,execOp,bI,e2,go_sem];exact hK _ _ ⟨rfl,hWR,.inl rfl⟩
  ·intro D V wx hD hanc hdesc hin hWR;have hA:=hWR;have e5:V 5= .pointer (some ⟨w.heap.size,1,none⟩):=(hanc 0 (by kernel_rfl)).2
   have q0:=(Blk.then_ B1 hA.below).cell 1;simp at q0;refine opK ?_;intro K hK;simp[cC,execOp,bI,e5,q0,go_sem];exact hK _ _ ⟨rfl,hWR,.inl rfl⟩
  ·intro D V wx hD hanc hdesc hin hWR;have hA:=hWR;have e3:=hin 3 (by kernel_rfl)
   simp at e3;refine opK ?_;intro K hK;simp[cC,execOp,bI,e3,go_sem];exact hK _ _ ⟨rfl,hWR,.inl rfl⟩
  ·intro D V wx hD hanc hdesc hin hWR;have hA:=hWR;have e7:V 7= .pointer (some ⟨w.heap.size+1,1,none⟩):=(hanc 2 (by kernel_rfl)).2
   have q0:=(Blk.then_ B2 hA.below).cell 1;simp at q0;refine opK ?_;intro K hK;simp[cC,execOp,bI,e7,q0,go_sem];exact hK _ _ ⟨rfl,hWR,.inl rfl⟩
  ·intro D V wx hD hanc hdesc hin hWR;have hA:=hWR;have e6:V 6= .int .i64 ay:=(hanc 1 (by kernel_rfl)).2
   have e8:V 8= .int .i64 b_y:=(hanc 3 (by kernel_rfl)).2
   refine opK ?_;intro K hK;simp[cC,execOp,bI,e6,e8,go_sem];refine(Yf _ _ _).mono ?_;rintro e w1 ⟨rfl,rfl⟩;exact⟨_,rfl,hK _ _ ⟨rfl,hWR,.inl rfl⟩⟩
  ·intro D V wx hD hanc hdesc hin hWR;have hA:=hWR;have e2:=hin 2 (by kernel_rfl)
   simp at e2;refine opK ?_;intro K hK;simp[cC,execOp,bI,e2,go_sem];exact hK _ _ ⟨rfl,hWR,.inl rfl⟩
  ·intro D V wx hD hanc hdesc hin hWR;have hA:=hWR;have e10:V 10= .pointer (some ⟨w.heap.size,0,none⟩):=(hanc 5 (by kernel_rfl)).2
   have q0:=(Blk.then_ B1 hA.below).cell 0;simp at q0;refine opK ?_;intro K hK;simp[cC,execOp,bI,e10,q0,go_sem];exact hK _ _ ⟨rfl,hWR,.inl rfl⟩
  ·intro D V wx hD hanc hdesc hin hWR;have hA:=hWR;have e3:=hin 3 (by kernel_rfl)
   simp at e3;refine opK ?_;intro K hK;simp[cC,execOp,bI,e3,go_sem];exact hK _ _ ⟨rfl,hWR,.inl rfl⟩
  ·intro D V wx hD hanc hdesc hin hWR;have hA:=hWR;have e12:V 12= .pointer (some ⟨w.heap.size+1,0,none⟩):=(hanc 7 (by kernel_rfl)).2
   have q0:=(Blk.then_ B2 hA.below).cell 0;simp at q0;refine opK ?_;intro K hK;simp[cC,execOp,bI,e12,q0,go_sem];exact hK _ _ ⟨rfl,hWR,.inl rfl⟩
  ·intro D V wx hD hanc hdesc hin hWR;have hA:=hWR;have e11:V 11= .int .i64 ax:=(hanc 6 (by kernel_rfl)).2
   have e13:V 13= .int .i64 bx:=(hanc 8 (by kernel_rfl)).2
   refine opK ?_;intro K hK;simp[cC,execOp,bI,e11,e13,go_sem];refine(Yf _ _ _).mono ?_;rintro e w1 ⟨rfl,rfl⟩;exact⟨_,rfl,hK _ _ ⟨rfl,hWR,.inl rfl⟩⟩
  ·intro D V wx hD hanc hdesc hin hWR;have hA:=hWR;have e9:V 9= .int .i64 (fV ay b_y):=(hanc 4 (by kernel_rfl)).2
   have e14:V 14= .int .i64 (fV ax bx):=(hanc 9 (by kernel_rfl)).2
   refine opK ?_;intro K hK;simp[cC,execOp,bI,e9,e14,go_sem];exact hK _ _ ⟨⟨_,rfl,Blk.new _ _ _⟩,(hA.alloc _),.inr (.inl ((Below.refl _ _).alloc (Nat.le_refl _) _))⟩
  ·intro D V wx hD hanc hdesc hin hWR;have hA:=hWR;have e15:=(hanc 10 (by kernel_rfl)).2
   refine opK ?_;intro K hK;obtain⟨g,e15,hg⟩:=e15;have e15:V 15=_:=e15;have q0:=hg.cell 0;have q1:=hg.cell 1;simp at q0 q1;simp[cC,execOp,bI,e15,go_sem];refine(aHZ _ _ _ _ q0 q1).mono ?_;rintro e w1 ⟨rfl,rfl⟩;exact⟨_,rfl,hK _ _ ⟨rfl,hWR,.inl rfl⟩⟩
  ·intro D V wx hD hanc hdesc hin hWR;have hA:=hWR;have e16:V 16= .int .i64 (oH ax ay bx b_y):=(hanc 11 (by kernel_rfl)).2
   refine opK ?_;intro K hK;simp[cC,execOp,bI,e16,go_sem];exact hK _ _ ⟨rfl,hWR,.inl rfl⟩
 intro D V wx hall hf hWR;have f0:V 5= .pointer (some ⟨w.heap.size,1,none⟩):=hf 0 (by decide)
 have f1:V 6= .int .i64 ay:=hf 1 (by decide)
 have f2:V 7= .pointer (some ⟨w.heap.size+1,1,none⟩):=hf 2 (by decide)
 have f3:V 8= .int .i64 b_y:=hf 3 (by decide)
 have f4:V 9= .int .i64 (fV ay b_y):=hf 4 (by decide)
 have f5:V 10= .pointer (some ⟨w.heap.size,0,none⟩):=hf 5 (by decide)
 have f6:V 11= .int .i64 ax:=hf 6 (by decide)
 have f7:V 12= .pointer (some ⟨w.heap.size+1,0,none⟩):=hf 7 (by decide)
 have f8:V 13= .int .i64 bx:=hf 8 (by decide)
 have f9:V 14= .int .i64 (fV ax bx):=hf 9 (by decide)
 have f10:=hf 10 (by decide)
 have f11:V 16= .int .i64 (oH ax ay bx b_y):=hf 11 (by decide)
 have f12:V 4= .int .i64 (oH ax ay bx b_y):=hf 12 (by decide)
 clear hf hall;simp only[eL,List.foldl_cons,List.foldl_nil,f0,f1,f2,f3,f4,f5,f6,f7,f8,f9,f11,f12];simp only[Act.put,List.setIfInBounds_toArray,List.set_cons_succ,List.set_cons_zero];clear f0 f1 f2 f3 f4 f5 f6 f7 f8 f9 f11 f12
 go_wp2
 go_ret
 exact⟨rfl,hL.trans hWR⟩
def So(x y:Geo.aC):Int:=oH (nth x 0).x (nth x 0).y (nth y 0).x (nth y 0).y
set_option maxHeartbeats 2000000 in
theorem Vn(xa ya:Option Addr)(xc yc:Nat)(xs ys:Geo.aC)(w:World)(hx:RdV w xa xs)(hy:RdV w ya ys)(h0:0<xs.length)(h1:0<ys.length)(_hlx:xs.length<=1000)(_hly:ys.length<=1000):
  Calls Tryz.prog 127 #[.slice xa xs.length xc,.slice ya ys.length yc] w fun e w'=>e= .returned (.int .i64 (So xs ys))/\Lay w w':=by
 obtain⟨b,off,rfl,hb,p0,p1⟩:=hx 0 h0;obtain⟨b',off',rfl,hb',q0,q1⟩:=hy 0 h1;have HC:Hid (So xs ys=oH (nth xs 0).x (nth xs 0).y (nth ys 0).x (nth ys 0).y):=Lib.hid rfl;generalize (nth xs 0).x=ax at p0 HC;generalize (nth xs 0).y=ay at p1 HC;generalize (nth ys 0).x=bx at q0 HC;generalize (nth ys 0).y=b_y at q1 HC;simp only[Nat.zero_mul,Nat.add_zero]at p0 p1 q0 q1
 go_enter Tryz.func127,Tryz.ntmps127
 go_upto_region 1 with fail
 have r0:=Lib.hid p0;have r1:=Lib.hid p1;have r2:=Lib.hid q0;have r3:=Lib.hid q1;clear p0 p1 q0 q1;refine uL (by kernel_rfl) [4,5,6,7,8,9,10,11] [[],[0],[0,1],[],[3],[3,4],[0,1,2,3,4,5],[0,1,2,3,4,5,6]] (by kernel_rfl) (by kernel_rfl) (by intro s hs;simp at hs|-;omega)
  (fun D wx=>Lay w wx)
  (fun i v wx=>match i with
    |0=>v= .slice (some ⟨b,off,none⟩) xs.length xc
    |1=>v= .pointer (some ⟨b,off,none⟩)
    |2=>v= .agg #[.int .i64 ax,.int .i64 ay]
    |3=>v= .slice (some ⟨b',off',none⟩) ys.length yc
    |4=>v= .pointer (some ⟨b',off',none⟩)
    |5=>v= .agg #[.int .i64 bx,.int .i64 b_y]
    |6=>v= .int .i64 (oH ax ay bx b_y)
    |7=>v= .int .i64 (oH ax ay bx b_y)
    |_=>True)
  (Lay.refl _).drew ?_ ?_ ?_
 ·intro j v wx wy hf hxy;match j with
  |0=>exact hf
  |1=>exact hf
  |2=>exact hf
  |3=>exact hf
  |4=>exact hf
  |5=>exact hf
  |6=>exact hf
  |7=>exact hf
  |_+8=>exact trivial
 ·refine⟨?_,?_,?_,?_,?_,?_,?_,?_,trivial⟩
  ·intro D V wx hD hanc hdesc hin hWR;have hA:=hWR;have e0:=hin 0 (by kernel_rfl)
   simp at e0;refine opK ?_;intro K hK;simp[cC,execOp,bI,e0,go_sem];exact hK _ _ ⟨rfl,hWR,.inl rfl⟩
  ·intro D V wx hD hanc hdesc hin hWR;have hA:=hWR;have e5:V 5= .slice (some ⟨b,off,none⟩) xs.length xc:=(hanc 0 (by kernel_rfl)).2
   refine opK ?_;intro K hK;simp[cC,execOp,bI,e5,h0,go_sem];exact hK _ _ ⟨rfl,hWR,.inl rfl⟩
  ·intro D V wx hD hanc hdesc hin hWR;have hA:=hWR;have e6:V 6= .pointer (some ⟨b,off,none⟩):=(hanc 1 (by kernel_rfl)).2
   have s0:=(hA.below.cell (p:=⟨b,off,none⟩) hb).trans r0.out;have s1:=(hA.below.cell (p:=⟨b,off+1,none⟩) hb).trans r1.out;refine opK ?_;intro K hK;simp[cC,execOp,bI,e6,s0,s1,go_sem];exact hK _ _ ⟨rfl,hWR,.inl rfl⟩
  ·intro D V wx hD hanc hdesc hin hWR;have hA:=hWR;have e1:=hin 1 (by kernel_rfl)
   simp at e1;refine opK ?_;intro K hK;simp[cC,execOp,bI,e1,go_sem];exact hK _ _ ⟨rfl,hWR,.inl rfl⟩
  ·intro D V wx hD hanc hdesc hin hWR;have hA:=hWR;have e8:V 8= .slice (some ⟨b',off',none⟩) ys.length yc:=(hanc 3 (by kernel_rfl)).2
   refine opK ?_;intro K hK;simp[cC,execOp,bI,e8,h1,go_sem];exact hK _ _ ⟨rfl,hWR,.inl rfl⟩
  ·intro D V wx hD hanc hdesc hin hWR;have hA:=hWR;have e9:V 9= .pointer (some ⟨b',off',none⟩):=(hanc 4 (by kernel_rfl)).2
   have s0:=(hA.below.cell (p:=⟨b',off',none⟩) hb').trans r2.out;have s1:=(hA.below.cell (p:=⟨b',off'+1,none⟩) hb').trans r3.out;refine opK ?_;intro K hK;simp[cC,execOp,bI,e9,s0,s1,go_sem];exact hK _ _ ⟨rfl,hWR,.inl rfl⟩
  ·intro D V wx hD hanc hdesc hin hWR;have hA:=hWR;have e7:V 7= .agg #[.int .i64 ax,.int .i64 ay] :=(hanc 2 (by kernel_rfl)).2
   have e10:V 10= .agg #[.int .i64 bx,.int .i64 b_y] :=(hanc 5 (by kernel_rfl)).2
   refine opK ?_;intro K hK;simp[cC,execOp,bI,e7,e10,go_sem];refine(zR ax ay bx b_y wx).mono ?_;rintro e w1 ⟨rfl,hc⟩;exact⟨_,rfl,hK _ _ ⟨rfl,hA.trans hc,.inr (.inl hc.below)⟩⟩
  ·intro D V wx hD hanc hdesc hin hWR;have hA:=hWR;have e11:V 11= .int .i64 (oH ax ay bx b_y):=(hanc 6 (by kernel_rfl)).2
   refine opK ?_;intro K hK;simp[cC,execOp,bI,e11,go_sem];exact hK _ _ ⟨rfl,hWR,.inl rfl⟩
 intro D V wx hall hf hWR;have f0:V 5= .slice (some ⟨b,off,none⟩) xs.length xc:=hf 0 (by decide)
 have f1:V 6= .pointer (some ⟨b,off,none⟩):=hf 1 (by decide)
 have f2:V 7= .agg #[.int .i64 ax,.int .i64 ay] :=hf 2 (by decide)
 have f3:V 8= .slice (some ⟨b',off',none⟩) ys.length yc:=hf 3 (by decide)
 have f4:V 9= .pointer (some ⟨b',off',none⟩):=hf 4 (by decide)
 have f5:V 10= .agg #[.int .i64 bx,.int .i64 b_y] :=hf 5 (by decide)
 have f6:V 11= .int .i64 (oH ax ay bx b_y):=hf 6 (by decide)
 have f7:V 4= .int .i64 (oH ax ay bx b_y):=hf 7 (by decide)
 clear hf hall;simp only[eL,List.foldl_cons,List.foldl_nil,f0,f1,f2,f3,f4,f5,f6,f7];simp only[Act.put,List.setIfInBounds_toArray,List.set_cons_succ,List.set_cons_zero];clear f0 f1 f2 f3 f4 f5 f6 f7
 go_wp2
 go_ret
 exact⟨oJ HC.out.symm,hWR⟩
end Go.Proofs.YtdaeofhdgabhjaaGreat
namespace Go.Proofs.YtdaeofhdgabhjaaGreat
open Go.RowKit Go.Sort Go.Shelf Go.Lib
section
variable {α:Type} [Inhabited α]
theorem Ci{enc:α->Value}{w:World}{g n:Nat}{d:Array α}{os:Array Obj}{cur:Array Value}{t:TypeId}(hb:w.heap[g]? =some (.cells cur t (0,0))):(sortWorld enc w g 0 n d os).heap[g]? =some (.cells (putCells enc 0 d cur) t (0,0)):=by
 have hlt:=(Array.getElem?_eq_some_iff.1 hb).1;unfold sortWorld Sort.grow putRow mapBlock;simp only[heap_ahead];rw[Array.getElem?_append_left (by simpa using hlt),Array.getElem?_modify,if_pos rfl,hb]
 rfl
theorem tH{enc:α->Value}{w:World}{g n:Nat}{d:Array α}{os:Array Obj}:w.grownBy (sortWorld enc w g 0 n d os) (some g):=by
 refine⟨rfl,rfl,rfl,?_,?_⟩
 ·unfold sortWorld Sort.grow putRow mapBlock;simp
 ·intro k hk hne;unfold sortWorld Sort.grow putRow mapBlock;simp only[heap_ahead];rw[Array.getElem?_append_left (by simpa using hk),Array.getElem?_modify,if_neg (fun e=>hne (by rw[e]))]
theorem Hz{enc:α->Value}{d:Array α}{cur:Array Value}(h:d.size<=cur.size):(putCells enc 0 d cur).toList.take d.size=d.toList.map enc:=by
 apply List.ext_getElem?;intro i;rw[List.getElem?_take];by_cases hi:i<d.size
 ·rw[if_pos hi];unfold putCells;simp[hi,show i<cur.size by omega]
 ·rw[if_neg hi,List.getElem?_eq_none (by simp;omega)]
end
theorem wO(g:Nat)(hg:∀args w,(callFunc g args).run Tryz.prog w= .ok (.enter g args) w)(cf:Geo.aC->Geo.aC->Int)(base:Nat)(v:Value)(rs:List RV)(w:World)(hl:rs.length<=1000000)
  (hrow:w.ownsRow base 23 1 v rs.length (rs.map RV.enc)) (hok:∀x∈rs,RingOk base w v x) (hO:SWO (ltOf fun x y:{x:RV//x∈rs}=>cf x.1.r y.1.r))
  (hcmp:∀x∈rs,∀y∈rs,∀wx,RdV wx x.a x.r->RdV wx y.a y.r->Calls Tryz.prog g #[x.enc,y.enc] wx fun e w'=>e= .returned (.int .i64 (cf x.r y.r))/\Lay wx w'):
  Calls Tryz.prog 68 #[v,.func (.func g) #[] #[]] w fun e w'=>e= .returned (.tuple #[])/\∃rs':List RV,rs'.Perm rs/\rs'.Pairwise (fun a b=>¬cf b.r a.r<0)/\w'.ownsRow base 23 1 v rs'.length (rs'.map RV.enc)/\(∀x∈rs',RingOk base w' v x)/\w.grownBy w' v.ownBlock:=by
 by_cases hr0:rs=[]
 ·subst hr0;have hv:∃p cap,v= .slice p 0 cap:=by
   rcases hrow.2 with⟨h1,_⟩|⟨gb,cap,cur,h1,_⟩
   ·exact⟨_,_,h1⟩
   ·exact⟨_,_,h1⟩
  obtain⟨p,cap,rfl⟩:=hv;have h:=AnyF.slices_SortFunc_none (P:=Tryz.prog) (ρ:=Tryz.sort68_ren) {Tryz.sort68 with} p cap (.func (.func g) #[] #[]) w
  change Calls Tryz.prog 68 _ _ _ at h;refine h.mono ?_;rintro e w' ⟨rfl,rfl⟩;exact⟨rfl,[],List.Perm.refl _,List.Pairwise.nil,hrow,hok,⟨rfl,rfl,rfl,Nat.le_refl _,fun _ _ _=>rfl⟩⟩
 ·obtain⟨x0,hx0⟩:=List.exists_mem_of_ne_nil _ hr0;have:Inhabited {x:RV//x∈rs}:=⟨⟨x0,hx0⟩⟩;rcases hrow.2 with⟨_,h1⟩|⟨gb,cap,cur,rfl,hbb,hh,hn,hcap,hsz,htk⟩
  ·exact absurd (List.length_eq_zero_iff.1 h1) hr0
  ·obtain⟨d,hd⟩:∃d:Array {x:RV//x∈rs},d=rs.attach.toArray:=⟨_,rfl⟩;have hds:d.size=rs.length:=by rw[hd];simp
   have hdm:d.toList.map (·.1)=rs:=by rw[hd];simp
   have hcs:rs.length<=cur.size:=by rw[hsz];omega
   have hH:Holds (fun x:{x:RV//x∈rs}=>RV.enc x.1) w gb 0 d:=by
    intro j hj;have e1:cur[j]? =some (RV.enc d[j]!.1):=by
     have e2:(cur.toList.take (rs.length*1))[j]? =(rs.map RV.enc)[j]? :=by rw[htk]
     rw[List.getElem?_take,if_pos (by omega)]at e2
     have e3:(rs.map RV.enc)[j]? =some (RV.enc d[j]!.1):=by
      have e4:((d.toList.map (·.1)).map RV.enc)[j]? =some (RV.enc d[j]!.1):=by
       rw[List.map_map,List.getElem?_map];simp[hj]
      rw[hdm]at e4;exact e4
     rw[e3]at e2;simpa using e2
    refine⟨?_,?_⟩
    ·rw[Nat.zero_add];exact(cell_of_row w gb j cur 23 (0,0) hh).trans e1
    ·simp[World.frozen?,hh]
   have hblk:gb<w.heap.size:=(Array.getElem?_eq_some_iff.1 hh).1;have h:=Any.slices_SortFunc (P:=Tryz.prog) (ρ:=Tryz.sort68_ren) Tryz.sort68 (fun x:{x:RV//x∈rs}=>RV.enc x.1) (fun _=>rfl) (fun x y=>cf x.1.r y.1.r) hO g #[] gb 0 cap d w hg (by
    intro m os dk hdk x y;have hG:=tH (enc:=fun x:{x:RV//x∈rs}=>RV.enc x.1) (w:=w) (g:=gb) (n:=m) (d:=dk) (os:=os)
    have h1:=hcmp x.1 x.2 y.1 y.2 _ ((hok x.1 x.2).rd.grown (hok x.1 x.2).sep hG) ((hok y.1 y.2).rd.grown (hok y.1 y.2).sep hG);rw[show(#[RV.enc x.1,RV.enc y.1] ++(#[] :Array Value))= #[RV.enc x.1,RV.enc y.1] by simp]
    exact h1.mono fun e w' ⟨he,hL⟩=>⟨he,hL.grow⟩) hH hblk (by omega)
   change Calls Tryz.prog 68 _ _ _ at h;rw[hds]at h;refine h.mono ?_;rintro e w' ⟨rfl,d',n,os,hp,hs,rfl⟩;obtain⟨p1,_,p3⟩:=hp;have hG:=tH (enc:=fun x:{x:RV//x∈rs}=>RV.enc x.1) (w:=w) (g:=gb) (n:=n) (d:=d') (os:=os)
   have hperm:d'.toList.Perm d.toList:=by
    have e1:(d'.extract 0 rs.length).toList=d'.toList:=by rw[<-hds,<-p1];simp
    have e2:(d.extract 0 rs.length).toList=d.toList:=by rw[<-hds];simp
    rwa[e1,e2]at p3
   have hpr:(d'.toList.map (·.1)).Perm rs:=by
    have:=hperm.map (·.1)
    rwa[hdm]at this
   have hlen:(d'.toList.map (·.1)).length=rs.length:=hpr.length_eq
   refine⟨rfl,d'.toList.map (·.1),hpr,?_,?_,?_,hG⟩
   ·rw[List.pairwise_map,List.pairwise_iff_getElem];intro i j hi hj hij;have hj':j<d'.size:=by simpa using hj
    have:=hs i j (Nat.zero_le _) hij (by rw[<-hds,<-p1];exact hj')
    unfold ltOf at this;rw[getElem!_pos d' i (by omega),getElem!_pos d' j hj']at this
    simpa using this
   ·refine⟨by simp,.inr ⟨gb,cap,_,by rw[hlen],hbb,Ci hh,by omega,hcap,by unfold putCells;simpa using hsz,?_⟩⟩
    rw[hlen,Nat.mul_one,<-hds,<-p1,Hz (by omega),List.map_map]
    rfl
   ·intro x hx;have hx2:=hpr.mem_iff.1 hx;have ok:=hok x hx2;exact⟨ok.rd.grown ok.sep hG,ok.fresh,ok.cap,ok.len,ok.sep⟩
end Go.Proofs.YtdaeofhdgabhjaaGreat
namespace Go.Proofs.YtdaeofhdgabhjaaGreat
open Go.RowKit
theorem Xj(p q:Geo.V):oH p.x p.y q.x q.y=Geo.fF p q:=by
 unfold oH orI Geo.fF fV Geo.fV;grind
theorem Nj{xs ys:Geo.aC}{k:Nat}(hx:k<xs.length)(hy:k<ys.length):Geo.cY (xs.drop k) (ys.drop k)=if Geo.fF (Geo.nth xs k) (Geo.nth ys k)=0 then Geo.cY (xs.drop (k+1)) (ys.drop (k+1))else Geo.fF (Geo.nth xs k) (Geo.nth ys k):=by
 have e1:Geo.nth xs k=xs[k] :=by unfold Geo.nth;simp[List.getD_eq_getElem?_getD,hx]
 have e2:Geo.nth ys k=ys[k] :=by unfold Geo.nth;simp[List.getD_eq_getElem?_getD,hy]
 rw[List.drop_eq_getElem_cons hx,List.drop_eq_getElem_cons hy,e1,e2];by_cases h:Geo.fF xs[k] ys[k] =0
 ·rw[if_pos h];show(if Geo.fF xs[k] ys[k]≠0 then _ else _)=_
  rw[if_neg (by simpa using h)]
 ·rw[if_neg h];show(if Geo.fF xs[k] ys[k]≠0 then _ else _)=_
  rw[if_pos h]
theorem Vm{xs ys:Geo.aC}{k:Nat}(hx:k<xs.length)(hy:ys.length<=k):Geo.cY (xs.drop k) (ys.drop k)=1:=by
 rw[List.drop_eq_getElem_cons hx,List.drop_eq_nil_of_le hy];rfl
theorem Sd{xs ys:Geo.aC}{k:Nat}(hx:xs.length<=k)(hk:k<=xs.length):Geo.cY (xs.drop k) (ys.drop k)=if xs.length<ys.length then-1 else 0:=by
 rw[List.drop_eq_nil_of_le hx];by_cases h:xs.length<ys.length
 ·rw[if_pos h,List.drop_eq_getElem_cons (show k<ys.length by omega)];rfl
 ·rw[if_neg h,List.drop_eq_nil_of_le (show ys.length<=k by omega)];rfl
set_option maxRecDepth 100000 in
set_option maxHeartbeats 2000000 in
theorem Cn(xa ya:Option Addr)(xc yc:Nat)(xs ys:Geo.aC)(w:World)(hx:RdV w xa xs)(hy:RdV w ya ys)(hlx:xs.length<=1000)(_hly:ys.length<=1000):
  Calls Tryz.prog 77 #[.slice xa xs.length xc,.slice ya ys.length yc,.func (.func 78) #[] #[]] w fun e w'=>e= .returned (.int .i64 (Geo.cY xs ys))/\Lay w w':=by
 go_enter Tryz.func77,Tryz.ntmps77
 go_wp2
 go_loopw [7,8,9,10,13] (fun _ _ _ _ i wr=>∃k:Nat,k<=xs.length/\i= .int .i64 k/\Hid (Geo.cY xs ys=Geo.cY (xs.drop k) (ys.drop k))/\Lay w wr) (fun _ _ _ _ i _=>xs.length-(intOf i).toNat)
 case atStart=>exact⟨0,by omega,rfl,Lib.hid (by simp),Lay.refl _⟩
 case round=>
  obtain⟨k,hk,rfl,HF,hb⟩:=hrel;by_cases hlt:k<xs.length
  ·obtain⟨b,off,rfl,hbl,p0,p1⟩:=(hx.below hb.below) k hlt;by_cases hly2:k<ys.length
   ·obtain⟨b',off',rfl,hbl',q0,q1⟩:=(hy.below hb.below) k hly2;have HS:=Lib.hid (HF.out.trans (Nj hlt hly2));obtain⟨⟨ax,ay⟩,hz⟩:∃z,z=Geo.nth xs k:=⟨_,rfl⟩;obtain⟨⟨bx,b_y⟩,hz'⟩:∃z,z=Geo.nth ys k:=⟨_,rfl⟩;rw[<-hz]at p0 p1;rw[<-hz']at q0 q1;rw[<-hz,<-hz']at HS;dsimp only at p0 p1 q0 q1;clear hz hz';have q0':(wr.alloc (.cells #[.int .i64 ax,.int .i64 ay] 44)).cell? ⟨b',off'+k*2,none⟩=some (.int .i64 bx):=(((Below.refl _ wr).alloc (Nat.le_refl _) _).cell (p:=⟨b',_,none⟩) hbl').trans q0;have q1':(wr.alloc (.cells #[.int .i64 ax,.int .i64 ay] 44)).cell? ⟨b',off'+k*2+1,none⟩=some (.int .i64 b_y):=(((Below.refl _ wr).alloc (Nat.le_refl _) _).cell (p:=⟨b',_,none⟩) hbl').trans q1;have hne:¬ys.length<=k:=by omega
    go_wp2_with fail
    refine(zR ax ay bx b_y _).mono ?_;rintro e w1 ⟨rfl,hb1⟩;have HC:Hid (oH ax ay bx b_y=Geo.fF ⟨ax,ay⟩ ⟨bx,b_y⟩):=Lib.hid (Xj ⟨ax,ay⟩ ⟨bx,b_y⟩);rw[HC.out];have hb2:=((hb.alloc (.cells #[.int .i64 ax,.int .i64 ay] 44)).alloc (.cells #[.int .i64 bx,.int .i64 b_y] 44)).trans hb1;clear HC hb1 p0 p1 q0 q1 q0' q1';generalize Geo.fF ⟨ax,ay⟩ ⟨bx,b_y⟩=C at HS|-;by_cases hc:C=0
    ·subst hc;have HS2:Hid (Geo.cY xs ys=Geo.cY (xs.drop (k+1)) (ys.drop (k+1))):=Lib.hid (HS.out.trans (if_pos rfl))
     go_wp2
     go_roundw
     case rel=>exact⟨k+1,by omega,by go_num,HS2,hb2⟩
     case measure=>simp[intOf];omega
    ·have HS2:Hid (Geo.cY xs ys=C):=Lib.hid (HS.out.trans (if_neg hc));have e1:(C !=0)=true:=by simp[hc]
     have e2:(C==0)=false:=by simp[hc]
     go_wp2
     go_ret
     exact⟨oJ HS2.out.symm,hb2⟩
   ·have HS:=Lib.hid (HF.out.trans (Vm hlt (show ys.length<=k by omega)))
    go_wp2
    go_ret
    exact⟨oJ HS.out.symm,hb.alloc _⟩
  ·have HS:=Lib.hid (HF.out.trans (Sd (show xs.length<=k by omega) hk))
   by_cases hq:xs.length<ys.length
   ·have HS2:=Lib.hid (HS.out.trans (if_pos hq))
    go_wp2
    go_ret
    exact⟨oJ HS2.out.symm,hb⟩
   ·have HS2:=Lib.hid (HS.out.trans (if_neg hq))
    go_wp2
    go_ret
    exact⟨oJ HS2.out.symm,hb⟩
set_option maxHeartbeats 400000 in
theorem Cm(xa ya:Option Addr)(xc yc:Nat)(xs ys:Geo.aC)(w:World)(hx:RdV w xa xs)(hy:RdV w ya ys)(hlx:xs.length<=1000)(hly:ys.length<=1000):
  Calls Tryz.prog 26 #[.slice xa xs.length xc,.slice ya ys.length yc] w fun e w'=>e= .returned (.int .i64 (Geo.cY xs ys))/\Lay w w':=by
 go_enter Tryz.func26,Tryz.ntmps26
 go_wp2_with (go_at_call 77;(with_reducible refine(Cn _ _ _ _ _ _ _ hx hy hlx hly).mono ?_);rintro e w1 ⟨rfl,hb1⟩)
 go_ret
 exact⟨rfl,hb1⟩
end Go.Proofs.YtdaeofhdgabhjaaGreat
namespace Go.Proofs.YtdaeofhdgabhjaaGreat
open Go.RowKit
theorem Sc{rs:List RV}:Sort.SWO (ltOf fun x y:{x:RV//x∈rs}=>Geo.cY x.1.r y.1.r):=by
 have h:∀x y:{x:RV//x∈rs},ltOf (fun x y:{x:RV//x∈rs}=>Geo.cY x.1.r y.1.r) x y=true↔Geo.cY x.1.r y.1.r<0:=by
  intro x y;unfold ltOf;rw[decide_eq_true_eq]
 refine⟨?_,?_,?_⟩
 ·intro x;rw[Bool.eq_false_iff,ne_eq,h];have:=Geo.Nk x.1.r;omega
 ·intro x y z h1 h2;rw[h]at*;exact Geo.rD _ _ _ h1 h2
 ·intro x y z h1 h2;rw[Bool.eq_false_iff,ne_eq,h]at*;have e1:=Geo.iC x.1.r y.1.r;have e2:=Geo.iC y.1.r z.1.r;have e3:=Geo.iC x.1.r z.1.r;have:= @Geo.zP z.1.r y.1.r x.1.r;unfold Geo.jV at this;omega
theorem Vl{a b:Geo.aC}(h:¬Geo.cY b a<0):Geo.jV a b:=by
 have:=Geo.iC a b;unfold Geo.jV;omega
theorem Zt{C:cE}{w:World}{b:Nat}(hC:∀b' o v,C b' o v->w.cell? ⟨b',o,none⟩=some v/\b'≠b){r:List Geo.V}{v:Value}(h:bF C (fL r) v):
  ∃a c,v= .slice a r.length c/\RdV w a r/\r.length<=c/\(0<r.length->∀ad,a=some ad->ad.block≠b):=by
 obtain⟨a,c,hv,h1,h2,_⟩:=Em (fun b' o v h=>(hC b' o v h).1) h
 refine⟨a,c,hv,h1,h2,fun h0 ad ha=> ?_⟩
 unfold fL bF at h;obtain⟨a',c',hv',_,_,h3⟩:=h;rw[hv]at hv';simp only[Value.slice.injEq,true_and]at hv';obtain⟨rfl,rfl⟩:=hv';obtain⟨_,h5⟩:=h3 _ ha;have hl:0<(iV r).length:=by rw[Ic.length];omega
 obtain⟨u,h6,_⟩:=h5.get _ _ _ 0 _ (List.getElem?_eq_getElem hl);exact(hC _ _ _ h6).2
structure RingIn(C:cE)(w:World)(b:Nat)(x:RV):Prop where
 rep:bF C (fL x.r) x.enc
 rd:RdV w x.a x.r
 cap:x.r.length<=x.c
 sep:0<x.r.length->∀ad,x.a=some ad->ad.block≠b
theorem Jb{C:cE}{w:World}{b:Nat}(hC:∀b' o v,C b' o v->w.cell? ⟨b',o,none⟩=some v/\b'≠b):∀(l:List Geo.aC) (us:List Value),
  (∀(i:Nat) x,(l.map fL)[i]? =some x->∃v,us[i]? =some v/\bF C x v)->∃rs:List RV,rs.map RV.r=l/\rs.map RV.enc=us.take l.length/\∀x∈rs,RingIn C w b x
 |[],us,_=>⟨[],rfl,by simp,by simp⟩
 |r::l,us,h=>by
  obtain⟨v,h1,h2⟩:=h 0 (fL r) rfl;cases us with
  |nil=>simp at h1
  |cons u us=>
   simp at h1;subst h1;obtain⟨rs,h3,h4,h5⟩:=Jb hC l us fun i x hi=>by simpa using h (i+1) x (by simpa using hi)
   obtain⟨a,c,rfl,g1,g2,g3⟩:=Zt hC h2;refine⟨⟨a,c,r⟩::rs,by simp[h3],by simp[h4,RV.enc],?_⟩
   intro x hx;rcases List.mem_cons.1 hx with rfl|hx
   ·exact⟨h2,g1,g2,g3⟩
   ·exact h5 x hx
theorem Vb{w w':World}(h:w.grownBy w' none):Below w.heap.size w w':=⟨h.os,h.tape,h.output,h.size,fun k hk=>h.block k hk (by simp)⟩
theorem aMd(args:Array Value)(w:World):(callFunc 26 args).run Tryz.prog w= .ok (.enter 26 args) w:=mS (by kernel_rfl) args w
theorem aH4{rs:List RV}(h:∀x∈rs,x.r.length<=1000):∀x∈rs,∀y∈rs,∀wx,RdV wx x.a x.r->RdV wx y.a y.r->Calls Tryz.prog 26 #[x.enc,y.enc] wx fun e w'=>e= .returned (.int .i64 (Geo.cY x.r y.r))/\Lay wx w':=
 fun x hx y hy wx h1 h2=>Cm x.a y.a x.c y.c x.r y.r wx h1 h2 (h x hx) (h y hy)
theorem Iz(g:Nat)(hg:∀args w,(callFunc g args).run Tryz.prog w= .ok (.enter g args) w)(cf:Geo.aC->Geo.aC->Int)(l m:List Geo.aC)(hn:l.length<=1000000)(hl:∀r∈l,r.length<=1000)(hlen:m.length=l.length)
  (hO:∀rs:List RV,rs.map RV.r=l->Sort.SWO (ltOf fun x y:{x:RV//x∈rs}=>cf x.1.r y.1.r))
  (hc:∀rs:List RV,rs.map RV.r=l->∀x∈rs,∀y∈rs,∀wx,RdV wx x.a x.r->RdV wx y.a y.r->Calls Tryz.prog g #[x.enc,y.enc] wx fun e w'=>e= .returned (.int .i64 (cf x.r y.r))/\Lay wx w')
  (hu:∀k:List Geo.aC,k.Perm l->k.Pairwise (fun a b=>¬cf b a<0)->k=m):xT Tryz.prog 68 (some l.length) [.fn (.func g) [] []] 23 1 (l.map fL) (m.map fL):=by
 have hfn:∀(C:cE) (vs:List Value),cG C [.fn (.func g) [] []] vs->vs=[.func (.func g) #[] #[]] :=by
  intro C vs h;unfold cG at h;obtain⟨v,r,rfl,h1,h2⟩:=h;unfold cG at h2;subst h2;unfold bF at h1;obtain⟨a,b,rfl,h3,h4⟩:=h1;unfold cG at h3 h4;subst h3;subst h4;rfl
 refine⟨by kernel_rfl,by simp[hlen],?_,?_⟩
 ·intro C w b c arr vs hC hL hnc hA;rw[hfn C vs hA];have hnc:=hnc _ rfl;obtain⟨h1,h2,h3⟩:=hL.row (by decide)
  obtain⟨rs,g1,g2,g3⟩:=Jb hC l arr.toList fun i x hi=>by
   obtain⟨v,k1,_,k2⟩:=hL.cells i x hi;exact⟨v,by simpa using k1,k2⟩
  have hrl:rs.length=l.length:=by rw[<-g1,List.length_map]
  have hr1:∀x∈rs,x.r.length<=1000:=fun x hx=>hl _ (by rw[<-g1];exact List.mem_map_of_mem hx)
  have hrow:w.ownsRow 0 23 1 (.slice (some ⟨b,0,none⟩) l.length c) rs.length (rs.map RV.enc):=
   ⟨by simp,.inr ⟨b,c,arr,by rw[hrl],Nat.zero_le _,hL.blk,by omega,h3,h1,by rw[Nat.mul_one,hrl,g2]⟩⟩
  refine(wO g hg cf 0 _ rs w (by omega) hrow ?_ (hO rs g1) (hc rs g1)).mono ?_
  ·intro x hx;refine⟨(g3 x hx).rd,fun ad _=>Nat.zero_le _,(g3 x hx).cap,hr1 x hx,fun h0 ad ha e=>(g3 x hx).sep h0 ad ha ?_⟩
   simp only[Value.ownBlock,Option.some.injEq]at e;exact e.symm
  ·rintro e w' ⟨rfl,rs',hp,hs,hrow',hok',hg⟩;have hso:rs'.map RV.r=m:=by
    refine hu _ (by rw[<-g1];exact hp.map _) ?_
    rw[List.pairwise_map];exact hs
   obtain⟨hz,hcase⟩:=hrow';rcases hcase with⟨e,_⟩|⟨gb,cap,cur,e,_,hblk,hnc',hcm,hsz,htk⟩
   ·cases e
   ·simp only[Value.slice.injEq,Option.some.injEq,Addr.mk.injEq,and_true]at e;obtain⟨rfl,e2,rfl⟩:=e;refine⟨cur,rfl,⟨hblk,fun h=>absurd h (by decide),fun _=>⟨hsz,by rw[List.length_map,hlen];omega,hcm⟩,?_⟩,hg⟩
    intro i x hi;rw[<-hso,List.map_map]at hi;rw[List.getElem?_map]at hi;cases hx:rs'[i]? with
    |none=>rw[hx]at hi;cases hi
    |some y=>
     rw[hx]at hi;simp only[Option.map_some,Option.some.injEq,Function.comp]at hi;subst hi;have hi':i<rs'.length:=(List.getElem?_eq_some_iff.1 hx).1;have hy:y∈rs:=hp.mem_iff.1 (List.mem_of_getElem? hx);have h7:(rs'.map RV.enc)[i]? =some y.enc:=by rw[List.getElem?_map,hx];rfl
     rw[<-htk,List.getElem?_take_of_lt (by omega)]at h7
     exact⟨y.enc,by simpa using h7,rfl,(g3 y hy).rep⟩
 ·intro h0 C w vs hC hA;rw[hfn C vs hA];have hl0:l=[] :=List.length_eq_zero_iff.1 (by simpa using h0)
  subst hl0;refine(wO g hg cf 0 (.slice none 0 0) [] w (by simp) ⟨by simp,.inl ⟨rfl,rfl⟩⟩ (by simp) (hO [] rfl) (hc [] rfl)).mono ?_
  rintro e w' ⟨rfl,rs',_,_,_,_,hg⟩;exact⟨rfl,Vb hg⟩
theorem Yg(a b:Geo.aC):So a b<0↔Geo.bX (Geo.nth a 0) (Geo.nth b 0)=true:=by
 unfold So;rw[Xj];exact yT _ _
theorem aHT(args:Array Value)(w:World):(callFunc 127 args).run Tryz.prog w= .ok (.enter 127 args) w:=mS (by kernel_rfl) args w
theorem aCY{rs:List RV}:Sort.SWO (ltOf fun x y:{x:RV//x∈rs}=>So x.1.r y.1.r):=by
 have h:∀x y:{x:RV//x∈rs},ltOf (fun x y:{x:RV//x∈rs}=>So x.1.r y.1.r) x y=true↔Geo.bX (Geo.nth x.1.r 0) (Geo.nth y.1.r 0)=true:=by
  intro x y;unfold ltOf;rw[decide_eq_true_eq,Yg]
 refine⟨?_,?_,?_⟩
 ·intro x;rw[Bool.eq_false_iff,ne_eq,h,Js];simp
 ·intro x y z h1 h2;rw[h]at*;revert h1 h2;unfold Geo.bX;grind
 ·intro x y z h1 h2;rw[Bool.eq_false_iff,ne_eq,h]at*;revert h1 h2;unfold Geo.bX;grind
theorem Ug(l:List Geo.aC)(hn:l.length<=1000000)(hl:∀r∈l,r.length<=1000):xT Tryz.prog 68 (some l.length) [.fn (.func 26) [] []] 23 1 (l.map fL) ((Geo.xV l).map fL):=
 Iz 26 aMd Geo.cY l _ hn hl (Geo.lV l).length_eq (fun _ _=>Sc) (fun rs hr=>aH4 fun x hx=>hl _ (by rw[<-hr];exact List.mem_map_of_mem hx))
  fun k hp hs=>Geo.My hp (hs.imp fun h=>Vl h)
theorem Ri(l:List Geo.aC)(hn:l.length<=1000000)(hl:∀r∈l,0<r.length/\r.length<=1000)(ha:∀a∈l,∀b∈l,Geo.leH a b->Geo.leH b a->a=b):xT Tryz.prog 68 (some l.length) [.fn (.func 127) [] []] 23 1 (l.map fL) ((Geo.xX l).map fL):=by
 have hm:∀rs:List RV,rs.map RV.r=l->∀x∈rs,x.r∈l:=fun rs hr x hx=>by rw[<-hr];exact List.mem_map_of_mem hx
 refine Iz 127 aHT So l _ hn (fun r hr=>(hl r hr).2) (Geo.iH l).length_eq (fun _ _=>aCY) (fun rs hr x hx y hy wx h1 h2=> ?_) fun k hp hs=> ?_
 ·have g1:=hl _ (hm rs hr x hx);have g2:=hl _ (hm rs hr y hy);exact Vn x.a y.a x.c y.c x.r y.r wx h1 h2 g1.1 g2.1 g1.2 g2.2
 ·have hs:k.Pairwise Geo.leH:=hs.imp fun{a b} h=>by
   rw[Yg]at h;exact(Geo.iA _ _).1 (by simpa using h)
  exact List.Perm.eq_of_pairwise (fun a b h1 h2 h3 h4=>ha a (hp.mem_iff.1 h1) b ((Geo.iH l).mem_iff.1 h2) h3 h4) hs (Geo.Mz l) (hp.trans (Geo.iH l).symm)
def d68:List SV->Option (List Geo.aC×Bool)
 |[.lst .R l,.fnp 26 [] []] =>some (l,true)
 |[.lst .R l,.fnp 127 [] []] =>some (l,false)
 |_=>none
def r68:List Geo.aC×Bool->List Geo.aC
 |(l,true)=>Geo.xV l
 |(l,false)=>Geo.xX l
def p68:List Geo.aC×Bool->List Prop
 |(l,true)=>[l.length<=1000000,∀r∈l,r.length<=1000]
 |(l,false)=>[l.length<=1000000,∀r∈l,0<r.length/\r.length<=1000,∀a∈l,∀b∈l,Geo.leH a b->Geo.leH b a->a=b]
theorem aCW{l:List Geo.aC}{rest:List SV}{x:List Geo.aC×Bool}(h:d68 (.lst .R l::rest)=some x):(rest=[.fnp 26 [] []]/\x=(l,true))\/(rest=[.fnp 127 [] []]/\x=(l,false)):=by
 unfold d68 at h;split at h
 ·rename_i e;cases e;cases h;exact .inl ⟨rfl,rfl⟩
 ·rename_i e;cases e;cases h;exact .inr ⟨rfl,rfl⟩
 ·cases h
def c68:Con:=⟨List Geo.aC×Bool,d68,p68,.mutR .R 23 r68⟩
theorem k68:c68.Ok Tryz.prog 68:=by
 intro l rest x hd hp;rcases aCW hd with⟨rfl,rfl⟩|⟨rfl,rfl⟩
 ·refine⟨[.fn (.func 26) [] []],rfl,?_⟩;rw[Bm];show xT _ _ _ _ _ _ _ (LT.R.enc (Geo.xV l));rw[Bm];exact Ug l (hp _ List.mem_cons_self) (hp _ (List.mem_cons_of_mem _ List.mem_cons_self))
 ·refine⟨[.fn (.func 127) [] []],rfl,?_⟩;rw[Bm];show xT _ _ _ _ _ _ _ (LT.R.enc (Geo.xX l));rw[Bm];exact Ri l (hp _ List.mem_cons_self) (hp _ (List.mem_cons_of_mem _ List.mem_cons_self)) (hp _ (List.mem_cons_of_mem _ (List.mem_cons_of_mem _ List.mem_cons_self)))
noncomputable def t68:Tab:=cK [(68,c68)] tS
theorem aJe:t68.Ok Tryz.prog:=aH tSo ⟨k68,trivial⟩
end Go.Proofs.YtdaeofhdgabhjaaGreat
namespace Go.Proofs.YtdaeofhdgabhjaaGreat
open Go.RowKit
set_option maxRecDepth 100000
noncomputable section
open Geo (aQ nth aD)
theorem At{p:Geo.Pt}{w:Int}:∀{l:List Geo.aC} {k:Nat},k<l.length->(∀j,j<k->¬Geo.aP (aD l j) p=2/\¬Geo.aP (aD l j) p=1)->(Geo.aP (aD l k) p=2->0=Geo.fW p l w)/\(¬Geo.aP (aD l k) p=2->Geo.aP (aD l k) p=1->1=Geo.fW p l w)
 |[],k,h,_=>by simp at h
 |r::l,0,h,_=>by
  unfold Geo.fW;refine⟨fun e=> ?_,fun e1 e2=> ?_⟩
  ·rw[if_pos (show Geo.aP r p=2 from e)]
  ·rw[if_neg (show¬Geo.aP r p=2 from e1),if_pos (show Geo.aP r p=1 from e2)]
 |r::l,k+1,h,h1=>by
  unfold Geo.fW;obtain⟨e1,e2⟩:=h1 0 (by omega)
  rw[if_neg (show¬Geo.aP r p=2 from e1),if_neg (show¬Geo.aP r p=1 from e2)]
  exact At (l:=l) (k:=k) (by simpa using h) fun j hj=>h1 (j+1) (by omega)
theorem Gw{p:Geo.Pt}{w:Int}:∀{l:List Geo.aC},(∀j,j<l.length->¬Geo.aP (aD l j) p=2/\¬Geo.aP (aD l j) p=1)->w=Geo.fW p l w
 |[],_=>rfl
 |r::l,h1=>by
  unfold Geo.fW;obtain⟨e1,e2⟩:=h1 0 (by simp)
  rw[if_neg (show¬Geo.aP r p=2 from e1),if_neg (show¬Geo.aP r p=1 from e2)]
  exact Gw (l:=l) fun j hj=>h1 (j+1) (by simpa using hj)
def c66:Con:=con (ac aSh (a1 aT)) (fun(s,_)=>[Fit s]) (fun(s,p)=> .int .i64 (Geo.dA s p))
theorem k66:c66.Ok Tryz.prog 66:=aR (bO aJe) (raw:=bT) (fun(s,p)=>[cnt 7 21 s.holes.length (bH fun j=>¬Geo.aP (aD s.holes j) p=2/\¬Geo.aP (aD s.holes j) p=1)]
  ) (fun(_,_)=>⟨_,rfl⟩) fun(s,p) hp=>bP (q:=Fit s/\((!Geo.bV s)=true->0=Geo.dA s p)/\
 ((!Geo.bV s)=false->s.outer.length<=1000/\(¬Geo.aP s.outer p=2->Geo.aP s.outer p=Geo.dA s p)/\
  (¬(¬Geo.aP s.outer p=2)->(0=(0:Int)/\(0:Nat)<=s.holes.length/\bH (fun j=>¬Geo.aP (aD s.holes j) p=2/\¬Geo.aP (aD s.holes j) p=1) 0)/\
   (∀x:Nat,x<=s.holes.length/\bH (fun j=>¬Geo.aP (aD s.holes j) p=2/\¬Geo.aP (aD s.holes j) p=1) x->((x:Int)<s.holes.length->ix (x:Int) s.holes.length/\(aD s.holes x).length<=1000/\(Geo.aP (aD s.holes x) p=2->0=Geo.dA s p)/\
     (¬Geo.aP (aD s.holes x) p=2->(Geo.aP (aD s.holes x) p=1->1=Geo.dA s p)/\
      (¬Geo.aP (aD s.holes x) p=1->aE ((x:Int)+1)/\(x:Int)+1=((x+1:Nat):Int)/\x+1<=s.holes.length/\bH (fun j=>¬Geo.aP (aD s.holes j) p=2/\¬Geo.aP (aD s.holes j) p=1) (x+1)/\s.holes.length-(x+1)<s.holes.length-x)))/\
    (¬(x:Int)<s.holes.length->Geo.aP s.outer p=Geo.dA s p))))) (by kernel_rfl) (by
  change Fit s at hp;have w0:(!Geo.bV s)=true->0=Geo.dA s p:=fun h=>by unfold Geo.dA;rw[if_pos h]
  have w1:(!Geo.bV s)=false->¬Geo.aP s.outer p=2->Geo.aP s.outer p=Geo.dA s p:=fun h h2=>by unfold Geo.dA;rw[h];exact(if_pos h2).symm
  have w2:(!Geo.bV s)=false->¬¬Geo.aP s.outer p=2->Geo.dA s p=Geo.fW p s.holes 2:=fun h h2=>by unfold Geo.dA;rw[h];exact if_neg h2
  have hl:∀x:Nat,(x:Int)<s.holes.length->(aD s.holes x).length<=1000:=fun x h=>hp.2.2 _ (Geo.fQ (by omega))
  have hn:=hp.2.1;have ho:=hp.1;have a2:∀x:Nat,(x:Int)<s.holes.length->bH (fun j=>¬Geo.aP (aD s.holes j) p=2/\¬Geo.aP (aD s.holes j) p=1) x->Geo.aP (aD s.holes x) p=2->0=Geo.fW p s.holes 2:=fun x h1 h2 h3=>(At (by omega) h2).1 h3
  have a1:∀x:Nat,(x:Int)<s.holes.length->bH (fun j=>¬Geo.aP (aD s.holes j) p=2/\¬Geo.aP (aD s.holes j) p=1) x->¬Geo.aP (aD s.holes x) p=2->Geo.aP (aD s.holes x) p=1->1=Geo.fW p s.holes 2:=fun x h1 h2 h3 h4=>(At (by omega) h2).2 h3 h4
  have a0:∀x:Nat,¬(x:Int)<s.holes.length->x<=s.holes.length->bH (fun j=>¬Geo.aP (aD s.holes j) p=2/\¬Geo.aP (aD s.holes j) p=1) x->2=Geo.fW p s.holes 2:=fun x h1 h2 h3=>by
   obtain rfl:x=s.holes.length:=by omega
   exact Gw h3
  have hf:=hp;clear hp
  repeat' first|with_reducible apply And.intro|with_reducible intro
  all_goals repeat with_reducible cases‹_/\bH _ _›
  all_goals first|assumption|rfl|omega|(unfold ix;omega)|(unfold aE;omega)|exact bG _|exact w0 ‹_› |exact w1 ‹_› ‹_› |exact hl _ ‹_› |(rw[w2 ‹_› ‹_›];exact a2 _ ‹_› ‹_› ‹_›)|(rw[w2 ‹_› ‹_›];exact a1 _ ‹_› ‹_› ‹_› ‹_›)|(rw[w2 ‹_› ‹_›,Decidable.of_not_not ‹¬¬Geo.aP s.outer p=2›];exact a0 _ ‹_› ‹_› ‹_›)|exact aA ‹_› ⟨‹_›,‹_›⟩)
def t66:Tab:=cK [(66,c66)] t68
theorem aJg:t66.Ok Tryz.prog:=aH aJe ⟨k66,trivial⟩
def fT(s:Geo.Shape):Geo.Shape:=if Geo.bV s=true then Geo.cD s else⟨[],[]⟩
theorem Uv{s:Geo.Shape}(h:Geo.VS s):∀a∈s.holes.map Geo.dP,∀b∈s.holes.map Geo.dP,Geo.leH a b->Geo.leH b a->a=b:=by
 have hn:=h.nodup;unfold Geo.bJ Geo.aG at hn;rw[List.flatten_cons,List.nodup_append]at hn;have hn2:((s.holes.map Geo.dP).flatten).Nodup:=(Geo.qW s.holes).nodup_iff.2 hn.2.1;have hne:∀r∈s.holes.map Geo.dP,nth r 0∈r:=by
  intro r hr;obtain⟨q,hq,rfl⟩:=List.mem_map.1 hr;have h3:=(h.ring (show q∈Geo.aG s by simp[Geo.aG,hq])).three
  exact Geo.fU.2 ⟨0,by rw[Geo.eH];omega,rfl⟩
 intro a ha b hb h1 h2;have e:nth a 0=nth b 0:=Geo.uH h1 h2;exact Geo.mX _ hn2 a ha b hb (nth a 0) (hne a ha) (by rw[e];exact hne b hb)
theorem uZ{s:Geo.Shape}(h:Geo.VS s):s.holes.map Geo.cX=s.holes.map Geo.dP:=List.map_congr_left fun r hr=>by
 unfold Geo.cX;rw[(Geo.cL r).2 (h.ring (by simp[Geo.aG,hr]))];rfl
def c57:Con:=con (a1 aSh) (fun s=>[Fit s]) (fun s=>aSh.enc (fT s))
theorem k57:c57.Ok Tryz.prog 57:=aR (bO aJg) (raw:=bT) (fun s=>[(5,.mk Nat (fun F _=>qI F 17) [15] (fun k=>[k<=s.holes.length]) (fun k=>[(17,.int .i64 (k:Int))]) (fun k=>[(9,.box 26 [.lst .V (Geo.cX s.outer),.own 15 .R k]),(15,.row 23 .R ((s.holes.take k).map Geo.cX))]) (fun k=>s.holes.length-k) (fun _=>[]))]
  ) (fun _=>⟨_,rfl⟩) fun s hp=>bP (q:=Fit s/\((!Geo.bV s)=true->(fT s).outer=([] :List Geo.V)/\(fT s).holes=([] :List (List Geo.V)))/\
 ((!Geo.bV s)=false->s.outer.length<=1000/\(0=(0:Int)/\Geo.cX s.outer=Geo.cX s.outer/\(0:Nat)=0/\List.map Geo.cX (List.take 0 s.holes)=([] :List (List Geo.V))/\(0:Nat)<=s.holes.length)/\
  (∀x:Nat,x<=s.holes.length->((x:Int)<s.holes.length->ix (x:Int) s.holes.length/\(aD s.holes x).length<=1000/\x=(List.map Geo.cX (List.take x s.holes)).length/\(List.map Geo.cX (List.take x s.holes)).length+[Geo.cX (aD s.holes x)].length<=1000000/\aE ((x:Int)+1)/\(x:Int)+1=((x+1:Nat):Int)/\Geo.cX s.outer=Geo.cX s.outer/\(List.map Geo.cX (List.take x s.holes)++[Geo.cX (aD s.holes x)]).length=x+1/\List.map Geo.cX (List.take x s.holes)++[Geo.cX (aD s.holes x)] =List.map Geo.cX (List.take (x+1) s.holes)/\x+1<=s.holes.length/\s.holes.length-(x+1)<s.holes.length-x)/\
   (¬(x:Int)<s.holes.length->x=(List.map Geo.cX (List.take x s.holes)).length/\(List.map Geo.cX (List.take x s.holes)).length<=1000000/\(∀r:Geo.aC,r∈List.map Geo.cX (List.take x s.holes)->(0:Nat)<r.length/\r.length<=1000)/\(∀a:Geo.aC,a∈List.map Geo.cX (List.take x s.holes)->(∀b:Geo.aC,b∈List.map Geo.cX (List.take x s.holes)->Geo.leH a b->Geo.leH b a->a=b))/\x=(r68 (List.map Geo.cX (List.take x s.holes),false)).length/\Geo.cX s.outer=(fT s).outer/\r68 (List.map Geo.cX (List.take x s.holes),false)=(fT s).holes)))) (by kernel_rfl) (by
  change Fit s at hp;have c0:(!Geo.bV s)=true->fT s=⟨[],[]⟩:=fun h=>by unfold fT;rw[nb' h];rfl
  have c1:(!Geo.bV s)=false->fT s=Geo.cD s:=fun h=>by unfold fT;rw[nb h];rfl
  have V:(!Geo.bV s)=false->Geo.VS s:=fun h=>(Geo.fR s).1 (nb h)
  have hl:∀x:Nat,(x:Int)<s.holes.length->(aD s.holes x).length<=1000:=fun x h=>hp.2.2 _ (Geo.fQ (by omega))
  have hn:=hp.2.1;have ho:=hp.1;have e1:∀x:Nat,x<=s.holes.length->(List.map Geo.cX (List.take x s.holes)).length=x:=fun x h=>by rw[List.length_map,List.length_take];omega
  have e2:∀x:Nat,(x:Int)<s.holes.length->List.map Geo.cX (List.take x s.holes)++[Geo.cX (aD s.holes x)] =List.map Geo.cX (List.take (x+1) s.holes):=fun x h=>by
   rw[List.take_succ_eq_append_getElem (by omega),List.map_append,jY (by omega)];rfl
  have e3:∀x:Nat,¬(x:Int)<s.holes.length->List.take x s.holes=s.holes:=fun x h=>List.take_of_length_le (by omega)
  have g1:(!Geo.bV s)=false->∀x:Nat,¬(x:Int)<s.holes.length->∀r∈List.map Geo.cX (List.take x s.holes),0<r.length/\r.length<=1000:=fun h x hx r hr=>by
   rw[e3 x hx,uZ (V h)]at hr;obtain⟨q,hq,rfl⟩:=List.mem_map.1 hr;rw[Geo.eH];have h3:=((V h).ring (show q∈Geo.aG s by simp[Geo.aG,hq])).three
   have:=hp.2.2 q hq;omega
  have g2:(!Geo.bV s)=false->∀x:Nat,¬(x:Int)<s.holes.length->∀a∈List.map Geo.cX (List.take x s.holes),∀b∈List.map Geo.cX (List.take x s.holes),Geo.leH a b->Geo.leH b a->a=b:=fun h x hx=>by
   rw[e3 x hx,uZ (V h)];exact Uv (V h)
  have g3:∀l,(r68 (l,false)).length=l.length:=fun l=>(Geo.iH l).length_eq
  have g4:(!Geo.bV s)=false->Geo.cX s.outer=(fT s).outer:=fun h=>by
   rw[c1 h];unfold Geo.cX;rw[(Geo.cL _).2 ((V h).ring (by simp[Geo.aG]))];rfl
  have g5:(!Geo.bV s)=false->∀x:Nat,¬(x:Int)<s.holes.length->r68 (List.map Geo.cX (List.take x s.holes),false)=(fT s).holes:=fun h x hx=>by
   rw[e3 x hx,uZ (V h),c1 h];rfl
  have hf:=hp;clear hp
  repeat' first|with_reducible apply And.intro|with_reducible intro
  all_goals first|assumption|rfl|omega|(unfold ix;omega)|(unfold aE;omega)|(rw[c0 ‹_›];done)|exact hl _ ‹_› |exact e2 _ ‹_› |exact(e1 _ ‹_›).symm|(rw[e1 _ ‹_›];simp;omega)|(rw[e1 _ ‹_›];omega)|(rw[List.length_append,e1 _ ‹_›];simp;done)|exact(g1 ‹_› _ ‹_› _ ‹_›).1|exact(g1 ‹_› _ ‹_› _ ‹_›).2|exact g2 ‹_› _ ‹_› _ ‹_› _ ‹_› ‹_› ‹_› |(rw[g3,e1 _ ‹_›];done)|exact g4 ‹_› |exact g5 ‹_› _ ‹_›)
def t57:Tab:=cK [(57,c57)] t66
theorem aJo:t57.Ok Tryz.prog:=aH aJg ⟨k57,trivial⟩
def aLc:Con:=con (a1 aS) (fun s=>[bd 1000000000 s.a,bd 1000000000 s.b]) (fun s=>aT.enc (Geo.dO s))
theorem aM8:aLc.Ok Tryz.prog 183:=aR (bO aJo) (raw:=bT) (fun s=>[jb 3 26 (decide ((s.a.x+s.b.x).tmod 2=0)&&decide ((s.a.y+s.b.y).tmod 2=0))]
  ) (fun _=>⟨_,rfl⟩) fun s hp=>bP (q:=aE (s.a.x+s.b.x)/\aE (s.a.y+s.b.y)/\((2:Int)≠0/\(Int.tmod (s.a.x+s.b.x) 2=0->(2:Int)≠0/\decide (Int.tmod (s.a.y+s.b.y) 2=0)=(decide (Int.tmod (s.a.x+s.b.x) 2=0)&&decide (Int.tmod (s.a.y+s.b.y) 2=0)))/\
  (¬Int.tmod (s.a.x+s.b.x) 2=0->false=(decide (Int.tmod (s.a.x+s.b.x) 2=0)&&decide (Int.tmod (s.a.y+s.b.y) 2=0))))/\
 (∀y:Unit,((decide (Int.tmod (s.a.x+s.b.x) 2=0)&&decide (Int.tmod (s.a.y+s.b.y) 2=0))=true->(2:Int)≠0/\aE (Int.tdiv (s.a.x+s.b.x) 2)/\(2:Int)≠0/\aE (Int.tdiv (s.a.y+s.b.y) 2)/\Int.tdiv (s.a.x+s.b.x) 2=(Geo.dO s).x/\Int.tdiv (s.a.y+s.b.y) 2=(Geo.dO s).y/\1=(Geo.dO s).den)/\
  ((decide (Int.tmod (s.a.x+s.b.x) 2=0)&&decide (Int.tmod (s.a.y+s.b.y) 2=0))=false->s.a.x+s.b.x=(Geo.dO s).x/\s.a.y+s.b.y=(Geo.dO s).y/\2=(Geo.dO s).den))) (by kernel_rfl) (by
  change bd 1000000000 s.a/\bd 1000000000 s.b at hp;unfold bd at hp;have k1:aE (s.a.x+s.b.x):=eC (by omega)
  have k2:aE (s.a.y+s.b.y):=eC (by omega)
  have q1:=pO (x:=s.a.x+s.b.x) (g:=2) (B:=4000000000) (by omega)
  have q2:=pO (x:=s.a.y+s.b.y) (g:=2) (B:=4000000000) (by omega)
  have k3:aE (Int.tdiv (s.a.x+s.b.x) 2):=eC (by omega)
  have k4:aE (Int.tdiv (s.a.y+s.b.y) 2):=eC (by omega)
  have m1:(decide (Int.tmod (s.a.x+s.b.x) 2=0)&&decide (Int.tmod (s.a.y+s.b.y) 2=0))=true->Geo.dO s=⟨(s.a.x+s.b.x).tdiv 2,(s.a.y+s.b.y).tdiv 2,1⟩:=fun h=>by
   simp only[Bool.and_eq_true,decide_eq_true_eq]at h;exact if_pos h
  have m2:(decide (Int.tmod (s.a.x+s.b.x) 2=0)&&decide (Int.tmod (s.a.y+s.b.y) 2=0))=false->Geo.dO s=⟨s.a.x+s.b.x,s.a.y+s.b.y,2⟩:=fun h=>if_neg fun h2=>by
   rw[decide_eq_true h2.1,decide_eq_true h2.2]at h;cases h
  clear hp q1 q2;refine⟨k1,k2,⟨by decide,fun h=>⟨by decide,by rw[decide_eq_true h];rfl⟩,fun h=>by rw[decide_eq_false h];rfl⟩,fun _=>⟨fun h=>⟨by decide,k3,by decide,k4,?_⟩,fun h=> ?_⟩⟩
  ·rw[m1 h];exact⟨rfl,rfl,rfl⟩
  ·rw[m2 h];exact⟨rfl,rfl,rfl⟩)
def aJT:Tab:=cK [(183,aLc)] t57
theorem aGf:aJT.Ok Tryz.prog:=aH aJo ⟨aM8,trivial⟩
def aLJ:Con:=con (ac aS (a1 aS)) (fun(_,_)=>[]) (fun(s,t)=> .bool (Geo.cJ s t)
 )
theorem aNF:aLJ.Ok Tryz.prog 134:=aR (bO aGf) (raw:=bT) (fun(_,_)=>[]) (fun(_,_)=>⟨_,rfl⟩) fun(s,t) _=>bP (q:=(Geo.cN s t=0->true=Geo.cJ s t)/\
 (¬Geo.cN s t=0->(Geo.cN s t=1->(s.a=t.a->true=Geo.cJ s t)/\
   (¬s.a=t.a->(s.a=t.b->true=Geo.cJ s t)/\
    (¬s.a=t.b->(s.b=t.a->true=Geo.cJ s t)/\
     (¬s.b=t.a->decide (s.b=t.b)=Geo.cJ s t))))/\
  (¬Geo.cN s t=1->false=Geo.cJ s t))) (by kernel_rfl) (by
  have hd:∀a b:Geo.V,(a==b)=decide (a=b):=fun a b=>by rw[Bool.eq_iff_iff];simp
  unfold Geo.cJ Geo.Aa;simp only[hd]
  repeat' first|with_reducible apply And.intro|with_reducible intro
  all_goals repeat with_reducible cases‹_/\_›
  all_goals simp[*])
def aKu:Tab:=cK [(134,aLJ)] aJT
theorem aGN:aKu.Ok Tryz.prog:=aH aGf ⟨aNF,trivial⟩
def aPS:Ar Geo.S where
 enc s:= .pro [.int .i64 s.a.x,.int .i64 s.a.y,.int .i64 s.b.x,.int .i64 s.b.y] 0
 dec s:=match s with
  | .pro [.int .i64 x,.int .i64 y,.int .i64 z,.int .i64 w] 0=>some ⟨⟨x,y⟩,⟨z,w⟩⟩
  |_=>none
 ok s a h:=by(split at h<;>cases h;rfl)
 pl _:=⟨_,rfl⟩
def aHk:Ar (Geo.S×Unit):=aCl 133 (ac aPS a0)
def aLK:Con:=con (ac aS (a1 aPS)) (fun(_,_)=>[]) (fun(d,c)=> .bool (!Geo.cJ c d)
 )
theorem aNG:aLK.Ok Tryz.prog 133:=aR (bO aGN) (raw:=bT) (fun(_,_)=>[]) (fun(_,_)=>⟨_,rfl⟩) fun(d,c) _=>bP (q:=(!Geo.cJ c d)=(!Geo.cJ c d)) (by kernel_rfl) (by
 rfl)
def aKv:Tab:=cK [(133,aLK)] aKu
theorem aGO:aKv.Ok Tryz.prog:=aH aGN ⟨aNG,trivial⟩
def aLd:Con:=con (ac (aL .S) (a1 aHk)) (fun(l,_)=>[l.length<=1000000]) (fun(l,c)=> .int .i64 (fI (fun d=> !Geo.cJ c.1 d) l))
theorem aM9:aLd.Ok Tryz.prog 182:=aR (bO aGO) (raw:=bT) (fun(l,c)=>[cnt 2 8 l.length (bH fun j=>(!Geo.cJ c.1 (bC l j))=false)]
  ) (fun(_,_)=>⟨_,rfl⟩) fun(l,c) hp=>bP (q:=(0=(0:Int)/\(0:Nat)<=l.length/\bH (fun j=>(!Geo.cJ c.1 (bC l j))=false) 0)/\
 (∀x:Nat,x<=l.length/\bH (fun j=>(!Geo.cJ c.1 (bC l j))=false) x->((x:Int)<l.length->ix (x:Int) l.length/\((!Geo.cJ c.1 (bC l x))=true->(x:Int)=fI (fun d=>(!Geo.cJ c.1 d)) l)/\
   ((!Geo.cJ c.1 (bC l x))=false->aE ((x:Int)+1)/\(x:Int)+1=((x+1:Nat):Int)/\x+1<=l.length/\bH (fun j=>(!Geo.cJ c.1 (bC l j))=false) (x+1)/\l.length-(x+1)<l.length-x))/\
  (¬(x:Int)<l.length-> -1=fI (fun d=>(!Geo.cJ c.1 d)) l))) (by kernel_rfl) (by
  change l.length<=1000000 at hp
  repeat' first|with_reducible apply And.intro|with_reducible intro
  all_goals repeat with_reducible cases‹_/\_›
  all_goals first|assumption|rfl|exact trivial|exact nb ‹_› |exact nb' ‹_› |omega|exact cV (by omega)|(unfold ix;omega)|(unfold aE;omega)|exact bG _|exact aA ‹_› ‹_› |(refine aA ‹_› ?_;simp_all;done)|exact Bl (t:= .S) (by omega) ‹_› ‹_› |(obtain rfl:_=l.length:=Nat.le_antisymm ‹_› (by omega);exact wY (t:= .S) ‹_›)|grind)
def aJU:Tab:=cK [(182,aLd)] aKv
theorem aGg:aJU.Ok Tryz.prog:=aH aGO ⟨aM9,trivial⟩
def aLL:Con:=con (ac (aL .S) (a1 aHk)) (fun(l,_)=>[l.length<=1000000]) (fun(l,c)=> .bool (l.any fun d=> !Geo.cJ c.1 d)
 )
theorem aNH:aLL.Ok Tryz.prog 132:=aR (bO aGg) (raw:=bT) (fun(_,_)=>[]) (fun(_,_)=>⟨_,rfl⟩) fun(l,c) hp=>bP (q:=l.length<=1000000/\decide (0<=fI (fun d=>(!Geo.cJ c.1 d)) l)=List.any l (fun d=>(!Geo.cJ c.1 d))) (by kernel_rfl) (by
 change l.length<=1000000 at hp;exact⟨hp,Ac _ _⟩)
def aKw:Tab:=cK [(132,aLL)] aJU
theorem aGP:aKw.Ok Tryz.prog:=aH aGg ⟨aNH,trivial⟩
def aLI:Con:=con (ac aSh (ac (aL .S) (a1 aS))) (fun(s,l,c)=>[Fit s,l.length<=1000000,bd 1000000000 c.a,bd 1000000000 c.b]) (fun(s,l,c)=> .bool ((l.all fun e=>Geo.cJ e c)&&Geo.dA s (Geo.dO c)==2))
theorem aNE:aLI.Ok Tryz.prog 135:=aR (bO aGP) (raw:=bT) (fun(_,l,c)=>[cnt 2 11 l.length (bH fun j=>Geo.cJ (bC l j) c=true)]
  ) (fun(_,_,_)=>⟨_,rfl⟩) fun(s,l,c) hp=>bP (q:=(0=(0:Int)/\(0:Nat)<=l.length/\bH (fun j=>Geo.cJ (bC l j) c=true) 0)/\
 (∀x:Nat,x<=l.length/\bH (fun j=>Geo.cJ (bC l j) c=true) x->((x:Int)<l.length->ix (x:Int) l.length/\((!Geo.cJ (bC l x) c)=true->false=(List.all l (fun e=>Geo.cJ e c)&&Geo.dA s (Geo.dO c)==2))/\
   ((!Geo.cJ (bC l x) c)=false->aE ((x:Int)+1)/\(x:Int)+1=((x+1:Nat):Int)/\x+1<=l.length/\bH (fun j=>Geo.cJ (bC l j) c=true) (x+1)/\l.length-(x+1)<l.length-x))/\
  (¬(x:Int)<l.length->bd 1000000000 c.a/\bd 1000000000 c.b/\Fit s/\decide (Geo.dA s (Geo.dO c)=2)=(List.all l (fun e=>Geo.cJ e c)&&Geo.dA s (Geo.dO c)==2)))) (by kernel_rfl) (by
  change Fit s/\l.length<=1000000/\bd 1000000000 c.a/\bd 1000000000 c.b at hp;have n1:∀x:Nat,(x:Int)<l.length->(!Geo.cJ (bC l x) c)=true->false=(List.all l (fun e=>Geo.cJ e c)&&Geo.dA s (Geo.dO c)==2):=fun x h1 h2=>by
   rw[Lm (t:= .S) (l:=l) (q:=fun e=>Geo.cJ e c) (j:=x) (by omega) (nb' h2)];rfl
  have n2:∀x:Nat,¬(x:Int)<l.length->x<=l.length->bH (fun j=>Geo.cJ (bC l j) c=true) x->decide (Geo.dA s (Geo.dO c)=2)=(List.all l (fun e=>Geo.cJ e c)&&Geo.dA s (Geo.dO c)==2):=fun x h1 h2 h3=>by
   obtain rfl:x=l.length:=by omega
   rw[Dg (t:= .S) (l:=l) (q:=fun e=>Geo.cJ e c) h3,Bool.true_and,Bool.eq_iff_iff];simp
  obtain⟨hf,hll,hb1,hb2⟩:=hp
  repeat' first|with_reducible apply And.intro|with_reducible intro
  all_goals repeat with_reducible cases‹_/\bH _ _›
  all_goals first|assumption|rfl|omega|(unfold ix;omega)|(unfold aE;omega)|exact bG _|exact n1 _ ‹_› ‹_› |exact n2 _ ‹_› ‹_› ‹_› |exact aA ‹_› (nb ‹_›))
def aKt:Tab:=cK [(135,aLI)] aKw
theorem aGM:aKt.Ok Tryz.prog:=aH aGP ⟨aNE,trivial⟩
def pK(s:Geo.Shape)(v:List Geo.V)(i k:Nat):List (Nat×Nat):=Geo.rowP s v (Geo.cU s v i) i (k-(i+1))
def tkB(s:Geo.Shape)(v:List Geo.V)(i k:Nat):Bool:= !((pK s v i k).any fun d=> !(Geo.cJ ⟨nth v i,nth v k⟩ (Geo.eZ v d)))&&Geo.fX s ⟨nth v i,nth v k⟩
section
variable {s:Geo.Shape} {v:List Geo.V} {i k:Nat}
theorem aEq:pK s v i (i+1)=Geo.cU s v i:=by unfold pK;rw[Nat.sub_self];rfl
theorem Xh(h:i<k):pK s v i (k+1)=if tkB s v i k=true then pK s v i k++[(i,k)]else pK s v i k:=by
 unfold tkB pK;rw[show k+1-(i+1)=(k-(i+1))+1 by omega]
 show Geo.xU s v _ i (i+1+(k-(i+1)))=_;rw[show i+1+(k-(i+1))=k by omega];rfl
theorem aHY(h:¬(k:Int)<v.length)(h2:k<=v.length):pK s v i k=Geo.cU s v (i+1):=by
 obtain rfl:k=v.length:=by omega
 rfl
theorem Ek(acc:List (Nat×Nat)):∀m,(Geo.rowP s v acc i m).length<=acc.length+m
 |0=>Nat.le_refl _
 |m+1=>by
  have:=Ek acc m;unfold Geo.rowP Geo.xU;split
  ·rw[List.length_append];simp only[List.length_cons,List.length_nil];omega
  ·omega
theorem qP:∀i,(Geo.cU s v i).length<=i*v.length
 |0=>by simp[Geo.cU]
 |i+1=>by
  have h1:=qP i;have h2:=Ek (s:=s) (v:=v) (i:=i) (Geo.cU s v i) (v.length-(i+1));unfold Geo.cU;rw[Nat.add_mul];omega
theorem aHX(hv:v.length<=900)(hi:i<=v.length)(hk:k<=v.length):(pK s v i k).length<=820000:=by
 have h1:=qP (s:=s) (v:=v) i;have h2:=Ek (s:=s) (v:=v) (i:=i) (Geo.cU s v i) (k-(i+1));have h3:i*v.length<=900*900:=Nat.mul_le_mul (by omega) hv
 unfold pK;omega
end
def c60:Con:=con (ac aSh (a1 (aL .V))) (fun(s,v)=>[Fit s,v.length<=900,(∀x∈v,bd 1000000000 x),(aQ s).length<=1000000]) (fun(s,v)=> .lst .P (Geo.cZ s v))
set_option maxHeartbeats 1000000 in
theorem k60:c60.Ok Tryz.prog 60:=aR (bO aGM) (raw:=bT) (fun(s,v)=>[(5,.mk Nat (fun F _=>qI F 16) [10,11] (fun i=>[i<=v.length]) (fun i=>[(16,.int .i64 (i:Int)),(6,.own 10 .P (Geo.cU s v i).length),(7,.own 11 .S (Geo.cU s v i).length)]) (fun i=>[(10,.row 67 .P (Geo.cU s v i)),(11,.row 46 .S ((Geo.cU s v i).map (Geo.eZ v)))]) (fun i=>v.length-i) fun i=>
  [(8,.mk Nat (fun F _=>qI F 9) [10,11] (fun k=>[i<k,k<=v.length]) (fun k=>[(9,.int .i64 (k:Int)),(6,.own 10 .P (pK s v i k).length),(7,.own 11 .S (pK s v i k).length)]) (fun k=>[(10,.row 67 .P (pK s v i k)),(11,.row 46 .S ((pK s v i k).map (Geo.eZ v)))]) (fun k=>v.length-k) fun k=>[jb 13 46 (tkB s v i k)])])]
  ) (fun(_,_)=>⟨_,rfl⟩) fun(s,v) hp=>bP (q:=Fit s/\(0=(0:Int)/\(Geo.cU s v 0).length=0/\(Geo.cU s v 0).length=0/\Geo.cU s v 0=([] :List (Prod Nat Nat))/\List.map (Geo.eZ v) (Geo.cU s v 0)=([] :List Geo.S)/\(0:Nat)<=v.length)/\
 (∀x:Nat,x<=v.length->((x:Int)<v.length->aE ((x:Int)+1)/\((x:Int)+1=((x+1:Nat):Int)/\(Geo.cU s v x).length=(pK s v x (x+1)).length/\(Geo.cU s v x).length=(pK s v x (x+1)).length/\Geo.cU s v x=pK s v x (x+1)/\List.map (Geo.eZ v) (Geo.cU s v x)=List.map (Geo.eZ v) (pK s v x (x+1))/\x<x+1/\x+1<=v.length)/\
   (∀x_1:Nat,x<x_1/\x_1<=v.length->((x_1:Int)<v.length->ix (x:Int) v.length/\ix (x_1:Int) v.length/\(pK s v x x_1).length=(List.map (Geo.eZ v) (pK s v x x_1)).length/\(List.map (Geo.eZ v) (pK s v x x_1)).length<=1000000/\(((!List.any (List.map (Geo.eZ v) (pK s v x x_1)) (fun d=>(!Geo.cJ (⟨(nth v x),(nth v x_1)⟩:Geo.S) d)))=true->Fit s/\(aQ s).length<=1000000/\bd 1000000000 (⟨(nth v x),(nth v x_1)⟩:Geo.S).a/\bd 1000000000 (⟨(nth v x),(nth v x_1)⟩:Geo.S).b/\(List.all (aQ s) (fun e=>Geo.cJ e (⟨(nth v x),(nth v x_1)⟩:Geo.S))&&Geo.dA s (Geo.dO (⟨(nth v x),(nth v x_1)⟩:Geo.S))==2)=tkB s v x x_1)/\
      ((!List.any (List.map (Geo.eZ v) (pK s v x x_1)) (fun d=>(!Geo.cJ (⟨(nth v x),(nth v x_1)⟩:Geo.S) d)))=false->false=tkB s v x x_1))/\
     (∀y:Unit,(tkB s v x x_1=true->(pK s v x x_1).length=(List.map (Geo.eZ v) (pK s v x x_1)).length/\(List.map (Geo.eZ v) (pK s v x x_1)).length+[(⟨(nth v x),(nth v x_1)⟩:Geo.S)].length<=1000000/\(pK s v x x_1).length=(pK s v x x_1).length/\(pK s v x x_1).length+[(x,x_1)].length<=1000000/\aE ((x_1:Int)+1)/\(x_1:Int)+1=((x_1+1:Nat):Int)/\(pK s v x x_1++[(x,x_1)]).length=(pK s v x (x_1+1)).length/\(List.map (Geo.eZ v) (pK s v x x_1)++[(⟨(nth v x),(nth v x_1)⟩:Geo.S)]).length=(pK s v x (x_1+1)).length/\pK s v x x_1++[(x,x_1)] =pK s v x (x_1+1)/\List.map (Geo.eZ v) (pK s v x x_1)++[(⟨(nth v x),(nth v x_1)⟩:Geo.S)] =List.map (Geo.eZ v) (pK s v x (x_1+1))/\x<x_1+1/\x_1+1<=v.length/\v.length-(x_1+1)<v.length-x_1)/\
      (tkB s v x x_1=false->aE ((x_1:Int)+1)/\(x_1:Int)+1=((x_1+1:Nat):Int)/\(pK s v x x_1).length=(pK s v x (x_1+1)).length/\(pK s v x x_1).length=(pK s v x (x_1+1)).length/\pK s v x x_1=pK s v x (x_1+1)/\List.map (Geo.eZ v) (pK s v x x_1)=List.map (Geo.eZ v) (pK s v x (x_1+1))/\x<x_1+1/\x_1+1<=v.length/\v.length-(x_1+1)<v.length-x_1)))/\
    (¬(x_1:Int)<v.length->aE ((x:Int)+1)/\(x:Int)+1=((x+1:Nat):Int)/\(pK s v x x_1).length=(Geo.cU s v (x+1)).length/\(pK s v x x_1).length=(Geo.cU s v (x+1)).length/\pK s v x x_1=Geo.cU s v (x+1)/\List.map (Geo.eZ v) (pK s v x x_1)=List.map (Geo.eZ v) (Geo.cU s v (x+1))/\x+1<=v.length/\v.length-(x+1)<v.length-x)))/\
  (¬(x:Int)<v.length->(Geo.cU s v x).length=(Geo.cU s v x).length/\Geo.cU s v x=Geo.cZ s v))) (by kernel_rfl) (by
  change Fit s/\v.length<=900/\((∀x∈v,bd 1000000000 x))/\(aQ s).length<=1000000 at hp;obtain⟨hf,hv,hb,he⟩:=hp;have hb:∀x:Nat,(x:Int)<v.length->bd 1000000000 (nth v x):=fun x h=>hb _ (Geo.gT (by omega))
  have hL:∀i k:Nat,(i:Int)<v.length->k<=v.length->(pK s v i k).length<=820000:=fun i k h1 h2=>aHX hv (by omega) h2
  have z:=fun i=> @aEq s v i
  have sY:∀i k:Nat,i<k->tkB s v i k=true->pK s v i k++[(i,k)] =pK s v i (k+1):=fun i k h h2=>by rw[Xh h,if_pos h2]
  have sN:∀i k:Nat,i<k->tkB s v i k=false->pK s v i k=pK s v i (k+1):=fun i k h h2=>by rw[Xh h,if_neg (by rw[h2];simp)]
  have sM:∀i k:Nat,i<k->tkB s v i k=true->(pK s v i k).map (Geo.eZ v)++[⟨nth v i,nth v k⟩] =(pK s v i (k+1)).map (Geo.eZ v):=fun i k h h2=>by rw[<-sY i k h h2,List.map_append];rfl
  have pE:=fun(i k:Nat) (h:¬(k:Int)<v.length) (h2:k<=v.length)=> @aHY s v i k h h2
  have uE:∀i:Nat,¬(i:Int)<v.length->i<=v.length->Geo.cU s v i=Geo.cZ s v:=fun i h1 h2=>by rw[show i=v.length by omega];rfl
  have tA:∀i k:Nat,(List.map (Geo.eZ v) (pK s v i k)).any (fun d=> !Geo.cJ ⟨nth v i,nth v k⟩ d)=(pK s v i k).any (fun d=> !Geo.cJ ⟨nth v i,nth v k⟩ (Geo.eZ v d)):=fun i k=>by rw[List.any_map];rfl
  have tY:∀i k:Nat,(!(List.map (Geo.eZ v) (pK s v i k)).any (fun d=> !Geo.cJ ⟨nth v i,nth v k⟩ d))=true->((aQ s).all (fun e=>Geo.cJ e ⟨nth v i,nth v k⟩)&&Geo.dA s (Geo.dO ⟨nth v i,nth v k⟩)==2)=tkB s v i k:=fun i k h=>by
   unfold tkB;rw[<-tA,h];rfl
  have tN:∀i k:Nat,(!(List.map (Geo.eZ v) (pK s v i k)).any (fun d=> !Geo.cJ ⟨nth v i,nth v k⟩ d))=false->false=tkB s v i k:=fun i k h=>by
   unfold tkB;rw[<-tA,h];rfl
  repeat' first|with_reducible apply And.intro|with_reducible intro
  all_goals repeat with_reducible cases‹_<_/\_›
  all_goals first|assumption|rfl|omega|(unfold ix;omega)|(unfold aE;omega)|exact hb _ ‹_› |exact tY _ _ ‹_› |exact tN _ _ ‹_› |(rw[z];done)|(rw[List.length_map];done)|(rw[List.length_map];exact Nat.le_trans (hL _ _ ‹_› ‹_›) (by decide))|(rw[List.length_map];exact Nat.le_trans (Nat.add_le_add_right (hL _ _ ‹_› ‹_›) 1) (by decide))|exact Nat.le_trans (Nat.add_le_add_right (hL _ _ ‹_› ‹_›) 1) (by decide)|exact sY _ _ ‹_› ‹_› |exact sM _ _ ‹_› ‹_› |exact sN _ _ ‹_› ‹_› |exact congrArg List.length (sN _ _ ‹_› ‹_›)|exact congrArg (List.map (Geo.eZ v)) (sN _ _ ‹_› ‹_›)|exact congrArg List.length (sY _ _ ‹_› ‹_›)|(rw[sM _ _ ‹_› ‹_›,List.length_map];done)|exact pE _ _ ‹_› ‹_› |exact congrArg List.length (pE _ _ ‹_› ‹_›)|exact congrArg (List.map (Geo.eZ v)) (pE _ _ ‹_› ‹_›)|exact uE _ ‹_› ‹_›)
def t60:Tab:=cK [(60,c60)] aKt
theorem aJl:t60.Ok Tryz.prog:=aH aGM ⟨k60,trivial⟩
end
end Go.Proofs.YtdaeofhdgabhjaaGreat
namespace Go.Proofs.YtdaeofhdgabhjaaGreat
open Go.RowKit
set_option maxRecDepth 100000
noncomputable section
open Geo (aQ nth aD)
theorem Ej{s:Geo.Shape}{v:List Geo.V}{acc:List (Nat×Nat)}{i:Nat}:∀{m:Nat} {p:Nat×Nat},p∈Geo.rowP s v acc i m->p∈acc\/(p.1=i/\i<p.2/\p.2<i+1+m)
 |0,p,h=> .inl h
 |m+1,p,h=>by
  unfold Geo.rowP Geo.xU at h;split at h
  ·rcases List.mem_append.1 h with h|h
   ·rcases Ej h with h|⟨h1,h2,h3⟩
    ·exact .inl h
    ·exact .inr ⟨h1,h2,by omega⟩
   ·simp at h;subst h;exact .inr ⟨rfl,by show i<i+1+m;omega,by show i+1+m<_;omega⟩
  ·rcases Ej h with h|⟨h1,h2,h3⟩
   ·exact .inl h
   ·exact .inr ⟨h1,h2,by omega⟩
theorem Ca{s:Geo.Shape}{v:List Geo.V}:∀{i:Nat} {p:Nat×Nat},i<=v.length->p∈Geo.cU s v i->p.1<p.2/\p.2<v.length
 |0,p,_,h=>by simp[Geo.cU]at h
 |i+1,p,hi,h=>by
  unfold Geo.cU at h;rcases Ej h with h|⟨h1,h2,h3⟩
  ·exact Ca (by omega) h
  ·omega
theorem Gg{s:Geo.Shape}{v:List Geo.V}{p:Nat×Nat}(h:p∈Geo.cZ s v):p.1<p.2/\p.2<v.length:=Ca (Nat.le_refl _) h
theorem Sa(r:Geo.aC):(Geo.edges r).length<=r.length:=by
 unfold Geo.edges;split<;>simp
theorem sA:∀l:List Geo.aC,(l.flatMap Geo.edges).length<=(l.map List.length).sum
 |[] =>by simp
 |r::l=>by
  have:=sA l;have:=Sa r;rw[List.flatMap_cons,List.length_append,List.map_cons,List.sum_cons];omega
theorem uN{s:Geo.Shape}(h:Geo.VS s):(aQ s).length<=80:=by
 have h1:=sA (Geo.aG s);have h2:=h.corners;unfold Geo.dL at h2;unfold aQ;omega
theorem Vo{s:Geo.Shape}(h:Geo.VS s){r:Geo.aC}(hr:r∈(Geo.cD s).holes):3<=r.length/\r.length<=40:=by
 unfold Geo.cD at hr;have hr:=(Geo.iH _).subset hr;obtain⟨q,hq,rfl⟩:=List.mem_map.1 hr;have hv:=h.ring (r:=q) (by unfold Geo.aG;exact List.mem_cons_of_mem _ hq)
 rw[Geo.eH];exact⟨hv.three,hv.most⟩
theorem Bg{s:Geo.Shape}(V:Geo.VS s):0<(Geo.cD s).outer.length/\∀r∈(Geo.cD s).holes,0<r.length:=
 ⟨by have h:=V.outer.three;show 0<(Geo.dP s.outer).length;rw[Geo.eH];omega,fun r hr=>by have:=Vo V hr;omega⟩
def c17:Con:=con (a1 aSh) (fun s=>[Fit s]) (fun s=> .tup [.lst .V (vOf s),.int .i64 (eOf s)])
theorem k17:c17.Ok Tryz.prog 17:=aR (bO aJl) (raw:=bT) (fun s=>[(5,.mk Nat (fun F _=>qI F 14) [12] (fun k=>[k<=(Geo.aG (fT s)).length]) (fun k=>[(14,.int .i64 (k:Int)),(4,.own 12 .V ((Geo.aG (fT s)).take k).flatten.length)]) (fun k=>[(12,.row 44 .V ((Geo.aG (fT s)).take k).flatten)]) (fun k=>(Geo.aG (fT s)).length-k) (fun _=>[]))]
  ) (fun _=>⟨_,rfl⟩) fun s hp=>bP (q:=Fit s/\((!Geo.bV s)=true->vOf s=([] :List Geo.V)/\11=eOf s)/\
 ((!Geo.bV s)=false->Fit s/\Fit (fT s)/\(0:Nat)<(fT s).outer.length/\(∀r:Geo.aC,r∈(fT s).holes->(0:Nat)<r.length)/\(0=(0:Int)/\(List.flatten (List.take 0 (Geo.aG (fT s)))).length=0/\List.flatten (List.take 0 (Geo.aG (fT s)))=([] :List Geo.V)/\(0:Nat)<=(Geo.aG (fT s)).length)/\
  (∀x:Nat,x<=(Geo.aG (fT s)).length->((x:Int)<(Geo.aG (fT s)).length->ix (x:Int) (Geo.aG (fT s)).length/\(List.flatten (List.take x (Geo.aG (fT s)))).length=(List.flatten (List.take x (Geo.aG (fT s)))).length/\(List.flatten (List.take x (Geo.aG (fT s)))).length+(aD (Geo.aG (fT s)) x).length<=1000000/\aE ((x:Int)+1)/\(x:Int)+1=((x+1:Nat):Int)/\(List.flatten (List.take x (Geo.aG (fT s)))++aD (Geo.aG (fT s)) x).length=(List.flatten (List.take (x+1) (Geo.aG (fT s)))).length/\List.flatten (List.take x (Geo.aG (fT s)))++aD (Geo.aG (fT s)) x=List.flatten (List.take (x+1) (Geo.aG (fT s)))/\x+1<=(Geo.aG (fT s)).length/\(Geo.aG (fT s)).length-(x+1)<(Geo.aG (fT s)).length-x)/\
   (¬(x:Int)<(Geo.aG (fT s)).length->(List.flatten (List.take x (Geo.aG (fT s)))).length=(List.flatten (List.take x (Geo.aG (fT s)))).length/\List.flatten (List.take x (Geo.aG (fT s)))=vOf s/\0=eOf s)))) (by kernel_rfl) (by
  change Fit s at hp;have hq:=Geo.mB s;have v0:(!Geo.bV s)=true->vOf s=[] :=fun h=>by unfold vOf;rw[<-hq,nb' h];rfl
  have v1:(!Geo.bV s)=true->11=eOf s:=fun h=>by unfold eOf;rw[<-hq,nb' h];rfl
  have v2:(!Geo.bV s)=false->0=eOf s:=fun h=>by unfold eOf;rw[<-hq,nb h];rfl
  have c1:(!Geo.bV s)=false->fT s=Geo.cD s:=fun h=>by unfold fT;rw[nb h];rfl
  have V:(!Geo.bV s)=false->Geo.VS s:=fun h=>(Geo.fR s).1 (nb h)
  have f1:(!Geo.bV s)=false->Fit (fT s):=fun h=>by rw[c1 h];exact Az hp
  have f2:(!Geo.bV s)=false->0<(fT s).outer.length:=fun h=>by rw[c1 h];exact(Bg (V h)).1
  have f3:(!Geo.bV s)=false->∀r∈(fT s).holes,0<r.length:=fun h=>by rw[c1 h];exact(Bg (V h)).2
  have f4:(!Geo.bV s)=false->(Geo.aG (fT s)).flatten.length<=80:=fun h=>by rw[c1 h];exact Ee (V h)
  have f5:(!Geo.bV s)=false->(Geo.aG (fT s)).flatten=vOf s:=fun h=>by rw[c1 h];unfold vOf;rw[<-hq,nb h];rfl
  have f6:(!Geo.bV s)=false->(Geo.aG (fT s)).length<=1000:=fun h=>by have:=(f1 h).2.1;unfold Geo.aG;rw[List.length_cons];omega
  generalize Geo.aG (fT s)=L at f4 f5 f6|-;have e1:∀x:Nat,(x:Int)<L.length->(L.take x).flatten++aD L x=(L.take (x+1)).flatten:=fun x h=>by
   rw[List.take_succ_eq_append_getElem (by omega),List.flatten_append,List.flatten_singleton,jY (by omega)]
  have e2:∀x:Nat,(L.take x).flatten.length<=L.flatten.length:=fun x=>by
   conv=>rhs;rw[<-List.take_append_drop x L,List.flatten_append,List.length_append]
   omega
  have e4:(!Geo.bV s)=false->∀x:Nat,(x:Int)<L.length->(L.take x).flatten.length+(aD L x).length<=1000000:=fun h x hx=>by
   have h1:=e2 (x+1);rw[<-e1 x hx,List.length_append]at h1;have:=f4 h;omega
  have e5:(!Geo.bV s)=false->∀x:Nat,¬(x:Int)<L.length->(L.take x).flatten=vOf s:=fun h x hx=>by rw[List.take_of_length_le (by omega),f5 h]
  have e6:(!Geo.bV s)=false->∀x:Nat,x<=L.length->aE ((x:Int)+1):=fun h x hx=>eC (by have:=f6 h;omega)
  clear e2 c1 V
  repeat' first|with_reducible apply And.intro|with_reducible intro
  all_goals first|assumption|rfl|omega|exact v0 ‹_› |exact v1 ‹_› |exact v2 ‹_› |exact f1 ‹_› |exact f2 ‹_› |exact f3 ‹_› _ ‹_› |(unfold ix;omega)|exact e4 ‹_› _ ‹_› |exact e6 ‹_› _ ‹_› |exact e1 _ ‹_› |exact congrArg List.length (e1 _ ‹_›)|exact e5 ‹_› _ ‹_›)
def t17:Tab:=cK [(17,c17)] t60
theorem aJX:t17.Ok Tryz.prog:=aH aJl ⟨k17,trivial⟩
def c19:Con:=con (a1 aSh) (fun s=>[Fit s]) (fun s=> .tup [.lst .S (dOf s),.int .i64 (eOf s)])
theorem k19:c19.Ok Tryz.prog 19:=aR (bO aJX) (raw:=bT) (fun s=>[(6,.mk Nat (fun F _=>qI F 21) [16] (fun k=>[k<=(Geo.cZ s (vOf s)).length]) (fun k=>[(21,.int .i64 (k:Int)),(6,.own 16 .S k)]) (fun k=>[(16,.row 46 .S (((Geo.cZ s (vOf s)).map (Geo.eZ (vOf s))).take k))]) (fun k=>(Geo.cZ s (vOf s)).length-k) (fun _=>[]))]
  ) (fun _=>⟨_,rfl⟩) fun s hp=>bP (q:=Fit s/\(¬eOf s=0->dOf s=([] :List Geo.S)/\eOf s=eOf s)/\
 (¬(¬eOf s=0)->Fit s/\(vOf s).length<=900/\(∀x:Geo.V,x∈vOf s->bd 1000000000 x)/\(aQ s).length<=1000000/\(0=(0:Int)/\(0:Nat)=0/\List.take 0 (List.map (Geo.eZ (vOf s)) (Geo.cZ s (vOf s)))=([] :List Geo.S)/\(0:Nat)<=(Geo.cZ s (vOf s)).length)/\
  (∀x:Nat,x<=(Geo.cZ s (vOf s)).length->((x:Int)<(Geo.cZ s (vOf s)).length->ix (x:Int) (Geo.cZ s (vOf s)).length/\ix 0 2/\ix ((tL (Geo.cZ s (vOf s)) x).1:Int) (vOf s).length/\ix 1 2/\ix ((tL (Geo.cZ s (vOf s)) x).2:Int) (vOf s).length/\x=(List.take x (List.map (Geo.eZ (vOf s)) (Geo.cZ s (vOf s)))).length/\(List.take x (List.map (Geo.eZ (vOf s)) (Geo.cZ s (vOf s)))).length+[(⟨(nth (vOf s) (tL (Geo.cZ s (vOf s)) x).1),(nth (vOf s) (tL (Geo.cZ s (vOf s)) x).2)⟩:Geo.S)].length<=1000000/\aE ((x:Int)+1)/\(x:Int)+1=((x+1:Nat):Int)/\(List.take x (List.map (Geo.eZ (vOf s)) (Geo.cZ s (vOf s)))++[(⟨(nth (vOf s) (tL (Geo.cZ s (vOf s)) x).1),(nth (vOf s) (tL (Geo.cZ s (vOf s)) x).2)⟩:Geo.S)]).length=x+1/\List.take x (List.map (Geo.eZ (vOf s)) (Geo.cZ s (vOf s)))++[(⟨(nth (vOf s) (tL (Geo.cZ s (vOf s)) x).1),(nth (vOf s) (tL (Geo.cZ s (vOf s)) x).2)⟩:Geo.S)] =List.take (x+1) (List.map (Geo.eZ (vOf s)) (Geo.cZ s (vOf s)))/\x+1<=(Geo.cZ s (vOf s)).length/\(Geo.cZ s (vOf s)).length-(x+1)<(Geo.cZ s (vOf s)).length-x)/\
   (¬(x:Int)<(Geo.cZ s (vOf s)).length->x=(List.take x (List.map (Geo.eZ (vOf s)) (Geo.cZ s (vOf s)))).length/\List.take x (List.map (Geo.eZ (vOf s)) (Geo.cZ s (vOf s)))=dOf s/\0=eOf s)))) (by kernel_rfl) (by
  change Fit s at hp;have hq:=Geo.mB s;have d0:¬eOf s=0->dOf s=[] :=fun h=>(aIh h).1
  have R:¬¬eOf s=0->Geo.bD s=true:=fun h=>Mj h
  have V:¬¬eOf s=0->Geo.VS s:=fun h=>vsR (R h)
  have hvl:=Kt s;have hvb:∀x∈vOf s,bd 1000000000 x:=fun x hx=>by
   obtain⟨i,hi,rfl⟩:=Geo.fU.1 hx;exact Ss hi (by decide)
  have he:¬¬eOf s=0->(aQ s).length<=1000000:=fun h=>by have:=uN (V h);omega
  have dE:¬¬eOf s=0->(Geo.cZ s (vOf s)).map (Geo.eZ (vOf s))=dOf s:=fun h=>by
   rw[yQ (R h)];rw[Lo (R h)];exact(Geo.Mk (V h) (fun x hx=>(Geo.kO s).subset hx) ((Geo.kO s).nodup_iff.2 (V h).nodup)).1
  have pL:(Geo.cZ s (vOf s)).length<=6400:=by
   have:=qP (s:=s) (v:=vOf s) (vOf s).length;have h2:(vOf s).length*(vOf s).length<=80*80:=Nat.mul_le_mul hvl hvl;unfold Geo.cZ;omega
  have pM:∀p∈Geo.cZ s (vOf s),p.1<p.2/\p.2<(vOf s).length:=fun p hp=>Gg hp
  generalize Geo.cZ s (vOf s)=P at dE pL pM|-;have pA:∀x:Nat,(x:Int)<P.length->(tL P x).1<(vOf s).length/\(tL P x).2<(vOf s).length:=fun x h=>by
   have h2:tL P x∈P:=by rw[Ma (by omega)];exact List.getElem_mem _
   have:=pM _ h2;omega
  have p1:∀x:Nat,(x:Int)<P.length->ix ((tL P x).1:Int) (vOf s).length:=fun x h=>nB (pA x h).1
  have p2:∀x:Nat,(x:Int)<P.length->ix ((tL P x).2:Int) (vOf s).length:=fun x h=>nB (pA x h).2
  have e1:∀x:Nat,x<=P.length->(List.take x (P.map (Geo.eZ (vOf s)))).length=x:=fun x h=>by rw[List.length_take,List.length_map];omega
  have e2:∀x:Nat,(x:Int)<P.length->List.take x (P.map (Geo.eZ (vOf s)))++[⟨nth (vOf s) (tL P x).1,nth (vOf s) (tL P x).2⟩] =List.take (x+1) (P.map (Geo.eZ (vOf s))):=fun x h=>by
   rw[List.take_succ_eq_append_getElem (by rw[List.length_map];omega),List.getElem_map,Ma (by omega)];rfl
  have e3:¬¬eOf s=0->∀x:Nat,¬(x:Int)<P.length->List.take x (P.map (Geo.eZ (vOf s)))=dOf s:=fun h x hx=>by rw[List.take_of_length_le (by rw[List.length_map];omega),dE h]
  clear pM dE pA hq
  repeat' first|with_reducible apply And.intro|with_reducible intro
  all_goals first|assumption|rfl|omega|exact d0 ‹_› |exact he ‹_› |exact hvb _ ‹_› |(unfold ix;omega)|(unfold aE;omega)|exact p1 _ ‹_› |exact p2 _ ‹_› |exact(e1 _ ‹_›).symm|(rw[e1 _ ‹_›];simp;omega)|(rw[List.length_append,e1 _ ‹_›];simp;done)|exact e2 _ ‹_› |exact e3 ‹_› _ ‹_› |exact(Decidable.of_not_not ‹¬¬eOf s=0›).symm)
def t19:Tab:=cK [(19,c19)] t17
theorem aJM:t19.Ok Tryz.prog:=aH aJX ⟨k19,trivial⟩
def c67:Con:=con (ac aV (ac aV (a1 aV))) (fun(a,b,c)=>[bd 1000000000 a,bd 1000000000 b,bd 1000000000 c]) (fun(a,b,c)=>aT.enc (Geo.dB a b c))
theorem k67:c67.Ok Tryz.prog 67:=aR (bO aJM) (raw:=bT) (fun(a,b,c)=>[jb 3 32 (decide ((a.x+b.x+c.x).tmod 3=0)&&decide ((a.y+b.y+c.y).tmod 3=0))]
  ) (fun(_,_,_)=>⟨_,rfl⟩) fun(a,b,c) hp=>bP (q:=aE (a.x+b.x)/\aE (a.x+b.x+c.x)/\aE (a.y+b.y)/\aE (a.y+b.y+c.y)/\((3:Int)≠0/\(Int.tmod (a.x+b.x+c.x) 3=0->(3:Int)≠0/\decide (Int.tmod (a.y+b.y+c.y) 3=0)=(decide (Int.tmod (a.x+b.x+c.x) 3=0)&&decide (Int.tmod (a.y+b.y+c.y) 3=0)))/\
  (¬Int.tmod (a.x+b.x+c.x) 3=0->false=(decide (Int.tmod (a.x+b.x+c.x) 3=0)&&decide (Int.tmod (a.y+b.y+c.y) 3=0))))/\
 (∀y:Unit,((decide (Int.tmod (a.x+b.x+c.x) 3=0)&&decide (Int.tmod (a.y+b.y+c.y) 3=0))=true->(3:Int)≠0/\aE (Int.tdiv (a.x+b.x+c.x) 3)/\(3:Int)≠0/\aE (Int.tdiv (a.y+b.y+c.y) 3)/\Int.tdiv (a.x+b.x+c.x) 3=(Geo.dB a b c).x/\Int.tdiv (a.y+b.y+c.y) 3=(Geo.dB a b c).y/\1=(Geo.dB a b c).den)/\
  ((decide (Int.tmod (a.x+b.x+c.x) 3=0)&&decide (Int.tmod (a.y+b.y+c.y) 3=0))=false->a.x+b.x+c.x=(Geo.dB a b c).x/\a.y+b.y+c.y=(Geo.dB a b c).y/\3=(Geo.dB a b c).den))) (by kernel_rfl) (by
  change bd 1000000000 a/\bd 1000000000 b/\bd 1000000000 c at hp;unfold bd at hp;have k0:aE (a.x+b.x):=eC (by omega)
  have k0':aE (a.y+b.y):=eC (by omega)
  have k1:aE (a.x+b.x+c.x):=eC (by omega)
  have k2:aE (a.y+b.y+c.y):=eC (by omega)
  have q1:=pO (x:=a.x+b.x+c.x) (g:=3) (B:=4000000000) (by omega)
  have q2:=pO (x:=a.y+b.y+c.y) (g:=3) (B:=4000000000) (by omega)
  have k3:aE (Int.tdiv (a.x+b.x+c.x) 3):=eC (by omega)
  have k4:aE (Int.tdiv (a.y+b.y+c.y) 3):=eC (by omega)
  have m1:(decide (Int.tmod (a.x+b.x+c.x) 3=0)&&decide (Int.tmod (a.y+b.y+c.y) 3=0))=true->Geo.dB a b c=⟨(a.x+b.x+c.x).tdiv 3,(a.y+b.y+c.y).tdiv 3,1⟩:=fun h=>by
   simp only[Bool.and_eq_true,decide_eq_true_eq]at h;exact if_pos h
  have m2:(decide (Int.tmod (a.x+b.x+c.x) 3=0)&&decide (Int.tmod (a.y+b.y+c.y) 3=0))=false->Geo.dB a b c=⟨a.x+b.x+c.x,a.y+b.y+c.y,3⟩:=fun h=>if_neg fun h2=>by
   rw[decide_eq_true h2.1,decide_eq_true h2.2]at h;cases h
  clear hp q1 q2;refine⟨k0,k1,k0',k2,⟨by decide,fun h=>⟨by decide,by rw[decide_eq_true h];rfl⟩,fun h=>by rw[decide_eq_false h];rfl⟩,fun _=>⟨fun h=>⟨by decide,k3,by decide,k4,?_⟩,fun h=> ?_⟩⟩
  ·rw[m1 h];exact⟨rfl,rfl,rfl⟩
  ·rw[m2 h];exact⟨rfl,rfl,rfl⟩)
def t67:Tab:=cK [(67,c67)] t19
theorem aJf:t67.Ok Tryz.prog:=aH aJM ⟨k67,trivial⟩
def c64:Con:=con (ac aV (ac aV (a1 aV))) (fun(a,b,c)=>[bd 1000000000 a,bd 1000000000 b,bd 1000000000 c]) (fun(a,b,c)=> .lst .V (Geo.kA a b c)
 )
theorem k64:c64.Ok Tryz.prog 64:=aR (bO aJf) (raw:=bT) (fun(_,_,_)=>[]) (fun(_,_,_)=>⟨_,rfl⟩) fun(a,b,c) hp=>bP (q:=bd 1000000000 a/\bd 1000000000 b/\bd 1000000000 c/\(Geo.turn a b c<0->[a,c,b].length<=1000/\Geo.cX [a,c,b] =Geo.kA a b c)/\
 (¬Geo.turn a b c<0->[a,b,c].length<=1000/\Geo.cX [a,b,c] =Geo.kA a b c)) (by kernel_rfl) (by
  change bd 1000000000 a/\bd 1000000000 b/\bd 1000000000 c at hp;obtain⟨h1,h2,h3⟩:=hp;have e1:Geo.turn a b c<0->Geo.cX [a,c,b] =Geo.kA a b c:=fun h=>(if_pos h).symm
  have e2:¬Geo.turn a b c<0->Geo.cX [a,b,c] =Geo.kA a b c:=fun h=>(if_neg h).symm
  repeat' first|with_reducible apply And.intro|with_reducible intro
  all_goals first|assumption|rfl|exact e1 ‹_› |exact e2 ‹_› |(simp;done))
def t64:Tab:=cK [(64,c64)] t67
theorem aJi:t64.Ok Tryz.prog:=aH aJf ⟨k64,trivial⟩
def aNV:Ar Geo.Shape where
 enc s:= .pro [.lst .V s.outer,.lst .R s.holes] 0
 dec s:=match s with
  | .pro [r,h] 0=>(match Nu .V r,Nu .R h with|some o,some hs=>some ⟨o,hs⟩|_,_=>none)
  |_=>none
 ok s a h:=by
  split at h
  ·split at h<;>cases h;rename_i r h' _ _ _ h1 h2;have e1:=vI h1;have e2:=vI h2;show(match cR (avs [_,_])with|some q=>AV.p (.pro q 0)|none=> .any)=_
   rw[avs,avs,avs,e1,e2];rfl
  ·cases h
 pl _:=⟨_,rfl⟩
def eB(v:List Geo.V)(i j k n:Nat):Bool:=n !=i&&n !=j&&n !=k&&Geo.bL (Geo.kA (nth v i) (nth v j) (nth v k)) (nth v n) !=0
def c62:Con:=con (ac aN (ac aN (ac aN (ac aPR (a1 aNV))))) (fun(i,j,k,v,s)=>[i<v.length,j<v.length,k<v.length,v.length<=900,(∀x∈v,bd 1000000000 x),Fit s]) (fun(i,j,k,v,s)=> .bool (Geo.gZ s v i j k))
theorem k62:c62.Ok Tryz.prog 62:=aR (bO aJi) (raw:=bT) (fun(i,j,k,v,_)=>[cnt 5 41 v.length (bH fun n=>eB v i j k n=false) fun n=>[jb 8 64 (eB v i j k n)]]
  ) (fun(_,_,_,_,_)=>⟨_,rfl⟩) fun(i,j,k,v,s) hp=>bP (q:=ix (i:Int) v.length/\ix (j:Int) v.length/\ix (k:Int) v.length/\bd 1000000000 (nth v i)/\bd 1000000000 (nth v j)/\bd 1000000000 (nth v k)/\(Geo.turn (nth v i) (nth v j) (nth v k)=0->false=Geo.gZ s v i j k)/\
 (¬Geo.turn (nth v i) (nth v j) (nth v k)=0->ix (i:Int) v.length/\ix (j:Int) v.length/\ix (k:Int) v.length/\bd 1000000000 (nth v i)/\bd 1000000000 (nth v j)/\bd 1000000000 (nth v k)/\(0=(0:Int)/\(0:Nat)<=v.length/\bH (fun n=>eB v i j k n=false) 0)/\
  (∀x:Nat,x<=v.length/\bH (fun n=>eB v i j k n=false) x->((x:Int)<v.length->ix (x:Int) v.length/\((¬(x:Int)=i->(¬(x:Int)=j->(¬(x:Int)=k->(Geo.kA (nth v i) (nth v j) (nth v k)).length<=1000/\decide (¬Geo.bL (Geo.kA (nth v i) (nth v j) (nth v k)) (nth v x)=0)=eB v i j k x)/\
       (¬(¬(x:Int)=k)->false=eB v i j k x))/\
      (¬(¬(x:Int)=j)->false=eB v i j k x))/\
     (¬(¬(x:Int)=i)->false=eB v i j k x))/\
    (∀y:Unit,(eB v i j k x=true->false=Geo.gZ s v i j k)/\
     (eB v i j k x=false->aE ((x:Int)+1)/\(x:Int)+1=((x+1:Nat):Int)/\x+1<=v.length/\bH (fun n=>eB v i j k n=false) (x+1)/\v.length-(x+1)<v.length-x)))/\
   (¬(x:Int)<v.length->ix (i:Int) v.length/\ix (j:Int) v.length/\ix (k:Int) v.length/\bd 1000000000 (nth v i)/\bd 1000000000 (nth v j)/\bd 1000000000 (nth v k)/\Fit s/\decide (Geo.dA s (Geo.dB (nth v i) (nth v j) (nth v k))=2)=Geo.gZ s v i j k)))) (by kernel_rfl) (by
  change i<v.length/\j<v.length/\k<v.length/\v.length<=900/\((∀x∈v,bd 1000000000 x))/\Fit s at hp;obtain⟨hi,hj,hk,hv,hb,hf⟩:=hp;have hb:∀x:Nat,x<v.length->bd 1000000000 (nth v x):=fun x h=>hb _ (Geo.gT h)
  have bi:=hb i hi;have bj:=hb j hj;have bk:=hb k hk;have xi:ix (i:Int) v.length:=nB hi;have xj:ix (j:Int) v.length:=nB hj;have xk:ix (k:Int) v.length:=nB hk;have hT:(Geo.kA (nth v i) (nth v j) (nth v k)).length<=1000:=by
   have:=Ft (nth v i) (nth v j) (nth v k);omega
  have t0:Geo.turn (nth v i) (nth v j) (nth v k)=0->false=Geo.gZ s v i j k:=fun h=>by unfold Geo.gZ;rw[h];rfl
  have bN:∀x:Nat,(¬¬(x:Int)=i\/¬¬(x:Int)=j\/¬¬(x:Int)=k)->false=eB v i j k x:=fun x h=>by
   unfold eB;rcases h with h|h|h
   ·obtain rfl:x=i:=by omega
    simp
   ·obtain rfl:x=j:=by omega
    simp
   ·obtain rfl:x=k:=by omega
    simp
  have bY:∀x:Nat,¬(x:Int)=i->¬(x:Int)=j->¬(x:Int)=k->decide (¬Geo.bL (Geo.kA (nth v i) (nth v j) (nth v k)) (nth v x)=0)=eB v i j k x:=fun x h1 h2 h3=>by
   unfold eB;rw[bne_iff_ne.2 (show x≠i by omega),bne_iff_ne.2 (show x≠j by omega),bne_iff_ne.2 (show x≠k by omega),Bool.true_and,Bool.true_and,Bool.true_and,Bool.eq_iff_iff];simp
  have eY:∀x:Nat,(x:Int)<v.length->eB v i j k x=true->false=Geo.gZ s v i j k:=fun x h1 h2=>by
   unfold Geo.gZ;rw[show((List.range v.length).all fun n=> !(n !=i&&n !=j&&n !=k&&Geo.bL (Geo.kA (nth v i) (nth v j) (nth v k)) (nth v n) !=0))=false from List.all_eq_false.2 ⟨x,List.mem_range.2 (by omega),by rw[show(x !=i&&x !=j&&x !=k&&Geo.bL (Geo.kA (nth v i) (nth v j) (nth v k)) (nth v x) !=0)=true from h2];simp⟩]
   simp
  have eE:¬Geo.turn (nth v i) (nth v j) (nth v k)=0->∀x:Nat,¬(x:Int)<v.length->x<=v.length->bH (fun n=>eB v i j k n=false) x->decide (Geo.dA s (Geo.dB (nth v i) (nth v j) (nth v k))=2)=Geo.gZ s v i j k:=fun h0 x h1 h2 h3=>by
   obtain rfl:x=v.length:=by omega
   unfold Geo.gZ;rw[bne_iff_ne.2 h0,show((List.range v.length).all fun n=> !(n !=i&&n !=j&&n !=k&&Geo.bL (Geo.kA (nth v i) (nth v j) (nth v k)) (nth v n) !=0))=true from List.all_eq_true.2 fun n hn=>by rw[show(n !=i&&n !=j&&n !=k&&Geo.bL (Geo.kA (nth v i) (nth v j) (nth v k)) (nth v n) !=0)=false from h3 n (List.mem_range.1 hn)];rfl,Bool.true_and,Bool.true_and,Bool.eq_iff_iff];simp
  clear hb
  repeat' first|with_reducible apply And.intro|with_reducible intro
  all_goals repeat with_reducible cases‹_/\bH _ _›
  all_goals first|assumption|rfl|omega|(unfold ix;omega)|(unfold aE;omega)|exact bG _|exact t0 ‹_› |exact bN _ (.inl ‹_›)|exact bN _ (.inr (.inl ‹_›))|exact bN _ (.inr (.inr ‹_›))|exact bY _ ‹_› ‹_› ‹_› |exact eY _ ‹_› ‹_› |exact eE ‹_› _ ‹_› ‹_› ‹_› |exact aA ‹_› ‹_›)
def t62:Tab:=cK [(62,c62)] t64
theorem aMC:t62.Ok Tryz.prog:=aH aJi ⟨k62,trivial⟩
end
end Go.Proofs.YtdaeofhdgabhjaaGreat
namespace Go.Proofs.YtdaeofhdgabhjaaGreat
open Go.RowKit
theorem aMt:Tryz.prog.underlying 129=some (.array 80 77):=by kernel_rfl
theorem u77:Tryz.prog.underlying 77=some (.array 80 4):=by kernel_rfl
theorem s77:aU Tryz.prog 77=80:=by kernel_rfl
theorem s4:aU Tryz.prog 4=1:=by kernel_rfl
theorem i77:(Tryz.prog.info? 77).isSome=true:=by kernel_rfl
theorem i4:(Tryz.prog.info? 4).isSome=true:=by kernel_rfl
theorem aHh{b i:Nat}(hi:i<80)(w:World):(Instr.indexAt 129 (.pointer (some ⟨b,0,none⟩)) (.int .i64 (i:Int))).run Tryz.prog w= .ok (.pointer (some ⟨b,80*i,none⟩)) w:=by
 have:=sU (b:=b) (off:=0) (k:= .i64) (a:=(i:Int)) aMt i77 (by omega) (by omega) w
 rw[this,s77,Nat.zero_add,Int.toNat_natCast,Nat.mul_comm]
theorem aLZ{b i o:Nat}(hi:i<80)(w:World):(Instr.indexAt 77 (.pointer (some ⟨b,o,none⟩)) (.int .i64 (i:Int))).run Tryz.prog w= .ok (.pointer (some ⟨b,o+i,none⟩)) w:=by
 have:=sU (b:=b) (off:=o) (k:= .i64) (a:=(i:Int)) u77 i4 (by omega) (by omega) w
 rw[this,s4,Int.toNat_natCast,Nat.mul_one]
theorem Fw{b p:Nat}{arr:Array Value}{t:TypeId}{w:World}(hblk:w.heap[b]? =some (.cells arr t (0,0)))(hp:p<arr.size):
  (Instr.storeAt 4 (.pointer (some ⟨b,p,none⟩)) (.bool true)).run Tryz.prog w= .ok () (w.setRow b (arr.setIfInBounds p (.bool true))):=by
 have hst:=run_storeCells_at Tryz.prog b p t [.bool true] 0 arr w hblk (by simp;omega) (by simp[Value.oneCell'])
 have e:(arr.toList.take (p+0)++[Value.bool true] ++arr.toList.drop (p+0+[Value.bool true].length)).toArray=arr.setIfInBounds p (.bool true):=by
  apply Array.toList_inj.1;rw[Array.toList_setIfInBounds,List.set_eq_take_append_cons_drop,if_pos (by simpa using hp)]
  simp
 rw[e]at hst;obtain⟨i,hi⟩:=Option.isSome_iff_exists.1 i4;have hs:i.size=1:=by have:=s4;unfold aU at this;rw[hi]at this;simpa using this
 simp[Instr.storeAt,Instr.sureAddr,storeVar,sizeOf,typeInfo,Sem.run_bind,Sem.run_pure,Result.andThen_ok,run_program,hi,hs,Value.cells,hst]
theorem zK{w0 w:World}{b:Nat}{arr arr':Array Value}{t:TypeId}(h:w.heap[b]? =some (.cells arr t (0,0))/\w0.grownBy w (some b)):
  (w.setRow b arr').heap[b]? =some (.cells arr' t (0,0))/\w0.grownBy (w.setRow b arr') (some b):=by
 refine⟨setRow_heap w b arr arr' t (0,0) h.1,⟨h.2.os,h.2.tape,h.2.output,?_,fun k hk hne=> ?_⟩⟩
 ·have:=h.2.size;unfold World.setRow;simpa using this
 ·rw[<-h.2.block k hk hne];unfold World.setRow;simp only[Array.getElem?_modify];rw[if_neg (fun e=>hne (by rw[e]))]
set_option maxHeartbeats 2000000 in
theorem aCG(c d:Nat)(hi:c<80)(hj:d<80)(w:World)(b:Nat)(arr:Array Value)(hblk:w.heap[b]? =some (.cells arr 129 (0,0)))(hsz:arr.size=6400):
  Calls Tryz.prog 136 #[.pointer (some ⟨b,0,none⟩),.int .i64 c,.int .i64 d] w fun e w'=>e= .returned Go.undef/\
   (w'.heap[b]? =some (.cells ((arr.setIfInBounds (80*c+d) (.bool true)).setIfInBounds (80*d+c) (.bool true)) 129 (0,0))/\w.grownBy w' (some b)):=by
 have hp:80*c+d<arr.size:=by omega
 have hq:80*d+c<(arr.setIfInBounds (80*c+d) (.bool true)).size:=by simp;omega
 clear hsz
 go_enter Tryz.func136,Tryz.ntmps136
 refine uL (by kernel_rfl) [6,7,8,9,10,11,12,13,14,15,16,17] [[],[],[],[],[],[],[0],[0,1,6],[0,1,2,6,7],[0,1,2,6,7,8],[3],[3,4,10],[0,1,2,3,4,5,6,7,8,9,10,11],[0,1,2,3,4,5,6,7,8,9,10,11,12]] (by kernel_rfl) (by kernel_rfl) (by intro s hs;simp at hs|-;omega)
  (WR3 9 13 (fun wx=>wx.heap[b]? =some (.cells arr 129 (0,0))/\w.grownBy wx (some b)) (fun wx=>wx.heap[b]? =some (.cells (arr.setIfInBounds (80*c+d) (.bool true)) 129 (0,0))/\w.grownBy wx (some b)) (fun wx=>wx.heap[b]? =some (.cells ((arr.setIfInBounds (80*c+d) (.bool true)).setIfInBounds (80*d+c) (.bool true)) 129 (0,0))/\w.grownBy wx (some b)))
  (fun i v wx=>match i with
    |0=>v= .pointer (some ⟨b,0,none⟩)
    |1=>v= .int .i64 (c:Int)
    |2=>v= .int .i64 (d:Int)
    |3=>v= .pointer (some ⟨b,0,none⟩)
    |4=>v= .int .i64 (d:Int)
    |5=>v= .int .i64 (c:Int)
    |6=>v= .pointer (some ⟨b,0,none⟩)
    |7=>v= .pointer (some ⟨b,80*c,none⟩)
    |8=>v= .pointer (some ⟨b,80*c+d,none⟩)
    |9=>True
    |10=>v= .pointer (some ⟨b,0,none⟩)
    |11=>v= .pointer (some ⟨b,80*d,none⟩)
    |12=>v= .pointer (some ⟨b,80*d+c,none⟩)
    |13=>True
    |_=>True)
  (WR3.start ⟨hblk,⟨rfl,rfl,rfl,Nat.le_refl _,fun _ _ _=>rfl⟩⟩) ?_ ?_ ?_
 ·intro j v wx wy hf hxy;match j with
  |0=>exact hf
  |1=>exact hf
  |2=>exact hf
  |3=>exact hf
  |4=>exact hf
  |5=>exact hf
  |6=>exact hf
  |7=>exact hf
  |8=>exact hf
  |9=>exact hf
  |10=>exact hf
  |11=>exact hf
  |12=>exact hf
  |13=>exact hf
  |_+14=>exact trivial
 ·refine⟨?_,?_,?_,?_,?_,?_,?_,?_,?_,?_,?_,?_,?_,?_,trivial⟩
  ·intro D V wx hD hanc hdesc hin hWR;have hA:=hWR.lo (hdesc 9 (by kernel_rfl)) (hdesc 13 (by kernel_rfl))
   have e0:=hin 0 (by kernel_rfl)
   simp at e0;refine opK ?_;intro K hK;simp[cC,execOp,bI,e0,go_sem];exact hK _ _ ⟨rfl,(hWR.keep (by decide) (by decide)),.inl rfl⟩
  ·intro D V wx hD hanc hdesc hin hWR;have hA:=hWR.lo (hdesc 9 (by kernel_rfl)) (hdesc 13 (by kernel_rfl))
   have e1:=hin 1 (by kernel_rfl)
   simp at e1;refine opK ?_;intro K hK;simp[cC,execOp,bI,e1,go_sem];exact hK _ _ ⟨rfl,(hWR.keep (by decide) (by decide)),.inl rfl⟩
  ·intro D V wx hD hanc hdesc hin hWR;have hA:=hWR.lo (hdesc 9 (by kernel_rfl)) (hdesc 13 (by kernel_rfl))
   have e2:=hin 2 (by kernel_rfl)
   simp at e2;refine opK ?_;intro K hK;simp[cC,execOp,bI,e2,go_sem];exact hK _ _ ⟨rfl,(hWR.keep (by decide) (by decide)),.inl rfl⟩
  ·intro D V wx hD hanc hdesc hin hWR;have e0:=hin 0 (by kernel_rfl)
   simp at e0;refine opK ?_;intro K hK;simp[cC,execOp,bI,e0,go_sem];exact hK _ _ ⟨rfl,(hWR.keep (by decide) (by decide)),.inl rfl⟩
  ·intro D V wx hD hanc hdesc hin hWR;have e2:=hin 2 (by kernel_rfl)
   simp at e2;refine opK ?_;intro K hK;simp[cC,execOp,bI,e2,go_sem];exact hK _ _ ⟨rfl,(hWR.keep (by decide) (by decide)),.inl rfl⟩
  ·intro D V wx hD hanc hdesc hin hWR;have e1:=hin 1 (by kernel_rfl)
   simp at e1;refine opK ?_;intro K hK;simp[cC,execOp,bI,e1,go_sem];exact hK _ _ ⟨rfl,(hWR.keep (by decide) (by decide)),.inl rfl⟩
  ·intro D V wx hD hanc hdesc hin hWR;have hA:=hWR.lo (hdesc 9 (by kernel_rfl)) (hdesc 13 (by kernel_rfl))
   have e6:V 6= .pointer (some ⟨b,0,none⟩):=(hanc 0 (by kernel_rfl)).2
   refine opK ?_;intro K hK;simp[cC,execOp,bI,e6,go_sem];exact hK _ _ ⟨rfl,(hWR.keep (by decide) (by decide)),.inl rfl⟩
  ·intro D V wx hD hanc hdesc hin hWR;have hA:=hWR.lo (hdesc 9 (by kernel_rfl)) (hdesc 13 (by kernel_rfl))
   have e7:V 7= .int .i64 (c:Int):=(hanc 1 (by kernel_rfl)).2
   have e12:V 12= .pointer (some ⟨b,0,none⟩):=(hanc 6 (by kernel_rfl)).2
   refine opK ?_;intro K hK;unfold cC execOp;simp only[bI,e12,e7,Sem.run_bind,aHh hi,Result.andThen_ok,Sem.run_pure];exact hK _ _ ⟨rfl,(hWR.keep (by decide) (by decide)),.inl rfl⟩
  ·intro D V wx hD hanc hdesc hin hWR;have hA:=hWR.lo (hdesc 9 (by kernel_rfl)) (hdesc 13 (by kernel_rfl))
   have e8:V 8= .int .i64 (d:Int):=(hanc 2 (by kernel_rfl)).2
   have e13:V 13= .pointer (some ⟨b,80*c,none⟩):=(hanc 7 (by kernel_rfl)).2
   refine opK ?_;intro K hK;unfold cC execOp;simp only[bI,e13,e8,Sem.run_bind,aLZ hj,Result.andThen_ok,Sem.run_pure];exact hK _ _ ⟨rfl,(hWR.keep (by decide) (by decide)),.inl rfl⟩
  ·intro D V wx hD hanc hdesc hin hWR;have hA:=hWR.lo hD (hdesc 13 (by kernel_rfl))
   have e14:V 14= .pointer (some ⟨b,80*c+d,none⟩):=(hanc 8 (by kernel_rfl)).2
   refine opK ?_;intro K hK;unfold cC execOp;simp only[bI,e14,Sem.run_bind,Fw hA.1 hp,Result.andThen_ok,Sem.run_pure];refine hK _ _ ⟨trivial,.mkMid (hdesc 13 (by kernel_rfl)) (by decide) (zK hA),.inr (.inr ?_)⟩
   intro j hj hf;match j with
   |0=>exact hf
   |1=>exact hf
   |2=>exact hf
   |3=>exact hf
   |4=>exact hf
   |5=>exact hf
   |6=>exact hf
   |7=>exact hf
   |8=>exact hf
   |9=>exact absurd (hj.symm.trans hD) (by decide)
   |10=>exact hf
   |11=>exact hf
   |12=>exact absurd (hj.symm.trans (hdesc 12 (by kernel_rfl))) (by decide)
   |13=>exact absurd (hj.symm.trans (hdesc 13 (by kernel_rfl))) (by decide)
   |_+14=>exact trivial
  ·intro D V wx hD hanc hdesc hin hWR;have e9:V 9= .pointer (some ⟨b,0,none⟩):=(hanc 3 (by kernel_rfl)).2
   refine opK ?_;intro K hK;simp[cC,execOp,bI,e9,go_sem];exact hK _ _ ⟨rfl,(hWR.keep (by decide) (by decide)),.inl rfl⟩
  ·intro D V wx hD hanc hdesc hin hWR;have e10:V 10= .int .i64 (d:Int):=(hanc 4 (by kernel_rfl)).2
   have e15:V 15= .pointer (some ⟨b,0,none⟩):=(hanc 10 (by kernel_rfl)).2
   refine opK ?_;intro K hK;unfold cC execOp;simp only[bI,e15,e10,Sem.run_bind,aHh hj,Result.andThen_ok,Sem.run_pure];exact hK _ _ ⟨rfl,(hWR.keep (by decide) (by decide)),.inl rfl⟩
  ·intro D V wx hD hanc hdesc hin hWR;have hB:=hWR.mid (hanc 9 (by kernel_rfl)).1 (hdesc 13 (by kernel_rfl))
   have e11:V 11= .int .i64 (c:Int):=(hanc 5 (by kernel_rfl)).2
   have e16:V 16= .pointer (some ⟨b,80*d,none⟩):=(hanc 11 (by kernel_rfl)).2
   refine opK ?_;intro K hK;unfold cC execOp;simp only[bI,e16,e11,Sem.run_bind,aLZ hi,Result.andThen_ok,Sem.run_pure];exact hK _ _ ⟨rfl,(hWR.keep (by decide) (by decide)),.inl rfl⟩
  ·intro D V wx hD hanc hdesc hin hWR;have hB:=hWR.mid (hanc 9 (by kernel_rfl)).1 hD
   have e17:V 17= .pointer (some ⟨b,80*d+c,none⟩):=(hanc 12 (by kernel_rfl)).2
   refine opK ?_;intro K hK;unfold cC execOp;simp only[bI,e17,Sem.run_bind,Fw hB.1 hq,Result.andThen_ok,Sem.run_pure];refine hK _ _ ⟨trivial,.mkHi (zK hB),.inr (.inr ?_)⟩;intro j hj hf;match j with
   |0=>exact hf
   |1=>exact hf
   |2=>exact hf
   |3=>exact hf
   |4=>exact hf
   |5=>exact hf
   |6=>exact hf
   |7=>exact hf
   |8=>exact hf
   |9=>exact hf
   |10=>exact hf
   |11=>exact hf
   |12=>exact hf
   |13=>exact absurd (hj.symm.trans hD) (by decide)
   |_+14=>exact trivial
 intro D V wx hall hf hWR;replace hWR:=hWR.hi (hall 13 (by decide))
 have f0:V 6= .pointer (some ⟨b,0,none⟩):=hf 0 (by decide)
 have f1:V 7= .int .i64 (c:Int):=hf 1 (by decide)
 have f2:V 8= .int .i64 (d:Int):=hf 2 (by decide)
 have f3:V 9= .pointer (some ⟨b,0,none⟩):=hf 3 (by decide)
 have f4:V 10= .int .i64 (d:Int):=hf 4 (by decide)
 have f5:V 11= .int .i64 (c:Int):=hf 5 (by decide)
 have f6:V 12= .pointer (some ⟨b,0,none⟩):=hf 6 (by decide)
 have f7:V 13= .pointer (some ⟨b,80*c,none⟩):=hf 7 (by decide)
 have f8:V 14= .pointer (some ⟨b,80*c+d,none⟩):=hf 8 (by decide)
 have f10:V 15= .pointer (some ⟨b,0,none⟩):=hf 10 (by decide)
 have f11:V 16= .pointer (some ⟨b,80*d,none⟩):=hf 11 (by decide)
 have f12:V 17= .pointer (some ⟨b,80*d+c,none⟩):=hf 12 (by decide)
 clear hf hall;simp only[eL,List.foldl_cons,List.foldl_nil,f0,f1,f2,f3,f4,f5,f6,f7,f8,f10,f11,f12];simp only[Act.put,List.setIfInBounds_toArray,List.set_cons_succ,List.set_cons_zero];clear f0 f1 f2 f3 f4 f5 f6 f7 f8 f10 f11 f12;refine bodyPost_end (results_none rfl _ _ _) rfl ?_;exact⟨rfl,hWR⟩
def kH(T:Nat->Bool):List PV:=(List.range 6400).map fun k=> .bool (T k)
def pG(T:Nat->Bool)(c d:Nat):Nat->Bool:=fun k=>T k||k==80*c+d||k==80*d+c
theorem jM(T:Nat->Bool):(kH T).length=6400:=by unfold kH;simp
theorem Mx(T:Nat->Bool){k:Nat}{x:PV}(h:(kH T)[k]? =some x):k<6400/\x= .bool (T k):=by
 have hk:k<6400:=by have:=(List.getElem?_eq_some_iff.1 h).1;rwa[jM]at this
 refine⟨hk,?_⟩;unfold kH at h;rw[List.getElem?_map,List.getElem?_range hk]at h;simpa using h.symm
theorem aCe(T:Nat->Bool)(c d:Nat)(hc:c<80)(hd:d<80):xT Tryz.prog 136 none [.int .i64 c,.int .i64 d] 129 0 (kH T) (kH (pG T c d)):=by
 refine⟨by kernel_rfl,by rw[jM,jM],?_,fun h=>by cases h⟩
 intro C w b cc arr vs hC hL _ hA;unfold cG cG cG bF at hA;obtain⟨v1,r1,rfl,rfl,v2,r2,rfl,rfl,rfl⟩:=hA;have hsz:arr.size=6400:=by rw[hL.box rfl,jM]
 refine(aCG c d hc hd w b arr hL.blk hsz).mono ?_;rintro e w' ⟨rfl,h1,h2⟩;refine⟨_,rfl,⟨h1,fun _=>by simp[hsz,jM],(fun h=>absurd rfl h),?_⟩,h2⟩
 intro k x hk;obtain⟨hk1,rfl⟩:=Mx _ hk;obtain⟨v,h3,h4,h5⟩:=hL.cells k (.bool (T k)) (by unfold kH;rw[List.getElem?_map,List.getElem?_range hk1];rfl)
 unfold bF at h5;subst h5;refine⟨.bool (pG T c d k),?_,rfl,by unfold bF;rfl⟩
 simp only[Array.getElem?_setIfInBounds,Array.size_setIfInBounds];unfold pG;by_cases e1:80*d+c=k
 ·subst e1;simp;omega
 ·rw[if_neg e1];have e3:(k==80*d+c)=false:=by simp;omega
  by_cases e2:80*c+d=k
  ·subst e2;simp;omega
  ·have e4:(k==80*c+d)=false:=by simp;omega
   rw[if_neg e2,h3,e3,e4];simp
end Go.Proofs.YtdaeofhdgabhjaaGreat
namespace Go.Proofs.YtdaeofhdgabhjaaGreat
open Go.RowKit
section
variable {P:Program} {N:Nat} {ds:List (Option Nat)} {K:List AV->Sto->nA->Prop} {o:Oper} {rest:List Oper} {i:Nat} {F F':List AV} {L:Sto} {log:nA} {r:AV} {R:List Nat} {W:Sto}
def opR(P:Program)(n:Nat)(o:Oper)(F:List AV)(L:Sto)(r:AV)(R:List Nat)(W:Sto):Prop:=match o.op with
 | .move x=>eG F x=r/\[] =R/\[] =W
 | .assign x=>eG F x=r/\[] =R/\[] =W
 |_=>AOp P n o (eG F) (look L) (fun r' R' W'=>r'=r/\R'=R/\W'=W)
def opG(P:Program)(n:Nat)(ds:List (Option Nat))(o:Oper)(F:List AV)(L:Sto)(r:AV)(R:List Nat)(W:Sto):Prop:=match o.guard with
 |none=>opR P n o F L r R W
 |some (j,b)=>match gdA ds F j with
  |some (some c)=>(match c,b with
   |true,true=>opR P n o F L r R W
   |false,false=>opR P n o F L r R W
   |true,false=> .undef=r/\[] =R/\[] =W
   |false,true=> .undef=r/\[] =R/\[] =W)
  |some none=> .undef=r/\[] =R/\[] =W
  |none=>False
theorem Lv{n:Nat}(h:opR P n o F L r R W):AOp P n o (eG F) (look L) (fun r' R' W'=>r'=r/\R'=R/\W'=W):=by
 unfold opR at h;split at h
 ·rename_i x e;unfold AOp;rw[e];exact h
 ·rename_i x e;unfold AOp;rw[e];exact .inl h
 ·exact h
theorem op(h:opG P (N+i) ds o F L r R [])(hF:iX F o.dst r=F')(h2:fE P N ds rest (i+1) F' L (log++[(R,[])]) K):fE P N ds (o::rest) i F L log K:=by
 unfold opG at h;split at h
 ·rename_i e;exact wD e rfl rfl (Lv h) hF rfl rfl h2
 ·rename_i j b e;split at h
  ·rename_i c e2;split at h
   ·exact qV e e2 rfl rfl (Lv h) hF rfl rfl h2
   ·exact qV e e2 rfl rfl (Lv h) hF rfl rfl h2
   ·obtain⟨rfl,rfl,_⟩:=h;exact Bh e e2 (by decide) rfl hF rfl h2
   ·obtain⟨rfl,rfl,_⟩:=h;exact Bh e e2 (by decide) rfl hF rfl h2
  ·rename_i e2;obtain⟨rfl,rfl,_⟩:=h;exact Bh e e2 (fun h=>by cases h) rfl hF rfl h2
  ·exact h.elim
end
theorem PS:(∀(F:List AV) (d:Nat) (r:AV),iX F (some d) r=F.set d r)/\(∀(F:List AV) (r:AV),iX F none r=F)/\(∀{α:Type} (a:α) (l:List α) (n:Nat) (d:α),(a::l).set (n+1) d=a::l.set n d)/\(∀{α:Type} (a:α) (l:List α) (d:α),(a::l).set 0 d=d::l):=⟨fun _ _ _=>rfl,fun _ _=>rfl,fun _ _ _ _=>rfl,fun _ _ _=>rfl⟩
def un:Nat->List AV->List AV
 |0,l=>l
 |n+1,l=> .undef::un n l
section
variable {P:Program} {Q:yD} {F:List AV} {L:Sto} {N:Nat} {y:Code}
theorem pl{id:Nat}{l:List Oper}(N':Nat)(hg:gOk l=true)(hN:N+l.length=N')
 (h:∀K:List AV->Sto->Nat->Prop,(∀F L N,awp P y Q F L N->K F L N)->fE P N (l.map (·.dst)) l 0 F L [] fun F L _=>K F L N'):awp P (.seq (.region id l.toArray false) y) Q F L N:=aAM hg hN h
theorem ple{id:Nat}{l:List Oper}(N':Nat)(hg:gOk l=true)(hN:N+l.length=N')
 (h:∀K:List AV->Sto->Nat->Prop,(∀F L N,Q .normal F L N->K F L N)->fE P N (l.map (·.dst)) l 0 F L [] fun F L _=>K F L N'):awp P (.region id l.toArray false) Q F L N:=Ib hg hN h
end
theorem GG:(∀{α:Type} (a:α) (l:List α),(a::l)[0]? =some a)/\(∀{α:Type} (a:α) (l:List α) (i:Nat),(a::l)[i+1]? =l[i]?)/\(∀{α β:Type} (f:α->β) (a:α) (l:List α),List.map f (a::l)=f a::List.map f l)/\(∀{α β:Type} (f:α->β),List.map f [] =[])/\(∀{α:Type} (x:Option α),(some x).join=x)/\(∀{α:Type} (a:α) (l:List α) (n:Nat) (d:α),(a::l).getD (n+1) d=l.getD n d)/\(∀{α:Type} (a:α) (l:List α) (d:α),(a::l).getD 0 d=a):=⟨fun _ _=>rfl,fun _ _ _=>rfl,fun _ _ _=>rfl,fun _=>rfl,fun _=>rfl,fun _ _ _ _=>rfl,fun _ _ _=>rfl⟩
theorem IF:(∀{α:Type} (a:α),(a=a)=True)/\(∀{α:Type} {_h:Decidable True} (t e:α),ite True t e=t)/\(∀{α:Type} {_h:Decidable False} (t e:α),ite False t e=e):=⟨fun _=>by simp,fun{_} {h} _ _=>by cases h<;>simp,fun{_} {h} _ _=>by cases h<;>simp⟩
attribute [go_sem] Ko Yl aHs okL rF an RL
attribute [go_sem] opG opR AOp eG gdA Option.join_some kW jX iK cR Wf yA look Sp wZ pJ Le Dk Dw aAZ unA Ij mmA Dy nR gL kR ne_eq not_false_eq_true
attribute [go_sem] GD GS LA LB LC LI
attribute [go_sem] T1 T2 T3 T23 T24 T26 T32 T44 T46 T65 T67
end Go.Proofs.YtdaeofhdgabhjaaGreat
namespace Go.Proofs.YtdaeofhdgabhjaaGreat
open Go.RowKit
theorem Gx{P:Program}{σ:Nat->Option Ob}{f:FuncId}{s:Nat}{rest:List AV}{K:Res}{ty:TypeId}{cells cells':List PV}{A:List PV}
  (hob:σ s=some ⟨ty,0,cells.map .p⟩) (hA:cR rest=some A) (hS:xT P f none A ty 0 cells cells') (hK:K .undef [s] [(s,some ⟨ty,0,cells'.map .p⟩)]):qZ P σ f (.ptr s 0::rest) K:=
 .inr ⟨ty,cells,hob,A,cells',hA,hS,hK⟩
theorem wT(m:Rn):∀l:List PV,Ko m (l.map .p) (l.map .p)
 |[] =>by simp[Ko]
 |x::l=>by simp only[List.map_cons,Ko,Yl];exact⟨trivial,wT m l⟩
def xP(T:Geo.Tab):List PV:=kH fun k=>T (k/80) (k % 80)
theorem Yz(T:Geo.Tab){c d:Nat}(hc:c<80)(hd:d<80):kH (pG (fun k=>T (k/80) (k % 80)) c d)=xP (Geo.pG T c d):=by
 unfold xP kH;apply List.map_congr_left;intro k hk;have hk:=List.mem_range.1 hk;unfold pG Geo.pG
 congr 1
 show(T (k/80) (k % 80)||k==80*c+d||k==80*d+c)=if(k/80=c/\k % 80=d)\/(k/80=d/\k % 80=c)then true else T (k/80) (k % 80)
 by_cases h1:k/80=c/\k % 80=d
 ·have e:(k==80*c+d)=true:=by simp;omega
  rw[if_pos (.inl h1),e];simp
 ·have e:(k==80*c+d)=false:=by simp;omega
  by_cases h2:k/80=d/\k % 80=c
  ·have e:(k==80*d+c)=true:=by simp;omega
   rw[if_pos (.inr h2),e];simp
  ·have e2:(k==80*d+c)=false:=by simp;omega
   have h3:¬((k/80=c/\k % 80=d)\/(k/80=d/\k % 80=c)):=fun h=>h.elim h1 h2
   rw[if_neg h3,e,e2,Bool.or_false,Bool.or_false]
theorem Ja(T:Geo.Tab){c d:Nat}(hc:c<80)(hd:d<80):xT Tryz.prog 136 none [.int .i64 c,.int .i64 d] 129 0 (xP T) (xP (Geo.pG T c d)):=by
 have:=aCe (fun k=>T (k/80) (k % 80)) c d hc hd
 rwa[Yz T hc hd]at this
theorem aMu:xP (fun _ _=>false)=List.replicate 6400 (.bool false):=by
 unfold xP kH;refine List.eq_replicate_iff.2 ⟨by rw[List.length_map,List.length_range],fun x hx=> ?_⟩
 obtain⟨k,_,rfl⟩:=List.mem_map.1 hx;rfl
theorem aAW:gD Tryz.prog 129=some (List.replicate 6400 (.p (.bool false))):=by kernel_rfl
theorem aAV:gI Tryz.prog 129=true:=by kernel_rfl
theorem Vp{P:Program}{t:TypeId}{z:List PV}{K:AV->Prop}(hz:gD P t=some (z.map .p))(h1:gI P t=true)(h2:kU P t=true)(hK:K (.p (.agg z))):Dy P t [] K:=by
 refine⟨_,hz,h1,h2,_,rfl,?_⟩;unfold iK;rw[dC];exact hK
theorem Vu:gD Tryz.prog 129=some ((xP fun _ _=>false).map .p):=by
 rw[aAW,aMu,List.map_replicate]
theorem aC0{K:AV->Prop}(h:K (.p (.agg (xP fun _ _=>false)))):Dy Tryz.prog 129 [] K:=Vp Vu aAV Vv h
theorem Rk(l:List (Nat×Nat)){k:Nat}(hk:k<l.length):Geo.pG (Geo.lK (l.take k)) l[k].1 l[k].2=Geo.lK (l.take (k+1)):=by
 unfold Geo.lK;rw[List.take_add_one,List.getElem?_eq_getElem hk,List.foldl_append];rfl
theorem Bx:∀(l:List Geo.aC) (t:Geo.Tab) (a:Nat) (r:Geo.aC),Geo.jS t a (l++[r])=Geo.rH (Geo.jS t a l) r.length (a+l.flatten.length) r.length
 |[],t,a,r=>rfl
 |x::l,t,a,r=>by
  simp only[List.cons_append,Geo.jS,Bx l,List.flatten_cons,List.length_append,Nat.add_assoc]
theorem Rj(R:List Geo.aC)(t:Geo.Tab){k:Nat}(hk:k<R.length):Geo.jS t 0 (R.take (k+1))=Geo.rH (Geo.jS t 0 (R.take k)) R[k].length (R.take k).flatten.length R[k].length:=by
 rw[List.take_add_one,List.getElem?_eq_getElem hk];show Geo.jS t 0 (R.take k++[R[k]])=_;rw[Bx,Nat.zero_add]
theorem Ng(R:List Geo.aC)(k:Nat):(R.take k).flatten.length<=R.flatten.length:=by
 have:R.flatten=(R.take k).flatten++(R.drop k).flatten:=by rw[<-List.flatten_append,List.take_append_drop]
 rw[this,List.length_append];omega
theorem aAr(L:List Geo.aC){k:Nat}(hk:k<L.length):(L.take (k+1)).flatten=(L.take k).flatten++L[k] :=by
 rw[List.take_add_one,List.flatten_append,List.getElem?_eq_getElem hk];simp
theorem uA{f:FuncId}{xs:List SV}{r:SV}{B:List PV}{q:PV}(h:∃A q,avs xs=A.map .p/\r.av= .p q/\Sat Tryz.prog false f A q)(hB:avs xs=B.map .p)(hq:r.av= .p q):Sat Tryz.prog false f B q:=by
 obtain⟨A,q',h1,h2,h3⟩:=h;rw[hq]at h2;cases h2;rw[hB]at h1;have:B=A:=by have:=congrArg cR h1;rw[dC,dC]at this;cases this;rfl
 subst this;exact h3
theorem Bn(s:Geo.Shape):(aSh.enc s).av= .p (gK s):=by
 show iK [.p (.sl s.outer.length (iV s.outer)),.p (.sl s.holes.length (LT.R.enc s.holes))] =_;rw[Bm];rfl
set_option maxRecDepth 100000 in
set_option maxHeartbeats 2000000 in
theorem Uh(s:Geo.Shape)(hf:Fit s)(hv:Geo.bV s=true)(v:List Geo.V)(hn:v.length<=80)(hR80:(Geo.aG (Geo.cD s)).flatten.length<=80)(hvs:∀x∈v,bd 1000000000 x):
  Sat Tryz.prog false 61 [.agg [fL s.outer,jT s.holes],.sl v.length (iV v)] (.pro (xP (Geo.gU s v)) 0):=by
 have V:=(Geo.fR s).1 hv;have hfC:=Az hf;have hpos:=Bg V;have c60:Sat Tryz.prog false 60 [gK s,.sl v.length (iV v)] (.sl (Geo.cZ s v).length (aDZ (Geo.cZ s v))):=
  uA (k60 [aSh.enc s,.lst .V v] (s,v) rfl ((fB (l:=c60.pre (s,v))).1 ⟨hf,(show v.length<=900 by omega),hvs,(show(Geo.aQ s).length<=1000000 by have:=uN V;omega)⟩)) (by simp only[avs,Bn];rfl) rfl
 have c57:Sat Tryz.prog false 57 [gK s] (gK (Geo.cD s)):=
  uA (k57 [aSh.enc s] s rfl ((fB (l:=c57.pre s)).1 hf)) (by simp only[avs,Bn];rfl) (by show(aSh.enc (fT s)).av=_;rw[Bn,show fT s=Geo.cD s from if_pos hv])
 have c56:=vC (Geo.cD s) hfC hpos;have hP80:∀p∈Geo.cZ s v,p.1<80/\p.2<80:=fun p hp=>by have:=Gg hp;omega
 have t00:Geo.lK [] =fun _ _=>false:=rfl
 have hPl:(Geo.cZ s v).length<=900000:=by
  have:=qP (s:=s) (v:=v) v.length;have h2:v.length*v.length<=80*80:=Nat.mul_le_mul hn hn;unfold Geo.cZ;omega
 have hRl:(Geo.aG (Geo.cD s)).length<=901:=by have:=hfC.2.1;simp[Geo.aG];omega
 have hJ:Geo.gU s v=Geo.jS (Geo.lK (Geo.cZ s v)) 0 (Geo.aG (Geo.cD s)):=rfl;rw[hJ];clear hJ;generalize Geo.cZ s v=P at c60 hP80 hPl|-;generalize Geo.aG (Geo.cD s)=R at c56 hR80 hRl|-;replace c56:Sat Tryz.prog true 56 [gK (Geo.cD s)] (.sl R.length (R.map fL)):=c56;refine xC (by kernel_rfl) Tryz.func61 rfl ?_
 rw[Tryz.ntmps61,Tryz.results61];show awp _ _ (Sk _ _ _) (.p (.agg [fL s.outer,jT s.holes]):: .p (.sl v.length (iV v))::un 59 []) [] 0;simp only[un];refine pl 2 (by kernel_rfl) rfl fun K0 hK0=> ?_
 refine st 0 1 rfl rfl rfl (by simp only[AOp,eG,GD,aD0,gL,LA,LB];and_intros<;>first|rfl|trivial) (by simp only[PS];rfl) (by simp only[GS];rfl) ?_
 refine op (by simp only[go_sem,simprocAttr];and_intros<;>first|rfl|trivial) (by simp only[PS];rfl) ?_
 refine dK (hK0 _ _ _ ?_);refine pl 5 (by kernel_rfl) rfl fun K1 hK1=> ?_
 refine sp 1 rfl rfl (by simp only[AOp,eG];exact aC0 ⟨rfl,rfl,trivial⟩) (by simp only[PS];rfl) ?_
 refine st 3 2 rfl rfl rfl (by simp only[AOp,eG,GD,aD0,gL,LA];and_intros<;>first|rfl|trivial) (by simp only[PS];rfl) (by simp only[GS];rfl) ?_
 refine op (by simp only[go_sem,simprocAttr];and_intros<;>first|rfl|trivial) (by simp only[PS];rfl) ?_
 refine dK (hK1 _ _ _ ?_);refine lH fun K2 hK2=> ?_
 refine pl 10 (by kernel_rfl) rfl fun K3 hK3=> ?_
 iterate 2 refine op (by simp only[go_sem,simprocAttr];and_intros<;>first|rfl|trivial) (by simp only[PS];rfl) ?_
 refine sp 3 rfl rfl (by simp only[AOp,eG,GD,qL,LB];exact .inl (mI c60 rfl ⟨rfl,rfl,rfl⟩)) (by simp only[PS];rfl) ?_
 iterate 2 refine op (by simp only[go_sem,simprocAttr];and_intros<;>first|rfl|trivial) (by simp only[PS];rfl) ?_
 refine dK (hK3 _ _ _ ?_);refine pC ?_;refine zJ (fun Fz Lz Nz=>∃k:Nat,k<=P.length/\Fz=(.any:: .any:: .ptr 0 0:: .any:: .any:: .ptr 1 0:: .any:: .any:: .any:: .any:: .any:: .any:: .any:: .any:: .any:: .any:: .p (.sl P.length (aDZ P)):: .p (.int .i64 (P.length:Int)):: .p (.int .i64 ((k:Nat):Int)):: .any:: .any:: .any:: .any:: .any:: .any:: .any:: .any:: .any:: .any:: .any:: .any:: .any:: .any:: .any:: .any:: .any:: .any:: .any:: .any:: .any:: .any:: .any:: .any:: .any:: .any:: .any:: .any:: .any:: .any:: .any:: .any:: .any:: .any:: .any:: .any:: .any:: .any:: .any:: .any:: .any:: .any::[])/\Lz=[(0,some ⟨26,0,[.p (fL s.outer),.p (jT s.holes)]⟩),(1,some ⟨129,0,List.map AV.p (xP (Geo.lK (P.take k)))⟩)]/\Nz=2) (fun Fz _=>P.length-ctr 18 Fz) ?_ ?_
 ·refine⟨_,_,_,?w1,⟨0,Nat.zero_le _,rfl,rfl,rfl⟩⟩;refine rK [(0,some 0),(1,some 3)] (by kernel_rfl) ?_ ?_<;>simp only[go_sem,simprocAttr,List.take_zero,t00,wT] <;>(and_intros<;>first|rfl|exact⟨_,rfl,rfl⟩)
 rintro _ _ _ ⟨k,hk,rfl,rfl,rfl⟩;refine pl 3 (by kernel_rfl) rfl fun K4 hK4=> ?_
 refine op (by simp only[go_sem,simprocAttr];and_intros<;>first|rfl|trivial) (by simp only[PS];rfl) ?_
 refine dK (hK4 _ _ _ ?_);refine lH fun K5 hK5=> ?_
 refine Fk (b:=decide ((k:Int)<(P.length:Int))) (by simp only[eG,GD] <;>rfl) (fun h1=> ?_) (fun h1=> ?_)
 ·skip
  have hlt:k<P.length:=by have:=of_decide_eq_true h1;omega
  have x0:(0:Int)<=(k:Int):=by omega
  have x1:(k:Int)<(P.length:Int):=by omega
  have x2:=aEO hlt;have d0:(0:Int)<((2:Nat):Int):=by decide
  have d1:(1:Int)<((2:Nat):Int):=by decide
  have x8:=Ae (show k<=1000000 by omega)
  have hp80:=hP80 _ (List.getElem_mem hlt);have c136:=Ja (Geo.lK (P.take k)) hp80.1 hp80.2;rw[Rk P hlt]at c136;refine Fh ?_;try simp only
  refine hK5 _ _ _ ?_;refine lH fun K6 hK6=> ?_
  refine pC ?_;refine pl 7 (by kernel_rfl) rfl fun K7 hK7=> ?_
  iterate 2 refine op (by simp only[go_sem,simprocAttr,x0,x1,x2];and_intros<;>first|rfl|trivial) (by simp only[PS];rfl) ?_
  refine st 5 3 rfl rfl rfl (by simp only[AOp,Ll,LA,T67];and_intros<;>first|rfl|trivial) (by simp only[PS];rfl) (by simp only[GS];rfl) ?_
  refine st 6 4 rfl rfl rfl (by simp only[AOp,eG,GD,wR,gL,kR,LC,LB,look,LA,↓reduceIte,Nat.reduceAdd,T67,x1];and_intros<;>first|rfl|trivial) (by simp only[PS];rfl) (by simp only[GS];rfl) ?_
  refine dK (hK7 _ _ _ ?_);refine ple 13 (by kernel_rfl) rfl fun K8 hK8=> ?_
  iterate 5 refine op (by simp only[go_sem,simprocAttr];and_intros<;>first|rfl|trivial) (by simp only[PS];rfl) ?_
  refine st 12 6 rfl rfl rfl (by simp only[AOp,eG,GD,qL,LB];exact .inl (Gx rfl rfl c136 ⟨rfl,rfl,rfl⟩)) (by simp only[PS];rfl) (by simp only[GS];rfl) ?_
  refine dK (hK8 _ _ _ ?_);try simp only
  refine hK6 _ _ _ ?_;refine ple 15 (by kernel_rfl) rfl fun K9 hK9=> ?_
  iterate 2 refine op (by simp only[go_sem,simprocAttr,x8];and_intros<;>first|rfl|trivial) (by simp only[PS];rfl) ?_
  refine dK (hK9 _ _ _ ?_);try simp only
  refine⟨_,_,_,?w2,⟨k+1,by omega,rfl,rfl,rfl⟩,?m2⟩
  case m2=>simp only[ctr,List.getD_cons_succ,List.getD_cons_zero,Int.toNat_natCast];omega
  case w2=>
   refine rK [(0,some 0),(1,some 1)] (by kernel_rfl) ?_ ?_<;>simp only[go_sem,simprocAttr,wT] <;>(and_intros<;>first|rfl|exact⟨_,rfl,rfl⟩)
 ·skip
  have hkl:k=P.length:=by
   have h2:¬((k:Int)<(P.length:Int)):=of_decide_eq_false h1;omega
  subst hkl;rw[List.take_length];refine Fj ?_;try simp only[IF]
  refine hK2 _ _ _ ?_;refine pl 4 (by kernel_rfl) rfl fun K10 hK10=> ?_
  refine op (by simp only[go_sem,simprocAttr];and_intros<;>first|rfl|trivial) (by simp only[PS];rfl) ?_
  refine dK (hK10 _ _ _ ?_);refine lH fun K11 hK11=> ?_
  refine pl 9 (by kernel_rfl) rfl fun K12 hK12=> ?_
  refine op (by simp only[go_sem,simprocAttr];and_intros<;>first|rfl|trivial) (by simp only[PS];rfl) ?_
  refine sp 2 rfl rfl (by simp only[AOp,eG,GD,qL,LB];exact .inl (mI c57 rfl ⟨rfl,rfl,rfl⟩)) (by simp only[PS];rfl) ?_
  refine sp 3 rfl rfl (by simp only[AOp,eG,GD,qL,LB];exact .inl (mI c56 rfl ⟨rfl,rfl,rfl⟩)) (by simp only[PS];rfl) ?_
  iterate 2 refine op (by simp only[go_sem,simprocAttr];and_intros<;>first|rfl|trivial) (by simp only[PS];rfl) ?_
  refine dK (hK12 _ _ _ ?_);refine pC ?_;refine zJ (fun Fz Lz Nz=>∃j:Nat,j<=R.length/\Fz=(.any:: .any:: .any:: .any:: .any:: .ptr 1 0:: .any:: .any:: .p (.int .i64 ((R.take j).flatten.length:Int)):: .any:: .any:: .any:: .any:: .any:: .any:: .any:: .any:: .any:: .any:: .any:: .any:: .any:: .any:: .any:: .any:: .any:: .any:: .any:: .any:: .any:: .any:: .p (.sl R.length (R.map fL)):: .p (.int .i64 (R.length:Int)):: .p (.int .i64 ((j:Nat):Int)):: .any:: .any:: .any:: .any:: .any:: .any:: .any:: .any:: .any:: .any:: .any:: .any:: .any:: .any:: .any:: .any:: .any:: .any:: .any:: .any:: .any:: .any:: .any:: .any:: .any:: .any:: .any::[])/\Lz=[(1,some ⟨129,0,List.map AV.p (xP (Geo.jS (Geo.lK P) 0 (R.take j)))⟩)]/\Nz=2) (fun Fz _=>R.length-ctr 33 Fz) ?_ ?_
  ·refine⟨_,_,_,?w3,⟨0,Nat.zero_le _,rfl,rfl,rfl⟩⟩;refine rK [(1,some 1)] (by kernel_rfl) ?_ ?_<;>simp only[go_sem,simprocAttr,List.take_zero,Geo.jS,List.flatten_nil,List.length_nil,wT] <;>(and_intros<;>first|rfl|exact⟨_,rfl,rfl⟩)
  rintro _ _ _ ⟨j,hj,rfl,rfl,rfl⟩;refine pl 3 (by kernel_rfl) rfl fun K13 hK13=> ?_
  refine op (by simp only[go_sem,simprocAttr];and_intros<;>first|rfl|trivial) (by simp only[PS];rfl) ?_
  refine dK (hK13 _ _ _ ?_);refine lH fun K14 hK14=> ?_
  refine Fk (b:=decide ((j:Int)<(R.length:Int))) (by simp only[eG,GD] <;>rfl) (fun h3=> ?_) (fun h3=> ?_)
  ·skip
   have hlt:j<R.length:=by have:=of_decide_eq_true h3;omega
   have y0:(0:Int)<=(j:Int):=by omega
   have y1:(j:Int)<(R.length:Int):=by omega
   have y2:(R.map fL)[j]? =some (.sl R[j].length (iV R[j])):=by rw[List.getElem?_map,List.getElem?_eq_getElem hlt];rfl
   have y8:=Ae (show j<=1000000 by omega)
   have hat:(R.take j).flatten.length+R[j].length=(R.take (j+1)).flatten.length:=by rw[aAr R hlt,List.length_append]
   have hat2:=Ng R (j+1);have hst:=Rj R (Geo.lK P) hlt;refine Fh ?_;try simp only
   refine hK14 _ _ _ ?_;refine lH fun K15 hK15=> ?_
   refine pC ?_;refine pl 6 (by kernel_rfl) rfl fun K16 hK16=> ?_
   iterate 3 refine op (by simp only[go_sem,simprocAttr,y0,y1,y2];and_intros<;>first|rfl|trivial) (by simp only[PS];rfl) ?_
   refine dK (hK16 _ _ _ ?_);refine lH fun K17 hK17=> ?_
   refine pl 9 (by kernel_rfl) rfl fun K18 hK18=> ?_
   iterate 3 refine op (by simp only[go_sem,simprocAttr];and_intros<;>first|rfl|trivial) (by simp only[PS];rfl) ?_
   refine dK (hK18 _ _ _ ?_);refine pC ?_;refine zJ (fun Fz Lz Nz=>∃q:Nat,q<=R[j].length/\Fz=(.any:: .any:: .any:: .any:: .any:: .ptr 1 0:: .any:: .any:: .p (.int .i64 ((R.take j).flatten.length:Int)):: .any:: .p (.sl R[j].length (iV R[j])):: .any:: .any:: .any:: .any:: .any:: .any:: .any:: .any:: .any:: .any:: .any:: .any:: .any:: .any:: .any:: .any:: .any:: .any:: .any:: .any:: .p (.sl R.length (R.map fL)):: .p (.int .i64 (R.length:Int)):: .p (.int .i64 ((j:Nat):Int)):: .any:: .any:: .any:: .any:: .p (.int .i64 (R[j].length:Int)):: .p (.int .i64 ((q:Nat):Int)):: .any:: .any:: .any:: .any:: .any:: .any:: .any:: .any:: .any:: .any:: .any:: .any:: .any:: .any:: .any:: .any:: .any:: .any:: .any:: .any:: .any::[])/\Lz=[(1,some ⟨129,0,List.map AV.p (xP (Geo.rH (Geo.jS (Geo.lK P) 0 (R.take j)) R[j].length (R.take j).flatten.length q))⟩)]/\Nz=2) (fun Fz _=>R[j].length-ctr 39 Fz) ?_ ?_
   ·refine⟨_,_,_,?w4,⟨0,Nat.zero_le _,rfl,rfl,rfl⟩⟩;refine rK [(1,some 1)] (by kernel_rfl) ?_ ?_<;>simp only[go_sem,simprocAttr,Geo.rH,wT] <;>(and_intros<;>first|rfl|exact⟨_,rfl,rfl⟩)
   rintro _ _ _ ⟨q,hq,rfl,rfl,rfl⟩;refine pl 3 (by kernel_rfl) rfl fun K19 hK19=> ?_
   refine op (by simp only[go_sem,simprocAttr];and_intros<;>first|rfl|trivial) (by simp only[PS];rfl) ?_
   refine dK (hK19 _ _ _ ?_);refine lH fun K20 hK20=> ?_
   refine Fk (b:=decide ((q:Int)<(R[j].length:Int))) (by simp only[eG,GD] <;>rfl) (fun h5=> ?_) (fun h5=> ?_)
   ·skip
    have hltq:q<R[j].length:=by have:=of_decide_eq_true h5;omega
    have z8:=Ae (show q<=1000000 by omega)
    have hmod:(q+1) % R[j].length<R[j].length:=Nat.mod_lt _ (by omega)
    have w0:IntKind.i64.wrap (((R.take j).flatten.length:Int)+(q:Int))=(((R.take j).flatten.length+q:Nat):Int):=by rw[<-Ed (show(R.take j).flatten.length+q<=1000000 by omega)];simp
    have w1:(R[j].length:Int)≠0:=by omega
    have w2:Int.tmod ((q+1:Nat):Int) (R[j].length:Int)=(((q+1) % R[j].length:Nat):Int):=by rw[Int.ofNat_tmod]
    have w3:IntKind.i64.wrap (((R.take j).flatten.length:Int)+(((q+1) % R[j].length:Nat):Int))=(((R.take j).flatten.length+(q+1) % R[j].length:Nat):Int):=by rw[<-Ed (show(R.take j).flatten.length+(q+1) % R[j].length<=1000000 by omega)];simp
    have c136:=Ja (Geo.rH (Geo.jS (Geo.lK P) 0 (R.take j)) R[j].length (R.take j).flatten.length q) (show(R.take j).flatten.length+q<80 by omega) (show(R.take j).flatten.length+(q+1) % R[j].length<80 by omega)
    replace c136:xT Tryz.prog 136 none [.int .i64 (((R.take j).flatten.length+q:Nat):Int),.int .i64 (((R.take j).flatten.length+(q+1) % R[j].length:Nat):Int)] 129 0 (xP (Geo.rH (Geo.jS (Geo.lK P) 0 (R.take j)) R[j].length (R.take j).flatten.length q)) (xP (Geo.rH (Geo.jS (Geo.lK P) 0 (R.take j)) R[j].length (R.take j).flatten.length (q+1))):=c136;refine Fh ?_;try simp only
    refine hK20 _ _ _ ?_;refine lH fun K21 hK21=> ?_
    refine pC ?_;refine pl 5 (by kernel_rfl) rfl fun K22 hK22=> ?_
    iterate 2 refine op (by simp only[go_sem,simprocAttr];and_intros<;>first|rfl|trivial) (by simp only[PS];rfl) ?_
    refine dK (hK22 _ _ _ ?_);refine ple 17 (by kernel_rfl) rfl fun K23 hK23=> ?_
    iterate 11 refine op (by simp only[go_sem,simprocAttr,w0,z8,w1,w2,w3];and_intros<;>first|rfl|trivial) (by simp only[PS];rfl) ?_
    refine st 16 12 rfl rfl rfl (by simp only[AOp,eG,GD,qL,LB];exact .inl (Gx rfl rfl c136 ⟨rfl,rfl,rfl⟩)) (by simp only[PS];rfl) (by simp only[GS];rfl) ?_
    refine dK (hK23 _ _ _ ?_);try simp only
    refine hK21 _ _ _ ?_;refine ple 19 (by kernel_rfl) rfl fun K24 hK24=> ?_
    iterate 2 refine op (by simp only[go_sem,simprocAttr,z8];and_intros<;>first|rfl|trivial) (by simp only[PS];rfl) ?_
    refine dK (hK24 _ _ _ ?_);try simp only
    refine⟨_,_,_,?w5,⟨q+1,by omega,rfl,rfl,rfl⟩,?m5⟩
    case m5=>simp only[ctr,List.getD_cons_succ,List.getD_cons_zero,Int.toNat_natCast];omega
    case w5=>
     refine rK [(1,some 1)] (by kernel_rfl) ?_ ?_<;>simp only[go_sem,simprocAttr,wT] <;>(and_intros<;>first|rfl|exact⟨_,rfl,rfl⟩)
   ·skip
    have hkq:q=R[j].length:=by
     have h6:¬((q:Int)<(R[j].length:Int)):=of_decide_eq_false h5;omega
    subst hkq;rw[<-hst];have w5:IntKind.i64.wrap (((R.take j).flatten.length:Int)+(R[j].length:Int))=((R.take (j+1)).flatten.length:Int):=by rw[<-hat,<-Ed (show(R.take j).flatten.length+R[j].length<=1000000 by omega)];simp
    refine Fj ?_;try simp only[IF,Nat.reduceEqDiff]
    refine hK17 _ _ _ ?_;refine ple 8 (by kernel_rfl) rfl fun K25 hK25=> ?_
    iterate 5 refine op (by simp only[go_sem,simprocAttr,w5];and_intros<;>first|rfl|trivial) (by simp only[PS];rfl) ?_
    refine dK (hK25 _ _ _ ?_);try simp only
    refine hK15 _ _ _ ?_;refine ple 10 (by kernel_rfl) rfl fun K26 hK26=> ?_
    iterate 2 refine op (by simp only[go_sem,simprocAttr,y8];and_intros<;>first|rfl|trivial) (by simp only[PS];rfl) ?_
    refine dK (hK26 _ _ _ ?_);try simp only
    refine⟨_,_,_,?w6,⟨j+1,by omega,rfl,rfl,rfl⟩,?m6⟩
    case m6=>simp only[ctr,List.getD_cons_succ,List.getD_cons_zero,Int.toNat_natCast];omega
    case w6=>
     refine rK [(1,some 1)] (by kernel_rfl) ?_ ?_<;>simp only[go_sem,simprocAttr,wT] <;>(and_intros<;>first|rfl|exact⟨_,rfl,rfl⟩)
  ·skip
   have hkl:j=R.length:=by
    have h4:¬((j:Int)<(R.length:Int)):=of_decide_eq_false h3;omega
   subst hkl;rw[List.take_length];refine Fj ?_;try simp only[IF]
   refine hK11 _ _ _ ?_;refine pl 5 (by kernel_rfl) rfl fun K27 hK27=> ?_
   iterate 2 refine op (by simp only[go_sem,simprocAttr];and_intros<;>first|rfl|trivial) (by simp only[PS];rfl) ?_
   refine dK (hK27 _ _ _ ?_);refine Yi ?_;try simp only[IF,reduceCtorEq,Nat.reduceEqDiff]
   simp only[Sk,wF,List.getD_cons_succ,List.getD_cons_zero,mY,iU,look,Option.bind_some,Option.map_some,wU,Option.some.injEq,exists_eq_left',Nr,↓reduceIte]
def tF(T:Geo.Tab):Nat->Bool:=fun k=>T (k/80) (k % 80)
noncomputable def c61:Con:=con (ac aSh (a1 (aL .V))) (fun(s,v)=>[Fit s,Geo.bV s=true,v.length<=80,(∀x∈v,bd 1000000000 x)]) (fun(s,v)=> .ptb (tF (Geo.gU s v)) 6400 0)
theorem k61:c61.Ok Tryz.prog 61:=by
 intro xs x hd hp;obtain⟨s,v⟩:=x;obtain⟨h1,h2,h3,h4⟩:Fit s/\Geo.bV s=true/\v.length<=80/\∀x∈v,bd 1000000000 x:=(fB (l:=[Fit s,Geo.bV s=true,v.length<=80,(∀x∈v,bd 1000000000 x)])).2 hp;refine⟨[gK s,.sl v.length (iV v)],_,?_,rfl,Uh s h1 h2 v h3 ?_ h4⟩
 ·rw[(ac aSh (a1 (aL .V))).ok xs (s,v) hd];show [(aSh.enc s).av,_] =_;rw[Bn];rfl
 ·exact Ee ((Geo.fR s).1 h2)
noncomputable def t61:Tab:=cK [(61,c61)] t62
theorem aJk:t61.Ok Tryz.prog:=aH aMC ⟨k61,trivial⟩
end Go.Proofs.YtdaeofhdgabhjaaGreat
namespace Go.Proofs.YtdaeofhdgabhjaaGreat
open Go.RowKit
open Geo (nth)
def bK(s:Geo.Shape)(v:List Geo.V)(T:Geo.Tab)(i j k:Nat):Bool:=T i k&&(T j k&&Geo.gZ s v i j k)
noncomputable def c21:Con:=con (a1 aSh) (fun s=>[Fit s]) (fun s=> .tup [.lst .R (tOf s),.int .i64 (eOf s)])
set_option maxRecDepth 100000 in
set_option maxHeartbeats 2000000 in
theorem k21:c21.Ok Tryz.prog 21:=aR (bO aJk) (raw:=bT) (fun s=>[(8,.mk Nat (fun F _=>qI F 26) [23] (fun i=>[i<=(vOf s).length]) (fun i=>[(26,.int .i64 (i:Int)),(8,.own 23 .R (kC s (vOf s) (tT s) i).length)]) (fun i=>[(23,.row 23 .R (kC s (vOf s) (tT s) i))]) (fun i=>(vOf s).length-i) fun i=>
  [(11,.mk Nat (fun F _=>qI F 10) [23] (fun j=>[i<j,j<=(vOf s).length]) (fun j=>[(10,.int .i64 (j:Int)),(8,.own 23 .R (tJ s (vOf s) (tT s) i j).length)]) (fun j=>[(23,.row 23 .R (tJ s (vOf s) (tT s) i j))]) (fun j=>(vOf s).length-j) fun j=>
  [(14,.mk Nat (fun F _=>qI F 11) [23] (fun k=>[j<k,k<=(vOf s).length,tT s i j=true\/k=j+1]) (fun k=>[(11,.int .i64 (k:Int)),(8,.own 23 .R (tK s (vOf s) (tT s) i j k).length)]) (fun k=>[(23,.row 23 .R (tK s (vOf s) (tT s) i j k))]) (fun k=>(vOf s).length-k) fun k=>[jb 17 76 (bK s (vOf s) (tT s) i j k)])])])]
  ) (fun _=>⟨_,rfl⟩) fun s hp=>bP (q:=Fit s/\(¬eOf s=0->tOf s=([] :List (List Geo.V))/\eOf s=eOf s)/\
 (¬(¬eOf s=0)->Fit s/\Geo.bV s=true/\(vOf s).length<=80/\(∀x:Geo.V,x∈vOf s->bd 1000000000 x)/\(0=(0:Int)/\(kC s (vOf s) (tT s) 0).length=0/\kC s (vOf s) (tT s) 0=([] :List (List Geo.V))/\(0:Nat)<=(vOf s).length)/\
  (∀x:Nat,x<=(vOf s).length->((x:Int)<(vOf s).length->aE ((x:Int)+1)/\((x:Int)+1=((x+1:Nat):Int)/\(kC s (vOf s) (tT s) x).length=(tJ s (vOf s) (tT s) x (x+1)).length/\kC s (vOf s) (tT s) x=tJ s (vOf s) (tT s) x (x+1)/\x<x+1/\x+1<=(vOf s).length)/\
    (∀x_1:Nat,x<x_1/\x_1<=(vOf s).length->((x_1:Int)<(vOf s).length->aE ((x_1:Int)+1)/\((x_1:Int)+1=((x_1+1:Nat):Int)/\(tJ s (vOf s) (tT s) x x_1).length=(tK s (vOf s) (tT s) x x_1 (x_1+1)).length/\tJ s (vOf s) (tT s) x x_1=tK s (vOf s) (tT s) x x_1 (x_1+1)/\x_1<x_1+1/\x_1+1<=(vOf s).length/\(tT s x x_1=true\/x_1+1=x_1+1))/\
      (∀x_2:Nat,x_1<x_2/\x_2<=(vOf s).length/\(tT s x x_1=true\/x_2=x_1+1)->((x_2:Int)<(vOf s).length->ix (x:Int) 80/\ix (x_1:Int) 80/\0+x*80+x_1*1<6400/\(tF (Geo.gU s (vOf s)) (0+x*80+x_1*1)=true->(ix (x:Int) 80/\ix (x_2:Int) 80/\0+x*80+x_2*1<6400/\(tF (Geo.gU s (vOf s)) (0+x*80+x_2*1)=true->ix (x_1:Int) 80/\ix (x_2:Int) 80/\0+x_1*80+x_2*1<6400/\(tF (Geo.gU s (vOf s)) (0+x_1*80+x_2*1)=true->x<(vOf s).length/\x_1<(vOf s).length/\x_2<(vOf s).length/\(vOf s).length<=900/\(∀x:Geo.V,x∈vOf s->bd 1000000000 x)/\Fit s/\Geo.gZ s (vOf s) x x_1 x_2=bK s (vOf s) (tT s) x x_1 x_2)/\
           (tF (Geo.gU s (vOf s)) (0+x_1*80+x_2*1)=false->false=bK s (vOf s) (tT s) x x_1 x_2))/\
          (tF (Geo.gU s (vOf s)) (0+x*80+x_2*1)=false->false=bK s (vOf s) (tT s) x x_1 x_2))/\
         (∀y:Unit,(bK s (vOf s) (tT s) x x_1 x_2=true->ix (x:Int) (vOf s).length/\ix (x_1:Int) (vOf s).length/\ix (x_2:Int) (vOf s).length/\bd 1000000000 (nth (vOf s) x)/\bd 1000000000 (nth (vOf s) x_1)/\bd 1000000000 (nth (vOf s) x_2)/\(tK s (vOf s) (tT s) x x_1 x_2).length=(tK s (vOf s) (tT s) x x_1 x_2).length/\(tK s (vOf s) (tT s) x x_1 x_2).length+[Geo.kA (nth (vOf s) x) (nth (vOf s) x_1) (nth (vOf s) x_2)].length<=1000000/\aE ((x_2:Int)+1)/\(x_2:Int)+1=((x_2+1:Nat):Int)/\(tK s (vOf s) (tT s) x x_1 x_2++[Geo.kA (nth (vOf s) x) (nth (vOf s) x_1) (nth (vOf s) x_2)]).length=(tK s (vOf s) (tT s) x x_1 (x_2+1)).length/\tK s (vOf s) (tT s) x x_1 x_2++[Geo.kA (nth (vOf s) x) (nth (vOf s) x_1) (nth (vOf s) x_2)] =tK s (vOf s) (tT s) x x_1 (x_2+1)/\x_1<x_2+1/\x_2+1<=(vOf s).length/\(tT s x x_1=true\/x_2+1=x_1+1)/\(vOf s).length-(x_2+1)<(vOf s).length-x_2)/\
          (bK s (vOf s) (tT s) x x_1 x_2=false->aE ((x_2:Int)+1)/\(x_2:Int)+1=((x_2+1:Nat):Int)/\(tK s (vOf s) (tT s) x x_1 x_2).length=(tK s (vOf s) (tT s) x x_1 (x_2+1)).length/\tK s (vOf s) (tT s) x x_1 x_2=tK s (vOf s) (tT s) x x_1 (x_2+1)/\x_1<x_2+1/\x_2+1<=(vOf s).length/\(tT s x x_1=true\/x_2+1=x_1+1)/\(vOf s).length-(x_2+1)<(vOf s).length-x_2)))/\
        (tF (Geo.gU s (vOf s)) (0+x*80+x_1*1)=false->aE ((x_1:Int)+1)/\(x_1:Int)+1=((x_1+1:Nat):Int)/\(tK s (vOf s) (tT s) x x_1 x_2).length=(tJ s (vOf s) (tT s) x (x_1+1)).length/\tK s (vOf s) (tT s) x x_1 x_2=tJ s (vOf s) (tT s) x (x_1+1)/\x<x_1+1/\x_1+1<=(vOf s).length/\(vOf s).length-(x_1+1)<(vOf s).length-x_1))/\
       (¬(x_2:Int)<(vOf s).length->aE ((x_1:Int)+1)/\(x_1:Int)+1=((x_1+1:Nat):Int)/\(tK s (vOf s) (tT s) x x_1 x_2).length=(tJ s (vOf s) (tT s) x (x_1+1)).length/\tK s (vOf s) (tT s) x x_1 x_2=tJ s (vOf s) (tT s) x (x_1+1)/\x<x_1+1/\x_1+1<=(vOf s).length/\(vOf s).length-(x_1+1)<(vOf s).length-x_1)))/\
     (¬(x_1:Int)<(vOf s).length->aE ((x:Int)+1)/\(x:Int)+1=((x+1:Nat):Int)/\(tJ s (vOf s) (tT s) x x_1).length=(kC s (vOf s) (tT s) (x+1)).length/\tJ s (vOf s) (tT s) x x_1=kC s (vOf s) (tT s) (x+1)/\x+1<=(vOf s).length/\(vOf s).length-(x+1)<(vOf s).length-x)))/\
   (¬(x:Int)<(vOf s).length->(kC s (vOf s) (tT s) x).length=(kC s (vOf s) (tT s) x).length/\(kC s (vOf s) (tT s) x).length<=1000000/\(∀r:Geo.aC,r∈kC s (vOf s) (tT s) x->r.length<=1000)/\(kC s (vOf s) (tT s) x).length=(r68 (kC s (vOf s) (tT s) x,true)).length/\r68 (kC s (vOf s) (tT s) x,true)=tOf s/\0=eOf s)))) (by kernel_rfl) (by
  change Fit s at hp;have R:¬¬eOf s=0->Geo.bD s=true:=fun h=>Mj h
  have hvP:¬¬eOf s=0->Geo.bV s=true:=fun h=>by rw[Geo.mB];exact R h
  have t0:¬eOf s=0->tOf s=[] :=fun h=>by
   unfold eOf at h;split at h
   ·exact(h rfl).elim
   ·exact if_neg ‹_›
  have hv:=Kt s;have hv9:(vOf s).length<=900:=by omega
  have hvm:∀x∈vOf s,bd 1000000000 x:=fun x hx=>by
   obtain⟨i,hi,rfl⟩:=Geo.fU.1 hx;exact Ss hi (by decide)
  have hb:∀x:Nat,(x:Int)<(vOf s).length->bd 1000000000 (nth (vOf s) x):=fun x h=>Ss (by omega) (by decide)
  have gF:∀(i j:Nat) (b:Bool),(j:Int)<(vOf s).length->tF (Geo.gU s (vOf s)) (0+i*80+j*1)=b->tT s i j=b:=fun i j b h h2=>by
   unfold tF at h2;rw[show(0+i*80+j*1)/80=i by omega,show(0+i*80+j*1) % 80=j by omega]at h2
   exact h2
  have x80:∀i:Nat,(i:Int)<(vOf s).length->ix (i:Int) 80:=fun i h=>nB (by omega)
  have xvl:∀i:Nat,(i:Int)<(vOf s).length->ix (i:Int) (vOf s).length:=fun i h=>nB (by omega)
  have i64:∀i:Nat,(i:Int)<(vOf s).length->aE ((i:Int)+1):=fun i h=>eC (by omega)
  have kS:∀i j k:Nat,j<k->tK s (vOf s) (tT s) i j (k+1)=if bK s (vOf s) (tT s) i j k=true then tK s (vOf s) (tT s) i j k++[Geo.kA (nth (vOf s) i) (nth (vOf s) j) (nth (vOf s) k)]else tK s (vOf s) (tT s) i j k:=fun i j k h=>by rw[aD9 h];rfl
  have kY:∀i j k:Nat,j<k->bK s (vOf s) (tT s) i j k=true->tK s (vOf s) (tT s) i j k++[Geo.kA (nth (vOf s) i) (nth (vOf s) j) (nth (vOf s) k)] =tK s (vOf s) (tT s) i j (k+1):=fun i j k h h2=>by rw[kS i j k h,if_pos h2]
  have kN:∀i j k:Nat,j<k->bK s (vOf s) (tT s) i j k=false->tK s (vOf s) (tT s) i j k=tK s (vOf s) (tT s) i j (k+1):=fun i j k h h2=>by rw[kS i j k h,if_neg (by rw[h2];simp)]
  have kZ:∀i j:Nat,tT s i j=false->i<j->tK s (vOf s) (tT s) i j (j+1)=tJ s (vOf s) (tT s) i (j+1):=fun i j h h2=>Wp.trans (aL7 h h2)
  have kE:∀i j k:Nat,¬(k:Int)<(vOf s).length->k<=(vOf s).length->(tT s i j=true\/k=j+1)->i<j->tK s (vOf s) (tT s) i j k=tJ s (vOf s) (tT s) i (j+1):=fun i j k h1 h2 h3 h4=>by
   cases hT:tT s i j with
   |true=>exact aHI h1 hT h4 h2
   |false=>
    rcases h3 with h3|rfl
    ·rw[hT]at h3;cases h3
    ·exact kZ i j hT h4
  have kF:∀i j k:Nat,(j:Int)<(vOf s).length->tF (Geo.gU s (vOf s)) (0+i*80+j*1)=false->(tT s i j=true\/k=j+1)->i<j->tK s (vOf s) (tT s) i j k=tJ s (vOf s) (tT s) i (j+1):=fun i j k h1 h2 h3 h4=>by
   have hT:=gF i j _ h1 h2;rcases h3 with h3|rfl
   ·rw[hT]at h3;cases h3
   ·exact kZ i j hT h4
  have jE:∀i j:Nat,¬(j:Int)<(vOf s).length->j<=(vOf s).length->tJ s (vOf s) (tT s) i j=kC s (vOf s) (tT s) (i+1):=fun i j h1 h2=>aHJ h1 h2
  have bE:∀i j k:Nat,(k:Int)<(vOf s).length->tF (Geo.gU s (vOf s)) (0+i*80+k*1)=true->tF (Geo.gU s (vOf s)) (0+j*80+k*1)=true->Geo.gZ s (vOf s) i j k=bK s (vOf s) (tT s) i j k:=fun i j k h h1 h2=>by
   unfold bK;rw[gF i k _ h h1,gF j k _ h h2];rfl
  have bN1:∀i j k:Nat,(k:Int)<(vOf s).length->tF (Geo.gU s (vOf s)) (0+i*80+k*1)=false->false=bK s (vOf s) (tT s) i j k:=fun i j k h h1=>by
   unfold bK;rw[gF i k _ h h1];rfl
  have bN2:∀i j k:Nat,(k:Int)<(vOf s).length->tF (Geo.gU s (vOf s)) (0+j*80+k*1)=false->false=bK s (vOf s) (tT s) i j k:=fun i j k h h1=>by
   unfold bK;rw[gF j k _ h h1];simp
  have kL:∀i j k:Nat,(i:Int)<(vOf s).length->(j:Int)<(vOf s).length->k<=(vOf s).length->(tK s (vOf s) (tT s) i j k).length<=600000:=fun i j k h1 h2 h3=>by
   have:=aHH (s:=s) (T:=tT s) (i:=i) (j:=j) (k:=k) (show(vOf s).length<=80 from hv) (by omega) (by omega) h3
   rwa[(Geo.lV _).length_eq]at this
  have iL:∀i:Nat,i<=(vOf s).length->(kC s (vOf s) (tT s) i).length<=600000:=fun i h=>by
   have h3:=qT s (vOf s) (tT s) i;have h4:(vOf s).length*(vOf s).length<=80*80:=Nat.mul_le_mul hv hv;have h5:i*((vOf s).length*(vOf s).length)<=80*(80*80):=Nat.mul_le_mul (by omega) h4
   omega
  have iM:∀i:Nat,∀r∈kC s (vOf s) (tT s) i,r.length<=1000:=fun i r hr=>by have:=Gu s (vOf s) (tT s) i r hr;omega
  have iE:¬¬eOf s=0->∀i:Nat,¬(i:Int)<(vOf s).length->i<=(vOf s).length->r68 (kC s (vOf s) (tT s) i,true)=tOf s:=fun h i h1 h2=>by
   unfold tOf;rw[if_pos (R h),show i=(vOf s).length by omega];rfl
  have r68L:∀l,(r68 (l,true)).length=l.length:=fun l=>(Geo.lV l).length_eq
  have z0:=fun i=> @aEa s (vOf s) (tT s) i
  have z1:=fun i j=> @Wp s (vOf s) (tT s) i j
  have hf:=hp;clear hp kS kZ R
  repeat' first|with_reducible apply And.intro|with_reducible intro
  all_goals repeat with_reducible cases‹_<_/\_›
  all_goals repeat with_reducible cases‹_<=_/\_›
  all_goals first|assumption|rfl|omega|exact t0 ‹_› |exact hvP ‹_› |exact hvm _ ‹_› |exact hb _ ‹_› |(unfold ix;omega)|(unfold aE;omega)|exact(z0 _).symm|exact(z1 _ _).symm|exact congrArg List.length (z0 _).symm|exact congrArg List.length (z1 _ _).symm|exact .inr rfl|exact .inl (gF _ _ _ ‹_› ‹_›)|exact kY _ _ _ ‹_› ‹_› |exact congrArg List.length (kY _ _ _ ‹_› ‹_›)|exact kN _ _ _ ‹_› ‹_› |exact congrArg List.length (kN _ _ _ ‹_› ‹_›)|exact kF _ _ _ ‹_› ‹_› ‹_› ‹_› |exact congrArg List.length (kF _ _ _ ‹_› ‹_› ‹_› ‹_›)|exact kE _ _ _ ‹_› ‹_› ‹_› ‹_› |exact congrArg List.length (kE _ _ _ ‹_› ‹_› ‹_› ‹_›)|exact jE _ _ ‹_› ‹_› |exact congrArg List.length (jE _ _ ‹_› ‹_›)|exact bE _ _ _ ‹_› ‹_› ‹_› |exact bN1 _ _ _ ‹_› ‹_› |exact bN2 _ _ _ ‹_› ‹_› |exact Nat.le_trans (Nat.add_le_add_right (kL _ _ _ ‹_› ‹_› ‹_›) 1) (by decide)|exact Nat.le_trans (iL _ ‹_›) (by decide)|exact iM _ _ ‹_› |exact(r68L _).symm|exact iE ‹_› _ ‹_› ‹_› |exact(Decidable.of_not_not ‹¬¬eOf s=0›).symm)
noncomputable def t21:Tab:=cK [(21,c21)] t61
theorem aJB:t21.Ok Tryz.prog:=aH aJk ⟨k21,trivial⟩
end Go.Proofs.YtdaeofhdgabhjaaGreat
namespace Go.Proofs.YtdaeofhdgabhjaaGreat.Geo
structure P3 where
 x:Int
 y:Int
 d:Int
def ev(h p:P3):Int:=h.x*p.x+h.y*p.y+h.d*p.d
def cmb(m:Int)(p:P3)(n:Int)(q:P3):P3:=⟨m*p.x+n*q.x,m*p.y+n*q.y,m*p.d+n*q.d⟩
theorem aM(h p q:P3)(m n:Int):ev h (cmb m p n q)=m*ev h p+n*ev h q:=by unfold ev cmb;grind
def Sat(L:List P3):Prop:=∃p:P3,0<p.d/\∀h∈L,0<ev h p
def pos(n:Int):Int:=if 0<n then n else 0
theorem Sat.sub{L M:List P3}(h:Sat L)(hs:∀x∈M,x∈L):Sat M:=by
 obtain⟨p,hp,f⟩:=h;exact⟨p,hp,fun x hx=>f x (hs x hx)⟩
end Go.Proofs.YtdaeofhdgabhjaaGreat.Geo
namespace Go.Proofs.YtdaeofhdgabhjaaGreat.Geo
def lin(u v:V):P3:=⟨-(v.y-u.y),v.x-u.x,(v.y-u.y)*u.x-(v.x-u.x)*u.y⟩
def pt(v:V):P3:=⟨v.x,v.y,1⟩
theorem jW(u v w:V):ev (lin u v) (pt w)=cross (sub v u) (sub w u):=by unfold ev lin pt cross sub;grind
theorem bB(u v:V):ev (lin u v) (pt u)=0:=by unfold ev lin pt;grind
theorem bR(u v:V):ev (lin u v) (pt v)=0:=by unfold ev lin pt;grind
theorem xJ{n1 d1 n2 d2 n3 d3:Int}(h1:0<d1)(h2:0<d2)(h3:0<d3)(a:n1*d2<=n2*d1)(b:n2*d3<n3*d2):n1*d3<n3*d1:=by
 have e1:=Int.mul_le_mul_of_nonneg_right a (show 0<=d3 by omega)
 have e2:=Int.mul_lt_mul_of_pos_right b h1;have:(n1*d3)*d2<(n3*d1)*d2:=by grind
 exact Int.lt_of_mul_lt_mul_right this (by omega)
theorem xI{n1 d1 n2 d2 n3 d3:Int}(h1:0<d1)(h2:0<d2)(h3:0<d3)(a:n1*d2<n2*d1)(b:n2*d3<=n3*d2):n1*d3<n3*d1:=by
 have e1:=Int.mul_lt_mul_of_pos_right a h3;have e2:=Int.mul_le_mul_of_nonneg_right b (show 0<=d1 by omega)
 have:(n1*d3)*d2<(n3*d1)*d2:=by grind
 exact Int.lt_of_mul_lt_mul_right this (by omega)
def lL:List (Int×Int)->Int->Int->Int->Int->Bool
 |[],ln,ld,hn,hd=>decide (ln*hd<hn*ld)
 |(a,b)::l,ln,ld,hn,hd=>
  if a<=0/\b<=0 then false
  else if a<0 then(if ln*(b-a)< -a*ld then lL l (-a) (b-a) hn hd else lL l ln ld hn hd)
  else if b<0 then(if a*hd<hn*(a-b)then lL l ln ld a (a-b)else lL l ln ld hn hd)
  else lL l ln ld hn hd
theorem nI:∀(l:List (Int×Int)) (ln ld hn hd:Int),0<=ln->0<ld->0<hd->hn<=hd->
  (lL l ln ld hn hd=true↔∃x y:Int,0<x/\0<y/\(∀p∈l,0<p.1*x+p.2*y)/\ln*(x+y)<y*ld/\y*hd<hn*(x+y))
 |[],ln,ld,hn,hd,h1,h2,h3,h4=>by
  simp only[lL,decide_eq_true_eq,List.not_mem_nil,false_imp_iff,implies_true,true_and];constructor
  ·intro h;have hn0:0<hn:=by
    rcases Int.lt_or_le 0 hn with h5|h5
    ·exact h5
    ·have:=Int.mul_nonneg h1 (show 0<=hd by omega)
     have:=Int.mul_nonneg (show 0<= -hn by omega) (show 0<=ld by omega)
     rw[Int.neg_mul]at this;omega
   have hl:ln<ld:=by
    rcases Int.lt_or_le ln ld with h5|h5
    ·exact h5
    ·have e1:=Int.mul_le_mul_of_nonneg_right h5 (show 0<=hd by omega)
     have e2:=Int.mul_le_mul_of_nonneg_right h4 (show 0<=ld by omega)
     rw[Int.mul_comm hd ld]at e2;omega
   refine⟨(ld-ln)+(hd-hn),ln+hn,by omega,by omega,?_,?_⟩
   ·have:ln*((ld-ln)+(hd-hn)+(ln+hn))=ln*ld+ln*hd:=by grind
    rw[this,Int.add_mul];omega
   ·have:hn*((ld-ln)+(hd-hn)+(ln+hn))=hn*ld+hn*hd:=by grind
    rw[this,Int.add_mul];omega
  ·rintro⟨x,y,hx,hy,a,b⟩;have a':ln*(x+y)<=y*ld:=by omega
   exact xJ (n2:=y) (d2:=x+y) h2 (by omega) h3 a' b
 |(a,b)::l,ln,ld,hn,hd,h1,h2,h3,h4=>by
  have e1:∀x y:Int,(∀p∈(a,b)::l,0<p.1*x+p.2*y)↔(0<a*x+b*y/\∀p∈l,0<p.1*x+p.2*y):=by intro x y;simp
  simp only[e1];unfold lL;by_cases c1:a<=0/\b<=0
  ·rw[if_pos c1];constructor
   ·intro h;cases h
   ·rintro⟨x,y,hx,hy,⟨h5,_⟩,_⟩;have:=Int.mul_nonneg (show 0<= -a by omega) (show 0<=x by omega)
    have:=Int.mul_nonneg (show 0<= -b by omega) (show 0<=y by omega)
    rw[Int.neg_mul]at*;omega
  ·rw[if_neg c1];by_cases c2:a<0
   ·have hb:0<b:=by omega
    have hba:0<b-a:=by omega
    have e2:∀x y:Int,0<a*x+b*y↔ -a*(x+y)<y*(b-a):=by intro x y;constructor<;>intro h<;>grind
    rw[if_pos c2];by_cases c3:ln*(b-a)< -a*ld
    ·rw[if_pos c3,nI l (-a) (b-a) hn hd (by omega) hba h3 h4]
     constructor
     ·rintro⟨x,y,hx,hy,h5,h6,h7⟩;exact⟨x,y,hx,hy,⟨(e2 x y).2 h6,h5⟩,xJ (n2:= -a) (d2:=b-a) h2 hba (by omega) (by omega) h6,h7⟩
     ·rintro⟨x,y,hx,hy,⟨h5,h6⟩,h7,h8⟩;exact⟨x,y,hx,hy,h6,(e2 x y).1 h5,h8⟩
    ·rw[if_neg c3,nI l ln ld hn hd h1 h2 h3 h4];constructor
     ·rintro⟨x,y,hx,hy,h5,h6,h7⟩;exact⟨x,y,hx,hy,⟨(e2 x y).2 (xJ (n2:=ln) (d2:=ld) hba h2 (by omega) (by omega) h6),h5⟩,h6,h7⟩
     ·rintro⟨x,y,hx,hy,⟨h5,h6⟩,h7,h8⟩;exact⟨x,y,hx,hy,h6,h7,h8⟩
   ·rw[if_neg c2];by_cases c4:b<0
    ·have ha:0<a:=by omega
     have hab:0<a-b:=by omega
     have e2:∀x y:Int,0<a*x+b*y↔y*(a-b)<a*(x+y):=by intro x y;constructor<;>intro h<;>grind
     rw[if_pos c4];by_cases c3:a*hd<hn*(a-b)
     ·rw[if_pos c3,nI l ln ld a (a-b) h1 h2 hab (by omega)]
      constructor
      ·rintro⟨x,y,hx,hy,h5,h6,h7⟩;exact⟨x,y,hx,hy,⟨(e2 x y).2 h7,h5⟩,h6,xI (n2:=a) (d2:=a-b) (by omega) hab h3 h7 (by omega)⟩
      ·rintro⟨x,y,hx,hy,⟨h5,h6⟩,h7,h8⟩;exact⟨x,y,hx,hy,h6,h7,(e2 x y).1 h5⟩
     ·rw[if_neg c3,nI l ln ld hn hd h1 h2 h3 h4];constructor
      ·rintro⟨x,y,hx,hy,h5,h6,h7⟩;exact⟨x,y,hx,hy,⟨(e2 x y).2 (xI (n2:=hn) (d2:=hd) (by omega) h3 hab h7 (by omega)),h5⟩,h6,h7⟩
      ·rintro⟨x,y,hx,hy,⟨h5,h6⟩,h7,h8⟩;exact⟨x,y,hx,hy,h6,h7,h8⟩
    ·rw[if_neg c4,nI l ln ld hn hd h1 h2 h3 h4];constructor
     ·rintro⟨x,y,hx,hy,h5,h6,h7⟩;refine⟨x,y,hx,hy,⟨?_,h5⟩,h6,h7⟩;have g1:=Int.mul_nonneg (show 0<=a by omega) (show 0<=x by omega)
      have g2:=Int.mul_nonneg (show 0<=b by omega) (show 0<=y by omega)
      rcases Int.lt_or_le 0 a with h|h
      ·have:=Int.mul_pos h hx;omega
      ·have:=Int.mul_pos (show 0<b by omega) hy;omega
     ·rintro⟨x,y,hx,hy,⟨h5,h6⟩,h7,h8⟩;exact⟨x,y,hx,hy,h6,h7,h8⟩
structure Poly(F:List P3)(Vs:List V)(Es:List S)(c:P3):Prop where
 nonneg:∀f∈F,∀v∈Vs,0<=ev f (pt v)
 cd:0<c.d
 cin:∀f∈F,0<ev f c
 ends:∀s∈Es,s.a∈Vs/\s.b∈Vs
 side:∀q:P3,0<q.d->(∃f∈F,ev f q=0)->(∀f∈F,0<=ev f q)->∃s∈Es,∃x y k:Int,0<=x/\0<=y/\0<k/\∀h:P3,k*ev h q=x*ev h (pt s.a)+y*ev h (pt s.b)
 hull:∀q:P3,(∀f∈F,0<ev f q)->∀h:P3,(∀v∈Vs,ev h (pt v)<=0)->ev h q<=0
theorem big(q c:P3):∀(G:List P3),(∀g∈G,0<ev g q)->∃N:Int,1<=N/\∀g∈G,0<N*ev g q+ev g c
 |[],_=>⟨1,by decide,fun g hg=>by cases hg⟩
 |g::G,h=>by
  obtain⟨N,h1,h2⟩:=big q c G (fun g hg=>h g (List.mem_cons_of_mem _ hg))
  have hg:=h g List.mem_cons_self;refine⟨N+(ev g c).natAbs,by omega,?_⟩
  intro f hf;rcases List.mem_cons.1 hf with rfl|hf
  ·have:(N+(ev f c).natAbs)*1<=(N+(ev f c).natAbs)*ev f q:=Int.mul_le_mul_of_nonneg_left (by omega) (by omega)
   omega
  ·have:=h2 f hf;have h3:=h f (List.mem_cons_of_mem _ hf);have:=Int.mul_nonneg (show 0<=((ev g c).natAbs:Int) by omega) (show 0<=ev f q by omega)
   rw[Int.add_mul];omega
def aIQ(G:List P3)(s:S):Prop:=∃x y:Int,0<x/\0<y/\∀g∈G,0<ev g (pt s.a)*x+ev g (pt s.b)*y
theorem aG9(p c:P3)(hp:0<p.d)(hc:0<c.d):∀(G:List P3),(∀g∈G,0<ev g p)->
  ∃m n:Int,0<=m/\0<=n/\0<m+n/\(∀g∈G,0<=ev g (cmb m p n c))/\((∃g∈G,ev g (cmb m p n c)=0)\/(m=0/\∀g∈G,0<ev g c))
 |[],_=>⟨0,1,by omega,by omega,by omega,(fun g hg=>by cases hg),.inr ⟨rfl,(fun g hg=>by cases hg)⟩⟩
 |g::G,h=>by
  obtain⟨m,n,hm,hn,hmn,h1,h2⟩:=aG9 p c hp hc G (fun g hg=>h g (List.mem_cons_of_mem _ hg))
  have hg:=h g List.mem_cons_self;rcases Int.lt_trichotomy (ev g (cmb m p n c)) 0 with h3|h3|h3
  ·
   have hq:=aM g p c m n;refine⟨-(ev g (cmb m p n c))+ev g p*m,ev g p*n,?_,?_,?_,?_,.inl ⟨g,List.mem_cons_self,?_⟩⟩
   ·have:=Int.mul_nonneg (show 0<=ev g p by omega) hm;omega
   ·exact Int.mul_nonneg (by omega) hn
   ·have e1:=Int.mul_nonneg (show 0<=ev g p by omega) hm
    have e2:=Int.mul_nonneg (show 0<=ev g p by omega) hn
    omega
   ·intro f hf;rcases List.mem_cons.1 hf with rfl|hf
    ·rw[aM];have:(-(ev f (cmb m p n c))+ev f p*m)*ev f p+ev f p*n*ev f c=0:=by rw[hq];grind
     omega
    ·have e1:=h1 f hf;have e2:=h f (List.mem_cons_of_mem _ hf);have e3:=Int.mul_nonneg (show 0<=ev g p by omega) e1
     have e4:=Int.mul_nonneg (show 0<= -(ev g (cmb m p n c)) by omega) (show 0<=ev f p by omega)
     have e5:=aM f p c m n;rw[aM];have:(-(ev g (cmb m p n c))+ev g p*m)*ev f p+ev g p*n*ev f c= -(ev g (cmb m p n c))*ev f p+ev g p*ev f (cmb m p n c):=by rw[e5];grind
     omega
   ·rw[aM,hq];grind
  ·refine⟨m,n,hm,hn,hmn,?_,.inl ⟨g,List.mem_cons_self,h3⟩⟩;intro f hf;rcases List.mem_cons.1 hf with rfl|hf
   ·omega
   ·exact h1 f hf
  ·refine⟨m,n,hm,hn,hmn,?_,?_⟩
   ·intro f hf;rcases List.mem_cons.1 hf with rfl|hf
    ·omega
    ·exact h1 f hf
   ·rcases h2 with⟨f,hf,h4⟩|⟨rfl,h4⟩
    ·exact .inl ⟨f,List.mem_cons_of_mem _ hf,h4⟩
    ·refine .inr ⟨rfl,?_⟩;intro f hf;rcases List.mem_cons.1 hf with rfl|hf
     ·rw[aM]at h3;have hn0:0<n:=by omega
      have:0<n*ev f c:=by omega
      exact Int.pos_of_mul_pos_right this hn0|>fun h=>h
     ·exact h4 f hf
end Go.Proofs.YtdaeofhdgabhjaaGreat.Geo
set_option linter.unusedSimpArgs false
namespace Go.Proofs.YtdaeofhdgabhjaaGreat.Geo
theorem iY(a b:Int):(0<a->0<b->0<a*b)/\(a<0->b<0->0<a*b)/\(0<a->b<0->a*b<0)/\(a<0->0<b->a*b<0)/\(a=0->a*b=0)/\(b=0->a*b=0):=
 ⟨Int.mul_pos,Int.mul_pos_of_neg_of_neg,Int.mul_neg_of_pos_of_neg,Int.mul_neg_of_neg_of_pos,fun h=>by rw[h,Int.zero_mul],fun h=>by rw[h,Int.mul_zero]⟩
def onC(x1 y1 x2 y2 c:Int):Bool:=c==0&&(decide (min x1 x2<=0)&&decide (0<=max x1 x2))&&(decide (min y1 y2<=0)&&decide (0<=max y1 y2))
def zW(y1 y2 c:Int):Bool:=(decide (0<=y1) !=decide (0<=y2))&&(decide (0<=y1)==decide (0<c))
theorem Su{y1 y2 y3 c1 c2 c3:Int}(h0:c2*y1+c3*y2+c1*y3=0)(hs:0<c1+c2+c3)(h1:0<=y1)(h2:y2<0)(h3:y3<0)(hc1:c1≠0)(hc3:c3≠0):
  ((0<c1↔0<c3))↔(0<c1/\0<c2/\0<c3):=by
 constructor
 ·intro h;rcases Int.lt_or_gt_of_ne hc1 with h4|h4
  ·have h5:c3<0:=by omega
   have e1:=(iY c3 y2).2.1 h5 h2;have e2:=(iY c1 y3).2.1 h4 h3;have h6:0<c2:=by omega
   rcases Int.lt_or_eq_of_le h1 with h7|h7
   ·have:=(iY c2 y1).1 h6 h7;omega
   ·have:=(iY c2 y1).2.2.2.2.2 h7.symm;omega
  ·have h5:=h.1 h4;have e1:=(iY c3 y2).2.2.1 h5 h2;have e2:=(iY c1 y3).2.2.1 h4 h3;refine⟨h4,?_,h5⟩;rcases Int.lt_trichotomy c2 0 with h6|h6|h6
   ·rcases Int.lt_or_eq_of_le h1 with h7|h7
    ·have:=(iY c2 y1).2.2.2.1 h6 h7;omega
    ·have:=(iY c2 y1).2.2.2.2.2 h7.symm;omega
   ·have:=(iY c2 y1).2.2.2.2.1 h6;omega
   ·exact h6
 ·rintro⟨h4,h5,h6⟩;exact⟨fun _=>h6,fun _=>h4⟩
theorem Ef{x1 x2 x3 y1 y2 y3:Int}(hs:0<(x1*y2-y1*x2)+(x2*y3-y2*x3)+(x3*y1-y3*x1))(h1:y1<0)(h2:0<=y2)(h3:0<=y3)
  (hc1:x1*y2-y1*x2≠0) (hc3:x3*y1-y3*x1≠0) (hn:onC x2 y2 x3 y3 (x2*y3-y2*x3)=false):
  ((0<x1*y2-y1*x2↔0<x3*y1-y3*x1))↔(0<x1*y2-y1*x2/\0<x2*y3-y2*x3/\0<x3*y1-y3*x1):=by
 have h0:(x2*y3-y2*x3)*y1+(x3*y1-y3*x1)*y2+(x1*y2-y1*x2)*y3=0:=by grind
 have f1:y2=0->x1*y2-y1*x2= -(y1*x2):=by intro h;subst h;omega
 have f3:y3=0->x3*y1-y3*x1=x3*y1:=by intro h;subst h;omega
 generalize x1*y2-y1*x2=c1 at*;generalize x2*y3-y2*x3=c2 at*;generalize x3*y1-y3*x1=c3 at*;constructor
 ·intro h;have hQ:(c3<0->c3*y2<=0)/\(0<c3->0<=c3*y2):=by
   rcases Int.lt_or_eq_of_le h2 with h7|h7
   ·exact⟨fun h=>Int.le_of_lt ((iY c3 y2).2.2.2.1 h h7),fun h=>Int.le_of_lt ((iY c3 y2).1 h h7)⟩
   ·have:=(iY c3 y2).2.2.2.2.2 h7.symm;exact⟨fun _=>by omega,fun _=>by omega⟩
  have hR:(c1<0->c1*y3<=0)/\(0<c1->0<=c1*y3):=by
   rcases Int.lt_or_eq_of_le h3 with h7|h7
   ·exact⟨fun h=>Int.le_of_lt ((iY c1 y3).2.2.2.1 h h7),fun h=>Int.le_of_lt ((iY c1 y3).1 h h7)⟩
   ·have:=(iY c1 y3).2.2.2.2.2 h7.symm;exact⟨fun _=>by omega,fun _=>by omega⟩
  rcases Int.lt_or_gt_of_ne hc1 with h4|h4
  ·have h5:c3<0:=by omega
   have h6:0<c2:=by omega
   have:=(iY c2 y1).2.2.1 h6 h1;have:=hQ.1 h5;have:=hR.1 h4;omega
  ·have h5:=h.1 h4;refine⟨h4,?_,h5⟩;rcases Int.lt_trichotomy c2 0 with h6|h6|h6
   ·have:=(iY c2 y1).2.1 h6 h1;have:=hQ.2 h5;have:=hR.2 h4;omega
   ·exfalso;have hP:=(iY c2 y1).2.2.2.2.1 h6;have e1:=hQ.2 h5;have e2:=hR.2 h4;have z2:y2=0:=by
     rcases Int.lt_or_eq_of_le h2 with h7|h7
     ·have:=(iY c3 y2).1 h5 h7;omega
     ·exact h7.symm
    have z3:y3=0:=by
     rcases Int.lt_or_eq_of_le h3 with h7|h7
     ·have:=(iY c1 y3).1 h4 h7;omega
     ·exact h7.symm
    have k1:=f1 z2;have k3:=f3 z3;have m2:0<x2:=by
     rcases Int.lt_trichotomy x2 0 with h8|h8|h8
     ·have:=(iY y1 x2).2.1 h1 h8;omega
     ·have:=(iY y1 x2).2.2.2.2.2 h8;omega
     ·exact h8
    have m3:x3<0:=by
     rcases Int.lt_trichotomy x3 0 with h8|h8|h8
     ·exact h8
     ·have:=(iY x3 y1).2.2.2.2.1 h8;omega
     ·have:=(iY x3 y1).2.2.1 h8 h1;omega
    have:onC x2 y2 x3 y3 c2=true:=by
     unfold onC;simp;omega
    rw[this]at hn;cases hn
   ·exact h6
 ·rintro⟨h4,h5,h6⟩;exact⟨fun _=>h6,fun _=>h4⟩
theorem aH1{x1 y1 x2 y2:Int}(h:x1*y2-y1*x2=0)(h1:0<=y1)(h2:y2<0):onC x1 y1 x2 y2 (x1*y2-y1*x2)=true:=by
 unfold onC;rw[h];obtain⟨a1,a2,a3,a4,a5,a6⟩:=iY x1 y2;obtain⟨b1,b2,b3,b4,b5,b6⟩:=iY y1 x2;simp;rcases Int.lt_trichotomy x1 0 with h3|h3|h3
 ·have:=a2 h3 h2;have:0<y1/\0<x2:=by
   rcases Int.lt_or_eq_of_le h1 with h4|h4
   ·refine⟨h4,?_⟩;rcases Int.lt_trichotomy x2 0 with h5|h5|h5
    ·have:=b3 h4 h5;omega
    ·have:=b6 h5;omega
    ·exact h5
   ·have:=b5 h4.symm;omega
  omega
 ·omega
 ·have:=a3 h3 h2;have:x2<0:=by
   rcases Int.lt_trichotomy x2 0 with h5|h5|h5
   ·exact h5
   ·have:=b6 h5;omega
   ·rcases Int.lt_or_eq_of_le h1 with h4|h4
    ·have:=b1 h4 h5;omega
    ·have:=b5 h4.symm;omega
  omega
theorem aCv(x1 y1 x2 y2:Int):onC x1 y1 x2 y2 (x1*y2-y1*x2)=onC x2 y2 x1 y1 (x2*y1-y2*x1):=by
 unfold onC;have:(x1*y2-y1*x2==0)=(x2*y1-y2*x1==0):=by
  rw[Bool.eq_iff_iff];simp only[beq_iff_eq];constructor<;>intro h<;>grind
 rw[this,Int.min_comm x1,Int.max_comm x1,Int.min_comm y1,Int.max_comm y1]
theorem wV{x1 y1 x2 y2:Int}(h1:0<=y1)(h2:y2<0)(hn:onC x1 y1 x2 y2 (x1*y2-y1*x2)=false):x1*y2-y1*x2≠0:=fun h=>by rw[aH1 h h1 h2]at hn;cases hn
theorem rP{x1 y1 x2 y2:Int}(h1:y1<0)(h2:0<=y2)(hn:onC x1 y1 x2 y2 (x1*y2-y1*x2)=false):x1*y2-y1*x2≠0:=fun h=>by
 rw[aCv]at hn;exact wV h2 h1 hn (by grind)
def aBd(x1 y1 x2 y2 x3 y3:Int):Int:=
 if onC x1 y1 x2 y2 (x1*y2-y1*x2)then 1 else if onC x2 y2 x3 y3 (x2*y3-y2*x3)then 1 else if onC x3 y3 x1 y1 (x3*y1-y3*x1)then 1
 else if((false !=zW y1 y2 (x1*y2-y1*x2)) !=zW y2 y3 (x2*y3-y2*x3)) !=zW y3 y1 (x3*y1-y3*x1)then 2 else 0
theorem aBZ(x1 y1 x2 y2 x3 y3:Int)(hs:0<(x1*y2-y1*x2)+(x2*y3-y2*x3)+(x3*y1-y3*x1)):
  aBd x1 y1 x2 y2 x3 y3=2↔(0<x1*y2-y1*x2/\0<x2*y3-y2*x3/\0<x3*y1-y3*x1):=by
 have h0:(x2*y3-y2*x3)*y1+(x3*y1-y3*x1)*y2+(x1*y2-y1*x2)*y3=0:=by grind
 have onpos:∀a b c d e:Int,onC a b c d e=true->e=0:=by intro a b c d e h;unfold onC at h;simp at h;exact h.1.1
 unfold aBd;cases o1:onC x1 y1 x2 y2 (x1*y2-y1*x2)with
 |true=>have:=onpos _ _ _ _ _ o1;simp;omega
 |false=>
  cases o2:onC x2 y2 x3 y3 (x2*y3-y2*x3)with
  |true=>have:=onpos _ _ _ _ _ o2;simp;omega
  |false=>
   cases o3:onC x3 y3 x1 y1 (x3*y1-y3*x1)with
   |true=>have:=onpos _ _ _ _ _ o3;simp;omega
   |false=>
    simp only[Bool.false_eq_true,if_false,Bool.false_bne];have if2:∀b:Bool,(if b=true then(2:Int)else 0)=2↔b=true:=by intro b;cases b<;>simp
    rw[if2];by_cases p1:0<=y1<;>by_cases p2:0<=y2<;>by_cases p3:0<=y3
    ·
     simp only[zW,p1,p2,p3,decide_true,bne_self_eq_false,Bool.false_and,Bool.false_eq_true,false_iff];rintro⟨q1,q2,q3⟩;have e1:=Int.mul_nonneg (show 0<=x2*y3-y2*x3 by omega) p1
     have e2:=Int.mul_nonneg (show 0<=x3*y1-y3*x1 by omega) p2
     have e3:=Int.mul_nonneg (show 0<=x1*y2-y1*x2 by omega) p3
     have z1:y1=0:=by
      rcases Int.lt_or_eq_of_le p1 with h|h
      ·have:=Int.mul_pos q2 h;omega
      ·exact h.symm
     have z2:y2=0:=by
      rcases Int.lt_or_eq_of_le p2 with h|h
      ·have:=Int.mul_pos q3 h;omega
      ·exact h.symm
     subst z1 z2;omega
    ·have c2:=wV p2 (by omega) o2
     have c3:=rP (by omega) p1 o3
     have:=Ef (x1:=x3) (x2:=x1) (x3:=x2) (y1:=y3) (y2:=y1) (y3:=y2) (by omega) (by omega) p1 p2 c3 c2 o1
     simp only[zW,p1,p2,p3,decide_true,decide_false,bne_self_eq_false,Bool.false_and,Bool.false_bne,Bool.bne_false,Bool.true_bne,Bool.bne_true,Bool.not_true,Bool.not_false,Bool.true_and];rw[show(0<x1*y2-y1*x2/\0<x2*y3-y2*x3/\0<x3*y1-y3*x1)↔(0<x3*y1-y3*x1/\0<x1*y2-y1*x2/\0<x2*y3-y2*x3) by constructor<;>(rintro⟨a,b,c⟩;exact⟨by assumption,by assumption,by assumption⟩),<-this]
     generalize x2*y3-y2*x3=A;generalize x3*y1-y3*x1=B;by_cases q2:0<A<;>by_cases q3:0<B<;>simp[q2,q3]
    ·have c1:=wV p1 (by omega) o1
     have c2:=rP (by omega) p3 o2
     have:=Ef (x1:=x2) (x2:=x3) (x3:=x1) (y1:=y2) (y2:=y3) (y3:=y1) (by omega) (by omega) p3 p1 c2 c1 o3
     simp only[zW,p1,p2,p3,decide_true,decide_false,bne_self_eq_false,Bool.false_and,Bool.false_bne,Bool.bne_false,Bool.true_bne,Bool.bne_true,Bool.not_true,Bool.not_false,Bool.true_and];rw[show(0<x1*y2-y1*x2/\0<x2*y3-y2*x3/\0<x3*y1-y3*x1)↔(0<x2*y3-y2*x3/\0<x3*y1-y3*x1/\0<x1*y2-y1*x2) by constructor<;>(rintro⟨a,b,c⟩;exact⟨by assumption,by assumption,by assumption⟩),<-this]
     generalize x2*y3-y2*x3=A;generalize x1*y2-y1*x2=B;by_cases q2:0<A<;>by_cases q3:0<B<;>simp[q2,q3]
    ·have c1:=wV p1 (by omega) o1
     have c3:=rP (by omega) p1 o3
     have:=Su h0 hs p1 (by omega) (by omega) c1 c3
     simp only[zW,p1,p2,p3,decide_true,decide_false,bne_self_eq_false,Bool.false_and,Bool.false_bne,Bool.bne_false,Bool.true_bne,Bool.bne_true,Bool.not_true,Bool.not_false,Bool.true_and];rw[<-this];generalize x1*y2-y1*x2=A;generalize x3*y1-y3*x1=B;by_cases q2:0<A<;>by_cases q3:0<B<;>simp[q2,q3]
    ·have c1:=rP (by omega) p2 o1
     have c3:=wV p3 (by omega) o3
     have:=Ef hs (by omega) p2 p3 c1 c3 o2
     simp only[zW,p1,p2,p3,decide_true,decide_false,bne_self_eq_false,Bool.false_and,Bool.false_bne,Bool.bne_false,Bool.true_bne,Bool.bne_true,Bool.not_true,Bool.not_false,Bool.true_and];rw[<-this];generalize x1*y2-y1*x2=A;generalize x3*y1-y3*x1=B;by_cases q2:0<A<;>by_cases q3:0<B<;>simp[q2,q3]
    ·have c1:=rP (by omega) p2 o1
     have c2:=wV p2 (by omega) o2
     have:=Su (y1:=y2) (y2:=y3) (y3:=y1) (c1:=x2*y3-y2*x3) (c2:=x3*y1-y3*x1) (c3:=x1*y2-y1*x2) (by omega) (by omega) p2 (by omega) (by omega) c2 c1
     simp only[zW,p1,p2,p3,decide_true,decide_false,bne_self_eq_false,Bool.false_and,Bool.false_bne,Bool.bne_false,Bool.true_bne,Bool.bne_true,Bool.not_true,Bool.not_false,Bool.true_and];rw[show(0<x1*y2-y1*x2/\0<x2*y3-y2*x3/\0<x3*y1-y3*x1)↔(0<x2*y3-y2*x3/\0<x3*y1-y3*x1/\0<x1*y2-y1*x2) by constructor<;>(rintro⟨a,b,c⟩;exact⟨by assumption,by assumption,by assumption⟩),<-this]
     generalize x2*y3-y2*x3=A;generalize x1*y2-y1*x2=B;by_cases q2:0<A<;>by_cases q3:0<B<;>simp[q2,q3]
    ·have c2:=rP (by omega) p3 o2
     have c3:=wV p3 (by omega) o3
     have:=Su (y1:=y3) (y2:=y1) (y3:=y2) (c1:=x3*y1-y3*x1) (c2:=x1*y2-y1*x2) (c3:=x2*y3-y2*x3) (by omega) (by omega) p3 (by omega) (by omega) c3 c2
     simp only[zW,p1,p2,p3,decide_true,decide_false,bne_self_eq_false,Bool.false_and,Bool.false_bne,Bool.bne_false,Bool.true_bne,Bool.bne_true,Bool.not_true,Bool.not_false,Bool.true_and];rw[show(0<x1*y2-y1*x2/\0<x2*y3-y2*x3/\0<x3*y1-y3*x1)↔(0<x3*y1-y3*x1/\0<x1*y2-y1*x2/\0<x2*y3-y2*x3) by constructor<;>(rintro⟨a,b,c⟩;exact⟨by assumption,by assumption,by assumption⟩),<-this]
     generalize x2*y3-y2*x3=A;generalize x3*y1-y3*x1=B;by_cases q2:0<A<;>by_cases q3:0<B<;>simp[q2,q3]
    ·
     simp only[zW,p1,p2,p3,decide_false,bne_self_eq_false,Bool.false_and,Bool.false_eq_true,false_iff];rintro⟨q1,q2,q3⟩;have e1:=Int.mul_neg_of_pos_of_neg q2 (show y1<0 by omega)
     have e2:=Int.mul_neg_of_pos_of_neg q3 (show y2<0 by omega)
     have e3:=Int.mul_neg_of_pos_of_neg q1 (show y3<0 by omega)
     omega
theorem aB0{u v w:V}(h:0<cross (sub v u) (sub w u)):Poly [lin u v,lin v w,lin w u] [u,v,w] [⟨u,v⟩,⟨v,w⟩,⟨w,u⟩] ⟨u.x+v.x+w.x,u.y+v.y+w.y,3⟩:=by
 have id3:∀h q:P3,cross (sub v u) (sub w u)*ev h q=ev (lin v w) q*ev h (pt u)+ev (lin w u) q*ev h (pt v)+ev (lin u v) q*ev h (pt w):=by
  intro h q;unfold ev lin pt cross sub;grind
 have k1:ev (lin u v) (pt w)=cross (sub v u) (sub w u):=jW u v w;have k2:ev (lin v w) (pt u)=cross (sub v u) (sub w u):=by rw[jW];unfold cross sub;grind
 have k3:ev (lin w u) (pt v)=cross (sub v u) (sub w u):=by rw[jW];unfold cross sub;grind
 have c0:∀f:P3,ev f ⟨u.x+v.x+w.x,u.y+v.y+w.y,3⟩=ev f (pt u)+ev f (pt v)+ev f (pt w):=by intro f;unfold ev pt;grind
 refine⟨?_,(show(0:Int)<3 by decide),?_,?_,?_,?_⟩
 ·intro f hf x hx;simp only[List.mem_cons,List.not_mem_nil,or_false]at hf hx;rcases hf with rfl|rfl|rfl<;>rcases hx with rfl|rfl|rfl<;>first|(rw[bB];omega)|(rw[bR];omega)|omega
 ·intro f hf;rw[c0];simp only[List.mem_cons,List.not_mem_nil,or_false]at hf;rcases hf with rfl|rfl|rfl
  ·rw[bB,bR];omega
  ·rw[bB,bR];omega
  ·rw[bB,bR];omega
 ·intro s hs;simp only[List.mem_cons,List.not_mem_nil,or_false]at hs;rcases hs with rfl|rfl|rfl<;>simp
 ·rintro q hq ⟨f,hf,hz⟩ hn;simp only[List.mem_cons,List.not_mem_nil,or_false,forall_eq_or_imp,forall_eq]at hf hn;obtain⟨n1,n2,n3⟩:=hn;rcases hf with rfl|rfl|rfl
  ·exact⟨⟨u,v⟩,by simp,ev (lin v w) q,ev (lin w u) q,_,n2,n3,h,fun g=>by rw[id3,hz];simp only;omega⟩
  ·exact⟨⟨v,w⟩,by simp,ev (lin w u) q,ev (lin u v) q,_,n3,n1,h,fun g=>by rw[id3,hz];simp only;omega⟩
  ·exact⟨⟨w,u⟩,by simp,ev (lin u v) q,ev (lin v w) q,_,n1,n2,h,fun g=>by rw[id3,hz];simp only;omega⟩
 ·intro q hq g hg;simp only[List.mem_cons,List.not_mem_nil,or_false,forall_eq_or_imp,forall_eq]at hq hg;obtain⟨n1,n2,n3⟩:=hq;obtain⟨g1,g2,g3⟩:=hg;have e1:=Int.mul_nonneg (show 0<=ev (lin v w) q by omega) (show 0<= -ev g (pt u) by omega)
  have e2:=Int.mul_nonneg (show 0<=ev (lin w u) q by omega) (show 0<= -ev g (pt v) by omega)
  have e3:=Int.mul_nonneg (show 0<=ev (lin u v) q by omega) (show 0<= -ev g (pt w) by omega)
  rw[Int.mul_neg]at e1 e2 e3;have:=id3 g q;rcases Int.lt_or_le 0 (ev g q)with h1|h1
  ·have:=Int.mul_pos h h1;omega
  ·exact h1
def cQ(s:S)(r:aC):Bool:=lL ((edges r).map fun e=>(cross (sub e.b e.a) (sub s.a e.a),cross (sub e.b e.a) (sub s.b e.a))) 0 1 1 1
def Cu(r:aC):List P3:=(edges r).map fun e=>lin e.a e.b
theorem rA(u v w:V):edges [u,v,w] =[⟨u,v⟩,⟨v,w⟩,⟨w,u⟩] :=by simp[edges,cO,nth,nxt,List.range_succ]
theorem aBn{u v w:V}(hv:cB [u,v,w] =true)(p:Pt)(hp:cF p=true)(h:0<cross (sub v u) (sub w u)):
  aP [u,v,w] p=2↔∀g∈Cu [u,v,w],0<ev g ⟨p.x,p.y,p.den⟩:=by
 have hd:0<p.den:=by
  unfold cF dI at hp;simp only[Bool.and_eq_true,decide_eq_true_eq]at hp;omega
 have e:∀a b:V,ev (lin a b) ⟨p.x,p.y,p.den⟩*p.den=(toV p a).x*(toV p b).y-(toV p a).y*(toV p b).x:=by intro a b;unfold ev lin toV;grind
 have sg:∀a b:V,0<ev (lin a b) ⟨p.x,p.y,p.den⟩↔0<(toV p a).x*(toV p b).y-(toV p a).y*(toV p b).x:=by
  intro a b;rw[<-e];constructor
  ·intro h;exact Int.mul_pos h hd
  ·intro h;exact Int.pos_of_mul_pos_left h hd|>fun h=>h
 have sz:∀a b:V,fK ⟨a,b⟩ p*p.den=(toV p a).x*(toV p b).y-(toV p a).y*(toV p b).x:=by intro a b;unfold fK toV cross sub;grind
 have so:∀a b:V,onP ⟨a,b⟩ p=onC (toV p a).x (toV p a).y (toV p b).x (toV p b).y ((toV p a).x*(toV p b).y-(toV p a).y*(toV p b).x):=by
  intro a b;unfold onP onC;have:(fK ⟨a,b⟩ p==0)=((toV p a).x*(toV p b).y-(toV p a).y*(toV p b).x==0):=by
   rw[Bool.eq_iff_iff];simp only[beq_iff_eq];rw[<-sz];constructor
   ·intro h;rw[h,Int.zero_mul]
   ·intro h;rcases Int.mul_eq_zero.1 h with h|h
    ·exact h
    ·omega
  rw[this]
 have sh:∀a b:V,gW ⟨a,b⟩ p=zW (toV p a).y (toV p b).y ((toV p a).x*(toV p b).y-(toV p a).y*(toV p b).x):=by
  intro a b;unfold gW zW;have:decide (0<fK ⟨a,b⟩ p)=decide (0<(toV p a).x*(toV p b).y-(toV p a).y*(toV p b).x):=by
   rw[decide_eq_decide,<-sz];constructor
   ·intro h;exact Int.mul_pos h hd
   ·intro h;exact Int.pos_of_mul_pos_left h hd|>fun h=>h
  rw[this]
 have hs:0<((toV p u).x*(toV p v).y-(toV p u).y*(toV p v).x)+((toV p v).x*(toV p w).y-(toV p v).y*(toV p w).x)+((toV p w).x*(toV p u).y-(toV p w).y*(toV p u).x):=by
  have:((toV p u).x*(toV p v).y-(toV p u).y*(toV p v).x)+((toV p v).x*(toV p w).y-(toV p v).y*(toV p w).x)+((toV p w).x*(toV p u).y-(toV p w).y*(toV p u).x)=cross (sub v u) (sub w u)*(p.den*p.den):=by unfold toV cross sub;grind
  rw[this];exact Int.mul_pos h (Int.mul_pos hd hd)
 have key:=aBZ (toV p u).x (toV p u).y (toV p v).x (toV p v).y (toV p w).x (toV p w).y hs;have:aP [u,v,w] p=aBd (toV p u).x (toV p u).y (toV p v).x (toV p v).y (toV p w).x (toV p w).y:=by
  unfold aP;rw[hv,hp,rA];simp only[Bool.not_true,Bool.or_self,Bool.false_eq_true,if_false,eQ,so,sh];rfl
 rw[this,key,<-sg,<-sg,<-sg];unfold Cu;rw[rA];simp
def dH(a b:aC):Bool:=(edges a).any (fun s=>cQ s b)||((edges b).any (fun s=>cQ s a)||aP b (dB (nth a 0) (nth a 1) (nth a 2))==2)
end Go.Proofs.YtdaeofhdgabhjaaGreat.Geo
namespace Go.Proofs.YtdaeofhdgabhjaaGreat.Geo
theorem mJ:∀(L:List (Int×Int)) (ln ld hn hd:Int),ln*hd<hn*ld->(∀p∈L,¬(p.1<=0/\p.2<=0))->(∀p∈L,p.1<0-> -p.1*hd<hn*(p.2-p.1))->
  (∀q∈L,q.2<0->ln*(q.1-q.2)<q.1*ld)->(∀p∈L,∀q∈L,p.1<0->q.2<0-> -p.1*(q.1-q.2)<q.1*(p.2-p.1))->lL L ln ld hn hd=true
 |[],ln,ld,hn,hd,h0,_,_,_,_=>by simpa[lL]using h0
 |(a,b)::L,ln,ld,hn,hd,h0,h1,h2,h3,h4=>by
  have i1:∀p∈L,¬(p.1<=0/\p.2<=0):=fun p hp=>h1 p (List.mem_cons_of_mem _ hp)
  have i2:∀p∈L,p.1<0-> -p.1*hd<hn*(p.2-p.1):=fun p hp=>h2 p (List.mem_cons_of_mem _ hp)
  have i3:∀q∈L,q.2<0->ln*(q.1-q.2)<q.1*ld:=fun p hp=>h3 p (List.mem_cons_of_mem _ hp)
  have i4:∀p∈L,∀q∈L,p.1<0->q.2<0-> -p.1*(q.1-q.2)<q.1*(p.2-p.1):=fun p hp q hq=>h4 p (List.mem_cons_of_mem _ hp) q (List.mem_cons_of_mem _ hq)
  unfold lL;rw[if_neg (h1 (a,b) List.mem_cons_self)];split
  ·rename_i ha;split
   ·exact mJ L _ _ _ _ (h2 (a,b) List.mem_cons_self ha) i1 i2 (fun q hq hq2=>h4 (a,b) List.mem_cons_self q (List.mem_cons_of_mem _ hq) ha hq2) i4
   ·exact mJ L _ _ _ _ h0 i1 i2 i3 i4
  ·split
   ·rename_i hb;split
    ·exact mJ L _ _ _ _ (h3 (a,b) List.mem_cons_self hb) i1 (fun p hp hp1=>h4 p (List.mem_cons_of_mem _ hp) (a,b) List.mem_cons_self hp1 hb) i3 i4
    ·exact mJ L _ _ _ _ h0 i1 i2 i3 i4
   ·exact mJ L _ _ _ _ h0 i1 i2 i3 i4
theorem enters_of{F:List P3}{s:S}(h1:∀f∈F,¬(ev f (pt s.a)<=0/\ev f (pt s.b)<=0))
  (h2:∀f∈F,∀g∈F,ev f (pt s.a)<0->ev g (pt s.b)<0->ev f (pt s.a)*ev g (pt s.b)<ev g (pt s.a)*ev f (pt s.b)):aIQ F s:=by
 have:lL (F.map fun f=>(ev f (pt s.a),ev f (pt s.b))) 0 1 1 1=true:=by
  refine mJ _ _ _ _ _ (by decide) ?_ ?_ ?_ ?_
  ·intro p hp;obtain⟨f,hf,rfl⟩:=List.mem_map.1 hp;exact h1 f hf
  ·intro p hp hp1;obtain⟨f,hf,rfl⟩:=List.mem_map.1 hp;have:=h1 f hf;simp only at hp1|-;omega
  ·intro p hp hp1;obtain⟨f,hf,rfl⟩:=List.mem_map.1 hp;have:=h1 f hf;simp only at hp1|-;omega
  ·intro p hp q hq hp1 hq2;obtain⟨f,hf,rfl⟩:=List.mem_map.1 hp;obtain⟨g,hg,rfl⟩:=List.mem_map.1 hq;have:=h2 f hf g hg hp1 hq2;simp only;grind
 rw[nI _ _ _ _ _ (by decide) (by decide) (by decide) (by decide)]at this
 obtain⟨x,y,hx,hy,h,_⟩:=this;exact⟨x,y,hx,hy,fun g hg=>h _ (List.mem_map.2 ⟨g,hg,rfl⟩)⟩
theorem Vx{x:Int}(h:x.tmod 3=0):x.tdiv 3*3=x:=by
 obtain⟨q,rfl⟩:=Int.dvd_of_tmod_eq_zero h;rw[Int.mul_tdiv_cancel_left q (by decide)];omega
theorem Fs{x y d:Int}(h1:1<=d)(h2:d<=3)(hx: -(4000*d)<=x/\x<=4000*d)(hy: -(4000*d)<=y/\y<=4000*d)(hg:Nat.gcd (Nat.gcd x.natAbs y.natAbs) d.natAbs=1):cF ⟨x,y,d⟩=true:=by
 unfold cF dI aJ;simp only[Bool.and_eq_true,decide_eq_true_eq,beq_iff_eq];exact⟨⟨⟨h1,by omega⟩,⟨⟨hx.1,hx.2⟩,hy.1⟩,hy.2⟩,hg⟩
theorem Hk{u v w:V}(hu:aJ u 2000=true)(hv:aJ v 2000=true)(hw:aJ w 2000=true):cF (dB u v w)=true:=by
 unfold aJ at hu hv hw;simp only[Bool.and_eq_true,decide_eq_true_eq]at hu hv hw;have bx: -6000<=u.x+v.x+w.x/\u.x+v.x+w.x<=6000:=by omega
 have b_y: -6000<=u.y+v.y+w.y/\u.y+v.y+w.y<=6000:=by omega
 unfold dB;generalize u.x+v.x+w.x=x at*;generalize u.y+v.y+w.y=y at*;split
 ·rename_i h;have e1:=Vx h.1;have e2:=Vx h.2;exact Fs (by omega) (by omega) (by omega) (by omega) (by simp)
 ·rename_i h;refine Fs (by omega) (by omega) (by omega) (by omega) ?_
  have h3:Nat.gcd (Nat.gcd x.natAbs y.natAbs) 3∣3:=Nat.gcd_dvd_right _ _;have hle:=Nat.le_of_dvd (by decide) h3
  have hd1:Nat.gcd (Nat.gcd x.natAbs y.natAbs) 3∣x.natAbs:=Nat.dvd_trans (Nat.gcd_dvd_left _ _) (Nat.gcd_dvd_left _ _);have hd2:Nat.gcd (Nat.gcd x.natAbs y.natAbs) 3∣y.natAbs:=Nat.dvd_trans (Nat.gcd_dvd_left _ _) (Nat.gcd_dvd_right _ _);show Nat.gcd (Nat.gcd x.natAbs y.natAbs) 3=1;generalize Nat.gcd (Nat.gcd x.natAbs y.natAbs) 3=g at*;match g,hle with
  |0,_=>simp at h3
  |1,_=>rfl
  |2,_=>exact absurd h3 (by decide)
  |3,_=>exact absurd ⟨(jI x 3).2 hd1,(jI y 3).2 hd2⟩ h
def lN(s:Shape)(r:aC):Bool:=(aQ s).all (fun e=> !(cQ e r))&&dA s (dB (nth r 0) (nth r 1) (nth r 2))==2
theorem VR.lS{r:aC}(h:VR r){e:S}(he:e∈edges r):e.a≠e.b:=by
 have hn:=h.nodup;unfold edges at he;split at he
 ·cases he
 ·rename_i hl;obtain⟨i,hi,rfl⟩:=List.mem_map.1 he;have hi:=List.mem_range.1 hi;intro h2;have h3:nth r i=nth r ((i+1) % r.length):=h2;have:=h.inj hi (Nat.mod_lt _ (by omega)) h3
  by_cases h4:i+1<r.length
  ·rw[Nat.mod_eq_of_lt h4]at this;omega
  ·have h5:i+1=r.length:=by omega
   rw[h5,Nat.mod_self]at this;omega
theorem VS.lS{s:Shape}(h:VS s){e:S}(he:e∈aQ s):e.a≠e.b:=by
 unfold aQ at he;obtain⟨r,hr,he⟩:=List.mem_flatMap.1 he;exact(h.ring hr).lS he
end Go.Proofs.YtdaeofhdgabhjaaGreat.Geo
namespace Go.Proofs.YtdaeofhdgabhjaaGreat
open Go.RowKit
abbrev Q4:=Int×Int×Int×Int
def qG(q:Q4)(p:Int×Int):Q4:=
 if p.1<0 then(if q.1*(p.2-p.1)< -p.1*q.2.1 then(-p.1,p.2-p.1,q.2.2)else q)
 else if p.2<0 then(if p.1*q.2.2.2<q.2.2.1*(p.1-p.2)then(q.1,q.2.1,p.1,p.1-p.2)else q)else q
def Cf(p:Int×Int):Bool:=decide (p.1<=0)&&decide (p.2<=0)
theorem kM:∀(l:List (Int×Int)) (q:Q4),Geo.lL l q.1 q.2.1 q.2.2.1 q.2.2.2=(!(l.any Cf)&&decide ((l.foldl qG q).1*(l.foldl qG q).2.2.2<(l.foldl qG q).2.2.1*(l.foldl qG q).2.1))
 |[],q=>by simp[Geo.lL] <;>congr
 |(a,b)::l,(ln,ld,hn,hd)=>by
  unfold Geo.lL;rw[List.any_cons,List.foldl_cons];by_cases h1:a<=0/\b<=0
  ·have:Cf (a,b)=true:=by unfold Cf;simp[h1.1,h1.2]
   rw[if_pos h1,this];simp
  ·have h2:Cf (a,b)=false:=by unfold Cf;rw[Bool.and_eq_false_iff,decide_eq_false_iff_not,decide_eq_false_iff_not];omega
   rw[if_neg h1,h2,Bool.false_or];unfold qG;dsimp only;by_cases h3:a<0
   ·rw[if_pos h3,if_pos h3];by_cases h4:ln*(b-a)< -a*ld
    ·rw[if_pos h4,if_pos h4];exact kM l (-a,b-a,hn,hd)
    ·rw[if_neg h4,if_neg h4];exact kM l (ln,ld,hn,hd)
   ·rw[if_neg h3,if_neg h3];by_cases h5:b<0
    ·rw[if_pos h5,if_pos h5];by_cases h4:a*hd<hn*(a-b)
     ·rw[if_pos h4,if_pos h4];exact kM l (ln,ld,a,a-b)
     ·rw[if_neg h4,if_neg h4];exact kM l (ln,ld,hn,hd)
    ·rw[if_neg h5,if_neg h5];exact kM l (ln,ld,hn,hd)
def tW(s e:Geo.S):Int×Int:=(Geo.cross (Geo.sub e.b e.a) (Geo.sub s.a e.a),Geo.cross (Geo.sub e.b e.a) (Geo.sub s.b e.a))
def sE(s:Geo.S)(r:Geo.aC):List (Int×Int):=(Geo.edges r).map (tW s)
def stE(s:Geo.S)(r:Geo.aC)(k:Nat):Q4:=((sE s r).take k).foldl qG (0,1,1,1)
def lnE(s:Geo.S)(r:Geo.aC)(k:Nat):Int:=(stE s r k).1
def ldE(s:Geo.S)(r:Geo.aC)(k:Nat):Int:=(stE s r k).2.1
def hnE(s:Geo.S)(r:Geo.aC)(k:Nat):Int:=(stE s r k).2.2.1
def hdE(s:Geo.S)(r:Geo.aC)(k:Nat):Int:=(stE s r k).2.2.2
def ibd(m x:Int):Prop:= -m<=x/\x<=m
def wJ(s:Geo.S)(r:Geo.aC)(k:Nat):Prop:=((sE s r).take k).any Cf=false/\ibd 1600000000 (lnE s r k)/\ibd 1600000000 (ldE s r k)/\ibd 1600000000 (hnE s r k)/\ibd 1600000000 (hdE s r k)
theorem aAm(s:Geo.S)(r:Geo.aC):wJ s r 0:=by
 unfold wJ lnE ldE hnE hdE stE ibd;simp
theorem Jh{s:Geo.S}{r:Geo.aC}{k:Nat}(hk:k<(Geo.edges r).length):(sE s r)[k]? =some (tW s (Geo.edges r)[k]):=by
 unfold sE;rw[List.getElem?_map,List.getElem?_eq_getElem hk];rfl
theorem Ov{s:Geo.S}{r:Geo.aC}{k:Nat}(hk:k<(Geo.edges r).length):stE s r (k+1)=qG (stE s r k) (tW s (Geo.edges r)[k]):=by
 unfold stE;rw[List.take_add_one,Jh hk,List.foldl_append];rfl
theorem aAn{s:Geo.S}{r:Geo.aC}{k:Nat}(hk:k<(Geo.edges r).length)(h:wJ s r k)(ho:Cf (tW s (Geo.edges r)[k])=false)
  (ha:ibd 800000000 (tW s (Geo.edges r)[k]).1) (hb:ibd 800000000 (tW s (Geo.edges r)[k]).2):wJ s r (k+1):=by
 obtain⟨h1,h2,h3,h4,h5⟩:=h;unfold wJ;refine⟨?_,?_⟩
 ·rw[List.take_add_one,Jh hk,List.any_append,h1];simp[ho]
 ·unfold lnE ldE hnE hdE at*;rw[Ov hk];generalize tW s (Geo.edges r)[k] =p at ha hb|-;generalize stE s r k=q at h2 h3 h4 h5|-;obtain⟨a,b⟩:=p;obtain⟨ln,ld,hn,hd⟩:=q;unfold ibd at*;dsimp only at*;unfold qG;dsimp only;split
  ·split
   ·dsimp only;omega
   ·dsimp only;omega
  ·split
   ·split
    ·dsimp only;omega
    ·dsimp only;omega
   ·dsimp only;omega
theorem Vd{s:Geo.S}{r:Geo.aC}{k:Nat}(hk:k<(Geo.edges r).length)(ho:Cf (tW s (Geo.edges r)[k])=true):Geo.cQ s r=false:=by
 have h:=kM (sE s r) (0,1,1,1);have hm:(sE s r).any Cf=true:=List.any_eq_true.2 ⟨_,List.mem_map.2 ⟨_,List.getElem_mem hk,rfl⟩,ho⟩;rw[hm]at h;exact h
theorem Ve{s:Geo.S}{r:Geo.aC}(h:wJ s r (Geo.edges r).length):Geo.cQ s r=decide (lnE s r (Geo.edges r).length*hdE s r (Geo.edges r).length<hnE s r (Geo.edges r).length*ldE s r (Geo.edges r).length):=by
 have hl:(sE s r).length=(Geo.edges r).length:=by unfold sE;rw[List.length_map]
 have h1:=h.1;have e:=kM (sE s r) (0,1,1,1);unfold lnE ldE hnE hdE stE;rw[<-hl,List.take_length]at h1|-;rw[h1]at e;exact e
structure TriOk(r:Geo.aC):Prop where
 three:3<=r.length
 len:r.length<=1000
 near:∀v∈r,Geo.aJ v 10000=true
 edges:∀e∈Geo.edges r,Geo.aJ e.a 10000=true/\Geo.aJ e.b 10000=true
theorem Oj{r:Geo.aC}(h:Geo.VR r){e:Geo.S}(he:e∈Geo.edges r):Geo.aJ e.a 10000=true/\Geo.aJ e.b 10000=true:=by
 have h3:=h.three;unfold Geo.edges at he;rw[if_neg (by omega)]at he
 obtain⟨i,hi,rfl⟩:=List.mem_map.1 he;have hi:=List.mem_range.1 hi;exact⟨Geo.dD (Geo.rR h.near i hi) (by omega),Geo.dD (Geo.rR h.near _ (Nat.mod_lt _ (by omega))) (by omega)⟩
theorem aHE{r:Geo.aC}(h:Geo.VR r){v:Geo.V}(hv:v∈r):Geo.aJ v 10000=true:=by
 have h1:=h.near;unfold Geo.near at h1;rw[List.all_eq_true]at h1;exact Geo.dD (h1 v hv) (by omega)
theorem Oo{r:Geo.aC}(h:Geo.cB r=true):TriOk r:=by
 have h:=(Geo.cL r).1 h;have:=h.most;exact⟨h.three,by omega,fun v hv=>aHE h hv,fun e he=>Oj h he⟩
end Go.Proofs.YtdaeofhdgabhjaaGreat
namespace Go.Proofs.YtdaeofhdgabhjaaGreat
open Go.RowKit
set_option maxRecDepth 100000
noncomputable section
open Geo (aQ nth aD)
def eP(s:Geo.S)(r:Geo.aC)(k:Nat):Int×Int:=tW s (bC (Geo.edges r) k)
def eA(s:Geo.S)(r:Geo.aC)(k:Nat):Int:=(eP s r k).1
def eB'(s:Geo.S)(r:Geo.aC)(k:Nat):Int:=(eP s r k).2
def eO(s:Geo.S)(r:Geo.aC)(k:Nat):Bool:=Cf (eP s r k)
theorem aBW{s:Geo.Shape}(h:Geo.VS s):∀e∈aQ s,Geo.aJ e.a 10000=true/\Geo.aJ e.b 10000=true:=by
 intro e he;unfold aQ at he;obtain⟨r,hr,her⟩:=List.mem_flatMap.1 he;exact Oj (h.ring hr) her
def aLp:Con:=con (ac aS (a1 (aL .V))) (fun(s,r)=>[bd 10000 s.a,bd 10000 s.b,r.length<=1000,(∀i,i<(Geo.edges r).length->bd 10000 (bC (Geo.edges r) i).a/\bd 10000 (bC (Geo.edges r) i).b)]) (fun(s,r)=> .bool (Geo.cQ s r))
set_option maxHeartbeats 2000000 in
theorem aNl:aLp.Ok Tryz.prog 158:=aR (bO aJB) (raw:=bT) (fun(s,r)=>[(3,.mk Nat (fun F _=>qI F 17) [] (fun k=>[k<=(Geo.edges r).length,wJ s r k]) (fun k=>[(17,.int .i64 (k:Int)),(5,.int .i64 (lnE s r k)),(6,.int .i64 (ldE s r k)),(7,.int .i64 (hnE s r k)),(8,.int .i64 (hdE s r k))]) (fun _=>[]) (fun k=>(Geo.edges r).length-k) fun k=>
  [jU 7 [(12,.int .i64 (eA s r k)),(13,.int .i64 (eB' s r k))],jb 8 40 (eO s r k),jPU 15 [eO s r k=false] [(5,.int .i64 (lnE s r (k+1))),(6,.int .i64 (ldE s r (k+1))),(7,.int .i64 (hnE s r (k+1))),(8,.int .i64 (hdE s r (k+1)))]])]
  ) (fun(_,_)=>⟨_,rfl⟩) fun(s,r) hp=>bP (q:=r.length<=1000/\(0=(0:Int)/\0=lnE s r 0/\1=ldE s r 0/\1=hnE s r 0/\1=hdE s r 0/\(0:Nat)<=(Geo.edges r).length/\wJ s r 0)/\
 (∀x:Nat,x<=(Geo.edges r).length/\wJ s r x->((x:Int)<(Geo.edges r).length->(ix (x:Int) (Geo.edges r).length/\x<(Geo.edges r).length/\bd 1000000000 (bC (Geo.edges r) x).b/\bd 1000000000 (bC (Geo.edges r) x).a/\(bd 1000000000 s.a/\bd 1000000000 (bC (Geo.edges r) x).a/\cOK (Geo.sub (bC (Geo.edges r) x).b (bC (Geo.edges r) x).a) (Geo.sub s.a (bC (Geo.edges r) x).a)/\bd 1000000000 s.b/\bd 1000000000 (bC (Geo.edges r) x).a/\cOK (Geo.sub (bC (Geo.edges r) x).b (bC (Geo.edges r) x).a) (Geo.sub s.b (bC (Geo.edges r) x).a)/\Geo.cross (Geo.sub (bC (Geo.edges r) x).b (bC (Geo.edges r) x).a) (Geo.sub s.a (bC (Geo.edges r) x).a)=eA s r x/\Geo.cross (Geo.sub (bC (Geo.edges r) x).b (bC (Geo.edges r) x).a) (Geo.sub s.b (bC (Geo.edges r) x).a)=eB' s r x)/\
    (∀y:Unit,((eA s r x<=0->decide (eB' s r x<=0)=eO s r x)/\
      (¬eA s r x<=0->false=eO s r x))/\
     (∀y_1:Unit,(eO s r x=true->false=Geo.cQ s r)/\
      (eO s r x=false->(eA s r x<0->aE (0-eA s r x)/\aE ((0-eA s r x)*ldE s r x)/\aE (eB' s r x-eA s r x)/\aE (lnE s r x*(eB' s r x-eA s r x))/\(lnE s r x*(eB' s r x-eA s r x)<(0-eA s r x)*ldE s r x->aE (0-eA s r x)/\aE (eB' s r x-eA s r x)/\0-eA s r x=lnE s r (x+1)/\eB' s r x-eA s r x=ldE s r (x+1)/\hnE s r x=hnE s r (x+1)/\hdE s r x=hdE s r (x+1)/\eO s r x=false)/\
        (¬lnE s r x*(eB' s r x-eA s r x)<(0-eA s r x)*ldE s r x->lnE s r x=lnE s r (x+1)/\ldE s r x=ldE s r (x+1)/\hnE s r x=hnE s r (x+1)/\hdE s r x=hdE s r (x+1)/\eO s r x=false))/\
       (¬eA s r x<0->(eB' s r x<0->aE (eA s r x*hdE s r x)/\aE (eA s r x-eB' s r x)/\aE (hnE s r x*(eA s r x-eB' s r x))/\(eA s r x*hdE s r x<hnE s r x*(eA s r x-eB' s r x)->aE (eA s r x-eB' s r x)/\lnE s r x=lnE s r (x+1)/\ldE s r x=ldE s r (x+1)/\eA s r x=hnE s r (x+1)/\eA s r x-eB' s r x=hdE s r (x+1)/\eO s r x=false)/\
         (¬eA s r x*hdE s r x<hnE s r x*(eA s r x-eB' s r x)->lnE s r x=lnE s r (x+1)/\ldE s r x=ldE s r (x+1)/\hnE s r x=hnE s r (x+1)/\hdE s r x=hdE s r (x+1)/\eO s r x=false))/\
        (¬eB' s r x<0->lnE s r x=lnE s r (x+1)/\ldE s r x=ldE s r (x+1)/\hnE s r x=hnE s r (x+1)/\hdE s r x=hdE s r (x+1)/\eO s r x=false))))))/\
   (∀y:Unit,eO s r x=false->aE ((x:Int)+1)/\(x:Int)+1=((x+1:Nat):Int)/\lnE s r (x+1)=lnE s r (x+1)/\ldE s r (x+1)=ldE s r (x+1)/\hnE s r (x+1)=hnE s r (x+1)/\hdE s r (x+1)=hdE s r (x+1)/\x+1<=(Geo.edges r).length/\wJ s r (x+1)/\(Geo.edges r).length-(x+1)<(Geo.edges r).length-x))/\
  (¬(x:Int)<(Geo.edges r).length->aE (lnE s r x*hdE s r x)/\aE (hnE s r x*ldE s r x)/\decide (Geo.fV (lnE s r x*hdE s r x) (hnE s r x*ldE s r x)<0)=Geo.cQ s r))) (by kernel_rfl) (by
  change bd 10000 s.a/\bd 10000 s.b/\r.length<=1000/\((∀i,i<(Geo.edges r).length->bd 10000 (bC (Geo.edges r) i).a/\bd 10000 (bC (Geo.edges r) i).b))at hp;obtain⟨ha,hb,hl,he⟩:=hp;have he:∀i:Nat,(i:Int)<(Geo.edges r).length->bd 10000 (bC (Geo.edges r) i).a/\bd 10000 (bC (Geo.edges r) i).b:=fun i h=>he i (by omega)
  have el:(Geo.edges r).length<=1000:=by unfold Geo.edges;split<;>simp<;>omega
  have ha9:bd 1000000000 s.a:=ha.mono;have hb9:bd 1000000000 s.b:=hb.mono;have e9a:∀i:Nat,(i:Int)<(Geo.edges r).length->bd 1000000000 (bC (Geo.edges r) i).a:=fun i h=>(he i h).1.mono
  have e9b:∀i:Nat,(i:Int)<(Geo.edges r).length->bd 1000000000 (bC (Geo.edges r) i).b:=fun i h=>(he i h).2.mono
  have cA:∀(v:Geo.V) (i:Nat),bd 10000 v->(i:Int)<(Geo.edges r).length->cOK (Geo.sub (bC (Geo.edges r) i).b (bC (Geo.edges r) i).a) (Geo.sub v (bC (Geo.edges r) i).a):=fun v i hv h=>by
   have:=mR (jR (he i h).2 (he i h).1) (jR hv (he i h).1);unfold cOK;omega
  have eN:∀i:Nat,(i:Int)<(Geo.edges r).length->bC (Geo.edges r) i=(Geo.edges r)[i]! :=fun i h=>by rw[gA (by omega),getElem!_pos _ _ (by omega)]
  have bA:∀i:Nat,(i:Int)<(Geo.edges r).length->ibd 800000000 (eA s r i)/\ibd 800000000 (eB' s r i):=fun i h=>by
   have h1:=mR (jR (he i h).2 (he i h).1) (jR ha (he i h).1);have h2:=mR (jR (he i h).2 (he i h).1) (jR hb (he i h).1);unfold eA eB' eP tW ibd;dsimp only;unfold Geo.cross;omega
  have sN:∀i:Nat,(i:Int)<(Geo.edges r).length->stE s r (i+1)=qG (stE s r i) (eP s r i):=fun i h=>by
   rw[Ov (show i<(Geo.edges r).length by omega)];unfold eP;rw[gA (by omega)]
  have iN:∀i:Nat,(i:Int)<(Geo.edges r).length->wJ s r i->eO s r i=false->wJ s r (i+1):=fun i h h1 h2=>by
   have hb:=bA i h;have e:eP s r i=tW s (Geo.edges r)[i] :=by unfold eP;rw[gA (by omega)]
   refine aAn (show i<(Geo.edges r).length by omega) h1 ?_ ?_ ?_
   ·rw[<-e];exact h2
   ·rw[<-e];exact hb.1
   ·rw[<-e];exact hb.2
  have oY:∀i:Nat,(i:Int)<(Geo.edges r).length->eO s r i=true->false=Geo.cQ s r:=fun i h h2=>by
   symm;refine Vd (k:=i) (show i<(Geo.edges r).length by omega) ?_
   rw[<-gA (by omega)];exact h2
  have oE:∀i:Nat,¬(i:Int)<(Geo.edges r).length->i<=(Geo.edges r).length->wJ s r i->decide (Geo.fV (lnE s r i*hdE s r i) (hnE s r i*ldE s r i)<0)=Geo.cQ s r:=fun i h h2 h3=>by
   obtain rfl:i=(Geo.edges r).length:=by omega
   rw[Ve h3];unfold Geo.fV;grind
  have o1:∀i:Nat,eA s r i<=0->decide (eB' s r i<=0)=eO s r i:=fun i h=>by
   unfold eO Cf;rw[decide_eq_true (show(eP s r i).1<=0 from h)];rfl
  have o2:∀i:Nat,¬eA s r i<=0->false=eO s r i:=fun i h=>by
   unfold eO Cf;rw[decide_eq_false (show¬(eP s r i).1<=0 from h)];rfl
  have nN:∀x:Int,0-x= -x:=fun x=>by omega
  have s1:∀i:Nat,(i:Int)<(Geo.edges r).length->eA s r i<0->lnE s r i*(eB' s r i-eA s r i)<(0-eA s r i)*ldE s r i->stE s r (i+1)=(0-eA s r i,eB' s r i-eA s r i,hnE s r i,hdE s r i):=fun i h h1 h2=>by
   rw[sN i h];unfold qG;rw[if_pos (show(eP s r i).1<0 from h1)];rw[nN]at h2;exact(if_pos (show(stE s r i).1*((eP s r i).2-(eP s r i).1)< -(eP s r i).1*(stE s r i).2.1 from h2)).trans (by rw[nN];rfl)
  have s2:∀i:Nat,(i:Int)<(Geo.edges r).length->eA s r i<0->¬lnE s r i*(eB' s r i-eA s r i)<(0-eA s r i)*ldE s r i->stE s r (i+1)=stE s r i:=fun i h h1 h2=>by
   rw[sN i h];unfold qG;rw[if_pos (show(eP s r i).1<0 from h1)];rw[nN]at h2;exact if_neg h2
  have s3:∀i:Nat,(i:Int)<(Geo.edges r).length->¬eA s r i<0->eB' s r i<0->eA s r i*hdE s r i<hnE s r i*(eA s r i-eB' s r i)->stE s r (i+1)=(lnE s r i,ldE s r i,eA s r i,eA s r i-eB' s r i):=fun i h h1 h2 h3=>by
   rw[sN i h];unfold qG;rw[if_neg (show¬(eP s r i).1<0 from h1),if_pos (show(eP s r i).2<0 from h2)];exact if_pos h3
  have s4:∀i:Nat,(i:Int)<(Geo.edges r).length->¬eA s r i<0->eB' s r i<0->¬eA s r i*hdE s r i<hnE s r i*(eA s r i-eB' s r i)->stE s r (i+1)=stE s r i:=fun i h h1 h2 h3=>by
   rw[sN i h];unfold qG;rw[if_neg (show¬(eP s r i).1<0 from h1),if_pos (show(eP s r i).2<0 from h2)];exact if_neg h3
  have s5:∀i:Nat,(i:Int)<(Geo.edges r).length->¬eA s r i<0->¬eB' s r i<0->stE s r (i+1)=stE s r i:=fun i h h1 h2=>by
   rw[sN i h];unfold qG;rw[if_neg (show¬(eP s r i).1<0 from h1)];exact if_neg (show¬(eP s r i).2<0 from h2)
  have w:∀i:Nat,(i:Int)<(Geo.edges r).length->wJ s r i->aE (0-eA s r i)/\aE ((0-eA s r i)*ldE s r i)/\aE (eB' s r i-eA s r i)/\aE (lnE s r i*(eB' s r i-eA s r i))/\aE (eA s r i*hdE s r i)/\aE (eA s r i-eB' s r i)/\aE (hnE s r i*(eA s r i-eB' s r i)):=fun i h hI=>by
   obtain⟨h1,h2⟩:=bA i h;obtain⟨_,g1,g2,g3,g4⟩:=hI;unfold ibd at h1 h2 g1 g2 g3 g4;have m1:=iF (x:=0-eA s r i) (y:=ldE s r i) (A:=1600000000) (B:=1600000000) (by omega) (by omega)
   have m2:=iF (x:=lnE s r i) (y:=eB' s r i-eA s r i) (A:=1600000000) (B:=1600000000) (by omega) (by omega)
   have m3:=iF (x:=eA s r i) (y:=hdE s r i) (A:=1600000000) (B:=1600000000) (by omega) (by omega)
   have m4:=iF (x:=hnE s r i) (y:=eA s r i-eB' s r i) (A:=1600000000) (B:=1600000000) (by omega) (by omega)
   exact⟨eC (by omega),eC (by omega),eC (by omega),eC (by omega),eC (by omega),eC (by omega),eC (by omega)⟩
  have wE:∀i:Nat,wJ s r i->aE (lnE s r i*hdE s r i)/\aE (hnE s r i*ldE s r i):=fun i hI=>by
   obtain⟨_,g1,g2,g3,g4⟩:=hI;unfold ibd at g1 g2 g3 g4;have m1:=iF (x:=lnE s r i) (y:=hdE s r i) (A:=1600000000) (B:=1600000000) (by omega) (by omega)
   have m2:=iF (x:=hnE s r i) (y:=ldE s r i) (A:=1600000000) (B:=1600000000) (by omega) (by omega)
   exact⟨eC (by omega),eC (by omega)⟩
  have z:=aAm s r;have q1:∀i:Nat,(i:Int)<(Geo.edges r).length->eA s r i<0->lnE s r i*(eB' s r i-eA s r i)<(0-eA s r i)*ldE s r i->0-eA s r i=lnE s r (i+1)/\eB' s r i-eA s r i=ldE s r (i+1)/\hnE s r i=hnE s r (i+1)/\hdE s r i=hdE s r (i+1):=fun i h0 h1 h2=>by
   have e:=s1 i h0 h1 h2;exact⟨(congrArg (fun q:Q4=>q.1) e).symm,(congrArg (fun q:Q4=>q.2.1) e).symm,(congrArg (fun q:Q4=>q.2.2.1) e).symm,(congrArg (fun q:Q4=>q.2.2.2) e).symm⟩
  have q2:∀i:Nat,(i:Int)<(Geo.edges r).length->eA s r i<0->¬lnE s r i*(eB' s r i-eA s r i)<(0-eA s r i)*ldE s r i->lnE s r i=lnE s r (i+1)/\ldE s r i=ldE s r (i+1)/\hnE s r i=hnE s r (i+1)/\hdE s r i=hdE s r (i+1):=fun i h0 h1 h2=>by
   have e:=s2 i h0 h1 h2;exact⟨(congrArg (fun q:Q4=>q.1) e).symm,(congrArg (fun q:Q4=>q.2.1) e).symm,(congrArg (fun q:Q4=>q.2.2.1) e).symm,(congrArg (fun q:Q4=>q.2.2.2) e).symm⟩
  have q3:∀i:Nat,(i:Int)<(Geo.edges r).length->¬eA s r i<0->eB' s r i<0->eA s r i*hdE s r i<hnE s r i*(eA s r i-eB' s r i)->lnE s r i=lnE s r (i+1)/\ldE s r i=ldE s r (i+1)/\eA s r i=hnE s r (i+1)/\eA s r i-eB' s r i=hdE s r (i+1):=fun i h0 h1 h2 h3=>by
   have e:=s3 i h0 h1 h2 h3;exact⟨(congrArg (fun q:Q4=>q.1) e).symm,(congrArg (fun q:Q4=>q.2.1) e).symm,(congrArg (fun q:Q4=>q.2.2.1) e).symm,(congrArg (fun q:Q4=>q.2.2.2) e).symm⟩
  have q4:∀i:Nat,(i:Int)<(Geo.edges r).length->¬eA s r i<0->eB' s r i<0->¬eA s r i*hdE s r i<hnE s r i*(eA s r i-eB' s r i)->lnE s r i=lnE s r (i+1)/\ldE s r i=ldE s r (i+1)/\hnE s r i=hnE s r (i+1)/\hdE s r i=hdE s r (i+1):=fun i h0 h1 h2 h3=>by
   have e:=s4 i h0 h1 h2 h3;exact⟨(congrArg (fun q:Q4=>q.1) e).symm,(congrArg (fun q:Q4=>q.2.1) e).symm,(congrArg (fun q:Q4=>q.2.2.1) e).symm,(congrArg (fun q:Q4=>q.2.2.2) e).symm⟩
  have q5:∀i:Nat,(i:Int)<(Geo.edges r).length->¬eA s r i<0->¬eB' s r i<0->lnE s r i=lnE s r (i+1)/\ldE s r i=ldE s r (i+1)/\hnE s r i=hnE s r (i+1)/\hdE s r i=hdE s r (i+1):=fun i h0 h1 h2=>by
   have e:=s5 i h0 h1 h2;exact⟨(congrArg (fun q:Q4=>q.1) e).symm,(congrArg (fun q:Q4=>q.2.1) e).symm,(congrArg (fun q:Q4=>q.2.2.1) e).symm,(congrArg (fun q:Q4=>q.2.2.2) e).symm⟩
  clear he sN bA eN nN s1 s2 s3 s4 s5
  repeat' first|with_reducible apply And.intro|with_reducible intro
  all_goals repeat with_reducible cases‹_/\wJ _ _ _›
  all_goals first|assumption|with_reducible rfl|(with_reducible exact e9a _ ‹_›)|(with_reducible exact e9b _ ‹_›)|(with_reducible exact cA _ _ ‹_› ‹_›)|(with_reducible exact oY _ ‹_› ‹_›)|(with_reducible exact oE _ ‹_› ‹_› ‹_›)|(with_reducible exact o1 _ ‹_›)|(with_reducible exact o2 _ ‹_›)|(with_reducible exact(w _ ‹_› ‹_›).1)|(with_reducible exact(w _ ‹_› ‹_›).2.1)|(with_reducible exact(w _ ‹_› ‹_›).2.2.1)|(with_reducible exact(w _ ‹_› ‹_›).2.2.2.1)|(with_reducible exact(w _ ‹_› ‹_›).2.2.2.2.1)|(with_reducible exact(w _ ‹_› ‹_›).2.2.2.2.2.1)|(with_reducible exact(w _ ‹_› ‹_›).2.2.2.2.2.2)|(with_reducible exact(wE _ ‹_›).1)|(with_reducible exact(wE _ ‹_›).2)|(with_reducible exact iN _ ‹_› ‹_› ‹_›)|(with_reducible exact(q1 _ ‹_› ‹_› ‹_›).1)|(with_reducible exact(q1 _ ‹_› ‹_› ‹_›).2.1)|(with_reducible exact(q1 _ ‹_› ‹_› ‹_›).2.2.1)|(with_reducible exact(q1 _ ‹_› ‹_› ‹_›).2.2.2)|(with_reducible exact(q2 _ ‹_› ‹_› ‹_›).1)|(with_reducible exact(q2 _ ‹_› ‹_› ‹_›).2.1)|(with_reducible exact(q2 _ ‹_› ‹_› ‹_›).2.2.1)|(with_reducible exact(q2 _ ‹_› ‹_› ‹_›).2.2.2)|(with_reducible exact(q3 _ ‹_› ‹_› ‹_› ‹_›).1)|(with_reducible exact(q3 _ ‹_› ‹_› ‹_› ‹_›).2.1)|(with_reducible exact(q3 _ ‹_› ‹_› ‹_› ‹_›).2.2.1)|(with_reducible exact(q3 _ ‹_› ‹_› ‹_› ‹_›).2.2.2)|(with_reducible exact(q4 _ ‹_› ‹_› ‹_› ‹_›).1)|(with_reducible exact(q4 _ ‹_› ‹_› ‹_› ‹_›).2.1)|(with_reducible exact(q4 _ ‹_› ‹_› ‹_› ‹_›).2.2.1)|(with_reducible exact(q4 _ ‹_› ‹_› ‹_› ‹_›).2.2.2)|(with_reducible exact(q5 _ ‹_› ‹_› ‹_›).1)|(with_reducible exact(q5 _ ‹_› ‹_› ‹_›).2.1)|(with_reducible exact(q5 _ ‹_› ‹_› ‹_›).2.2.1)|(with_reducible exact(q5 _ ‹_› ‹_› ‹_›).2.2.2)|omega|(unfold ix;omega)|(unfold aE;omega)|rfl)
def aJ9:Tab:=cK [(158,aLp)] t21
theorem aGs:aJ9.Ok Tryz.prog:=aH aJB ⟨aNl,trivial⟩
theorem Yj{t:LT}{l:List t.ty}{q:t.ty->Bool}{j:Nat}(hj:j<l.length)(h:q (t.nth l j)=true):l.any q=true:=
 List.any_eq_true.2 ⟨_,List.getElem_mem hj,by rw[<-t.nth_eq l hj];exact h⟩
theorem aBS{t:LT}{l:List t.ty}{q:t.ty->Bool}(h:bH (fun j=>q (t.nth l j)=false) l.length):l.any q=false:=
 List.any_eq_false.2 fun x hx=>by
  obtain⟨j,hj,rfl⟩:=List.getElem_of_mem hx;have:=h j hj;dsimp only at this;rw[t.nth_eq l hj]at this;rw[this];simp
def c88:Con:=con (ac (aL .V) (a1 (aL .V))) (fun(a,b)=>[TriOk a,TriOk b]) (fun(a,b)=> .bool (Geo.dH a b))
theorem k88:c88.Ok Tryz.prog 88:=aR (bO aGs) (raw:=bT) (fun(a,b)=>[cnt 2 12 (Geo.edges a).length (bH fun i=>Geo.cQ (bC (Geo.edges a) i) b=false),cnt 8 23 (Geo.edges b).length (bH fun i=>Geo.cQ (bC (Geo.edges b) i) a=false)]
  ) (fun(_,_)=>⟨_,rfl⟩) fun(a,b) hp=>bP (q:=a.length<=1000/\(0=(0:Int)/\(0:Nat)<=(Geo.edges a).length/\bH (fun i=>Geo.cQ (bC (Geo.edges a) i) b=false) 0)/\
 (∀x:Nat,x<=(Geo.edges a).length/\bH (fun i=>Geo.cQ (bC (Geo.edges a) i) b=false) x->((x:Int)<(Geo.edges a).length->ix (x:Int) (Geo.edges a).length/\x<(Geo.edges a).length/\bd 10000 (bC (Geo.edges a) x).a/\bd 10000 (bC (Geo.edges a) x).b/\b.length<=1000/\(∀i:Nat,i<(Geo.edges b).length->bd 10000 (bC (Geo.edges b) i).a/\bd 10000 (bC (Geo.edges b) i).b)/\(Geo.cQ (bC (Geo.edges a) x) b=true->true=Geo.dH a b)/\
   (Geo.cQ (bC (Geo.edges a) x) b=false->aE ((x:Int)+1)/\(x:Int)+1=((x+1:Nat):Int)/\x+1<=(Geo.edges a).length/\bH (fun i=>Geo.cQ (bC (Geo.edges a) i) b=false) (x+1)/\(Geo.edges a).length-(x+1)<(Geo.edges a).length-x))/\
  (¬(x:Int)<(Geo.edges a).length->b.length<=1000/\(0=(0:Int)/\(0:Nat)<=(Geo.edges b).length/\bH (fun i=>Geo.cQ (bC (Geo.edges b) i) a=false) 0)/\
   (∀x_1:Nat,x_1<=(Geo.edges b).length/\bH (fun i=>Geo.cQ (bC (Geo.edges b) i) a=false) x_1->((x_1:Int)<(Geo.edges b).length->ix (x_1:Int) (Geo.edges b).length/\x_1<(Geo.edges b).length/\bd 10000 (bC (Geo.edges b) x_1).a/\bd 10000 (bC (Geo.edges b) x_1).b/\a.length<=1000/\(∀i:Nat,i<(Geo.edges a).length->bd 10000 (bC (Geo.edges a) i).a/\bd 10000 (bC (Geo.edges a) i).b)/\(Geo.cQ (bC (Geo.edges b) x_1) a=true->true=Geo.dH a b)/\
     (Geo.cQ (bC (Geo.edges b) x_1) a=false->aE ((x_1:Int)+1)/\(x_1:Int)+1=((x_1+1:Nat):Int)/\x_1+1<=(Geo.edges b).length/\bH (fun i=>Geo.cQ (bC (Geo.edges b) i) a=false) (x_1+1)/\(Geo.edges b).length-(x_1+1)<(Geo.edges b).length-x_1))/\
    (¬(x_1:Int)<(Geo.edges b).length->ix 0 a.length/\ix 1 a.length/\ix 2 a.length/\bd 1000000000 (nth a 0)/\bd 1000000000 (nth a 1)/\bd 1000000000 (nth a 2)/\b.length<=1000/\decide (Geo.aP b (Geo.dB (nth a 0) (nth a 1) (nth a 2))=2)=Geo.dH a b))))) (by kernel_rfl) (by
  change TriOk a/\TriOk b at hp;obtain⟨ha,hb⟩:=hp;have la:=ha.len;have lb:=hb.len;have l3:=ha.three;have el:∀r:Geo.aC,r.length<=1000->(Geo.edges r).length<=1000:=fun r h=>by unfold Geo.edges;split<;>simp<;>omega
  have ela:=el a la;have elb:=el b lb;have eb:∀r:Geo.aC,TriOk r->∀i:Nat,i<(Geo.edges r).length->bd 10000 (bC (Geo.edges r) i).a/\bd 10000 (bC (Geo.edges r) i).b:=fun r h i hi=>by
   have:=h.edges _ (List.getElem_mem hi);rw[gA hi];exact⟨rJ this.1,rJ this.2⟩
  have ea1:∀i:Nat,(i:Int)<(Geo.edges a).length->bd 10000 (bC (Geo.edges a) i).a:=fun i h=>(eb a ha i (by omega)).1
  have ea2:∀i:Nat,(i:Int)<(Geo.edges a).length->bd 10000 (bC (Geo.edges a) i).b:=fun i h=>(eb a ha i (by omega)).2
  have eb1:∀i:Nat,(i:Int)<(Geo.edges b).length->bd 10000 (bC (Geo.edges b) i).a:=fun i h=>(eb b hb i (by omega)).1
  have eb2:∀i:Nat,(i:Int)<(Geo.edges b).length->bd 10000 (bC (Geo.edges b) i).b:=fun i h=>(eb b hb i (by omega)).2
  have xa1:∀i:Nat,i<(Geo.edges a).length->bd 10000 (bC (Geo.edges a) i).a:=fun i h=>(eb a ha i h).1
  have xa2:∀i:Nat,i<(Geo.edges a).length->bd 10000 (bC (Geo.edges a) i).b:=fun i h=>(eb a ha i h).2
  have xb1:∀i:Nat,i<(Geo.edges b).length->bd 10000 (bC (Geo.edges b) i).a:=fun i h=>(eb b hb i h).1
  have xb2:∀i:Nat,i<(Geo.edges b).length->bd 10000 (bC (Geo.edges b) i).b:=fun i h=>(eb b hb i h).2
  have vb:∀i,i<a.length->bd 1000000000 (nth a i):=fun i h=>rJ (ha.near _ (Geo.gT h)) (by decide)
  have v0:=vb 0 (by omega)
  have v1:=vb 1 (by omega)
  have v2:=vb 2 (by omega)
  have t1:∀i:Nat,(i:Int)<(Geo.edges a).length->Geo.cQ (bC (Geo.edges a) i) b=true->true=Geo.dH a b:=fun i h h2=>by
   unfold Geo.dH;rw[Yj (t:= .S) (l:=Geo.edges a) (q:=fun s=>Geo.cQ s b) (j:=i) (by omega) h2];rfl
  have t2:∀i:Nat,(i:Int)<(Geo.edges b).length->Geo.cQ (bC (Geo.edges b) i) a=true->true=Geo.dH a b:=fun i h h2=>by
   unfold Geo.dH;rw[Yj (t:= .S) (l:=Geo.edges b) (q:=fun s=>Geo.cQ s a) (j:=i) (by omega) h2];simp
  have t3:∀x y:Nat,¬(x:Int)<(Geo.edges a).length->x<=(Geo.edges a).length->bH (fun i=>Geo.cQ (bC (Geo.edges a) i) b=false) x->¬(y:Int)<(Geo.edges b).length->y<=(Geo.edges b).length->bH (fun i=>Geo.cQ (bC (Geo.edges b) i) a=false) y->decide (Geo.aP b (Geo.dB (nth a 0) (nth a 1) (nth a 2))=2)=Geo.dH a b:=fun x y h1 h2 h3 h4 h5 h6=>by
   obtain rfl:x=(Geo.edges a).length:=by omega
   obtain rfl:y=(Geo.edges b).length:=by omega
   unfold Geo.dH;rw[aBS (t:= .S) (l:=Geo.edges a) (q:=fun s=>Geo.cQ s b) h3,aBS (t:= .S) (l:=Geo.edges b) (q:=fun s=>Geo.cQ s a) h6,Bool.false_or,Bool.false_or,Bool.eq_iff_iff];simp
  clear ha hb eb el vb
  repeat' first|with_reducible apply And.intro|with_reducible intro
  all_goals repeat with_reducible cases‹_/\bH _ _›
  all_goals first|assumption|rfl|omega|(unfold ix;omega)|(unfold aE;omega)|exact bG _|exact ea1 _ ‹_› |exact ea2 _ ‹_› |exact eb1 _ ‹_› |exact eb2 _ ‹_› |exact xa1 _ ‹_› |exact xa2 _ ‹_› |exact xb1 _ ‹_› |exact xb2 _ ‹_› |exact t1 _ ‹_› ‹_› |exact t2 _ ‹_› ‹_› |exact t3 _ _ ‹_› ‹_› ‹_› ‹_› ‹_› ‹_› |exact aA ‹_› ‹_›)
def t88:Tab:=cK [(88,c88)] aJ9
theorem aIZ:t88.Ok Tryz.prog:=aH aGs ⟨k88,trivial⟩
def c85:Con:=con (ac aSh (a1 (aL .V))) (fun(s,r)=>[Fit s,TriOk r,(aQ s).length<=1000000,(∀e∈aQ s,Geo.aJ e.a 10000=true/\Geo.aJ e.b 10000=true)]) (fun(s,r)=> .bool (Geo.lN s r))
theorem k85:c85.Ok Tryz.prog 85:=aR (bO aIZ) (raw:=bT) (fun(s,r)=>[cnt 2 10 (aQ s).length (bH fun i=>Geo.cQ (bC (aQ s) i) r=false)]
  ) (fun(_,_)=>⟨_,rfl⟩) fun(s,r) hp=>bP (q:=Fit s/\(0=(0:Int)/\(0:Nat)<=(aQ s).length/\bH (fun i=>Geo.cQ (bC (aQ s) i) r=false) 0)/\
 (∀x:Nat,x<=(aQ s).length/\bH (fun i=>Geo.cQ (bC (aQ s) i) r=false) x->((x:Int)<(aQ s).length->ix (x:Int) (aQ s).length/\bd 10000 (bC (aQ s) x).a/\bd 10000 (bC (aQ s) x).b/\r.length<=1000/\(∀i:Nat,i<(Geo.edges r).length->bd 10000 (bC (Geo.edges r) i).a/\bd 10000 (bC (Geo.edges r) i).b)/\(Geo.cQ (bC (aQ s) x) r=true->false=Geo.lN s r)/\
   (Geo.cQ (bC (aQ s) x) r=false->aE ((x:Int)+1)/\(x:Int)+1=((x+1:Nat):Int)/\x+1<=(aQ s).length/\bH (fun i=>Geo.cQ (bC (aQ s) i) r=false) (x+1)/\(aQ s).length-(x+1)<(aQ s).length-x))/\
  (¬(x:Int)<(aQ s).length->ix 0 r.length/\ix 1 r.length/\ix 2 r.length/\bd 1000000000 (nth r 0)/\bd 1000000000 (nth r 1)/\bd 1000000000 (nth r 2)/\Fit s/\decide (Geo.dA s (Geo.dB (nth r 0) (nth r 1) (nth r 2))=2)=Geo.lN s r))) (by kernel_rfl) (by
  change Fit s/\TriOk r/\(aQ s).length<=1000000/\((∀e∈aQ s,Geo.aJ e.a 10000=true/\Geo.aJ e.b 10000=true))at hp;obtain⟨hf,hr,hl,he⟩:=hp;have lr:=hr.len;have l3:=hr.three;have e1:∀i:Nat,(i:Int)<(aQ s).length->bd 10000 (bC (aQ s) i).a:=fun i h=>by rw[gA (by omega)];exact rJ (he _ (List.getElem_mem _)).1
  have e2:∀i:Nat,(i:Int)<(aQ s).length->bd 10000 (bC (aQ s) i).b:=fun i h=>by rw[gA (by omega)];exact rJ (he _ (List.getElem_mem _)).2
  have x1:∀i:Nat,i<(Geo.edges r).length->bd 10000 (bC (Geo.edges r) i).a:=fun i h=>by rw[gA h];exact rJ (hr.edges _ (List.getElem_mem _)).1
  have x2:∀i:Nat,i<(Geo.edges r).length->bd 10000 (bC (Geo.edges r) i).b:=fun i h=>by rw[gA h];exact rJ (hr.edges _ (List.getElem_mem _)).2
  have vb:∀i,i<r.length->bd 1000000000 (nth r i):=fun i h=>rJ (hr.near _ (Geo.gT h)) (by decide)
  have v0:=vb 0 (by omega)
  have v1:=vb 1 (by omega)
  have v2:=vb 2 (by omega)
  have t1:∀i:Nat,(i:Int)<(aQ s).length->Geo.cQ (bC (aQ s) i) r=true->false=Geo.lN s r:=fun i h h2=>by
   unfold Geo.lN;rw[Lm (t:= .S) (l:=aQ s) (q:=fun e=> !Geo.cQ e r) (j:=i) (by omega) (by rw[show Geo.cQ (LT.S.nth (aQ s) i) r=true from h2];rfl)];rfl
  have t3:∀x:Nat,¬(x:Int)<(aQ s).length->x<=(aQ s).length->bH (fun i=>Geo.cQ (bC (aQ s) i) r=false) x->decide (Geo.dA s (Geo.dB (nth r 0) (nth r 1) (nth r 2))=2)=Geo.lN s r:=fun x h1 h2 h3=>by
   obtain rfl:x=(aQ s).length:=by omega
   unfold Geo.lN;rw[Dg (t:= .S) (l:=aQ s) (q:=fun e=> !Geo.cQ e r) (fun j hj=>by show(!Geo.cQ (bC (aQ s) j) r)=true;rw[show Geo.cQ (bC (aQ s) j) r=false from h3 j hj];rfl),Bool.true_and,Bool.eq_iff_iff];simp
  clear he hr vb
  repeat' first|with_reducible apply And.intro|with_reducible intro
  all_goals repeat with_reducible cases‹_/\bH _ _›
  all_goals first|assumption|rfl|omega|(unfold ix;omega)|(unfold aE;omega)|exact bG _|exact e1 _ ‹_› |exact e2 _ ‹_› |exact x1 _ ‹_› |exact x2 _ ‹_› |exact t1 _ ‹_› ‹_› |exact t3 _ ‹_› ‹_› ‹_› |exact aA ‹_› ‹_›)
def t85:Tab:=cK [(85,c85)] t88
theorem aI2:t85.Ok Tryz.prog:=aH aIZ ⟨k85,trivial⟩
def fgn(v:List Geo.V)(p:Geo.V):Bool:= !v.any fun u=>decide (p=u)
def aLw:Con:=con (ac (aL .V) (a1 aV)) (fun(l,_)=>[l.length<=1000000]) (fun(l,v)=> .int .i64 (fI (fun u=>decide (v=u)) l))
theorem aNs:aLw.Ok Tryz.prog 150:=aR (bO aI2) (raw:=bT) (fun(l,v)=>[cnt 2 8 l.length (bH fun j=>decide (v=nth l j)=false)]
  ) (fun(_,_)=>⟨_,rfl⟩) fun(l,v) hp=>bP (q:=(0=(0:Int)/\(0:Nat)<=l.length/\bH (fun j=>decide (v=nth l j)=false) 0)/\
 (∀x:Nat,x<=l.length/\bH (fun j=>decide (v=nth l j)=false) x->((x:Int)<l.length->ix (x:Int) l.length/\(v=(nth l x)->(x:Int)=fI (fun u=>decide (v=u)) l)/\
   (¬v=(nth l x)->aE ((x:Int)+1)/\(x:Int)+1=((x+1:Nat):Int)/\x+1<=l.length/\bH (fun j=>decide (v=nth l j)=false) (x+1)/\l.length-(x+1)<l.length-x))/\
  (¬(x:Int)<l.length-> -1=fI (fun u=>decide (v=u)) l))) (by kernel_rfl) (by
  change l.length<=1000000 at hp
  repeat' first|with_reducible apply And.intro|with_reducible intro
  all_goals repeat with_reducible cases‹_/\_›
  all_goals first|assumption|rfl|exact trivial|exact nb ‹_› |exact nb' ‹_› |omega|exact cV (by omega)|(unfold ix;omega)|(unfold aE;omega)|exact bG _|exact aA ‹_› ‹_› |(refine aA ‹_› ?_;simp_all;done)|exact Bl (t:= .V) (by omega) (decide_eq_true ‹_›) ‹_› |(obtain rfl:_=l.length:=Nat.le_antisymm ‹_› (by omega);exact wY (t:= .V) ‹_›)|grind)
def aKh:Tab:=cK [(150,aLw)] t85
theorem aGB:aKh.Ok Tryz.prog:=aH aI2 ⟨aNs,trivial⟩
def c82:Con:=con (ac (aL .V) (a1 aV)) (fun(l,_)=>[l.length<=1000000]) (fun(l,v)=> .bool (l.any fun u=>decide (v=u))
 )
theorem k82:c82.Ok Tryz.prog 82:=aR (bO aGB) (raw:=bT) (fun(_,_)=>[]) (fun(_,_)=>⟨_,rfl⟩) fun(l,v) hp=>bP (q:=l.length<=1000000/\decide (0<=fI (fun u=>decide (v=u)) l)=List.any l (fun u=>decide (v=u))) (by kernel_rfl) (by
 change l.length<=1000000 at hp;exact⟨hp,Ac _ _⟩)
def t82:Tab:=cK [(82,c82)] aKh
theorem aI6:t82.Ok Tryz.prog:=aH aGB ⟨k82,trivial⟩
def c81:Con:=con (ac aV (a1 aPR)) (fun(_,l)=>[l.length<=1000000]) (fun(v,l)=> .bool (fgn l v)
 )
theorem k81:c81.Ok Tryz.prog 81:=aR (bO aI6) (raw:=bT) (fun(_,_)=>[]) (fun(_,_)=>⟨_,rfl⟩) fun(v,l) hp=>bP (q:=l.length<=1000000/\(!List.any l (fun u=>decide (v=u)))=fgn l v) (by kernel_rfl) (by
 change l.length<=1000000 at hp;exact⟨hp,rfl⟩)
def t81:Tab:=cK [(81,c81)] t82
theorem aI7:t81.Ok Tryz.prog:=aH aI6 ⟨k81,trivial⟩
def aL2:Ar (Geo.aC×Unit):=aCl 81 (ac aPR a0)
def aL1:Ar (Geo.aC×Unit):=aCl 87 (ac aPR a0)
def aHe:Con:=con (ac (aL .V) (a1 aL2)) (fun(l,c)=>[l.length<=1000000,c.1.length<=1000000]) (fun(l,c)=> .int .i64 (fI (fgn c.1) l))
theorem aMj:aHe.Ok Tryz.prog 157:=aR (bO aI7) (raw:=bT) (fun(l,c)=>[cnt 2 8 l.length (bH fun j=>fgn c.1 (nth l j)=false)]
  ) (fun(_,_)=>⟨_,rfl⟩) fun(l,c) hp=>bP (q:=(0=(0:Int)/\(0:Nat)<=l.length/\bH (fun j=>fgn c.1 (nth l j)=false) 0)/\
 (∀x:Nat,x<=l.length/\bH (fun j=>fgn c.1 (nth l j)=false) x->((x:Int)<l.length->ix (x:Int) l.length/\c.1.length<=1000000/\(fgn c.1 (nth l x)=true->(x:Int)=fI (fgn c.1) l)/\
   (fgn c.1 (nth l x)=false->aE ((x:Int)+1)/\(x:Int)+1=((x+1:Nat):Int)/\x+1<=l.length/\bH (fun j=>fgn c.1 (nth l j)=false) (x+1)/\l.length-(x+1)<l.length-x))/\
  (¬(x:Int)<l.length-> -1=fI (fgn c.1) l))) (by kernel_rfl) (by
  change l.length<=1000000/\c.1.length<=1000000 at hp
  repeat' first|with_reducible apply And.intro|with_reducible intro
  all_goals repeat with_reducible cases‹_/\_›
  all_goals first|assumption|rfl|exact trivial|exact nb ‹_› |exact nb' ‹_› |omega|exact cV (by omega)|(unfold ix;omega)|(unfold aE;omega)|exact bG _|exact aA ‹_› ‹_› |(refine aA ‹_› ?_;simp_all;done)|exact Bl (t:= .V) (by omega) ‹_› ‹_› |(obtain rfl:_=l.length:=Nat.le_antisymm ‹_› (by omega);exact wY (t:= .V) ‹_›)|exact aA ‹_› ‹_› |grind)
def aGu:Tab:=cK [(157,aHe)] t81
theorem aBr:aGu.Ok Tryz.prog:=aH aI7 ⟨aMj,trivial⟩
def aKS:Con:=con (ac (aL .V) (a1 aL2)) (fun(l,c)=>[l.length<=1000000,c.1.length<=1000000]) (fun(l,c)=> .bool (l.any (fgn c.1))
 )
theorem aMO:aKS.Ok Tryz.prog 84:=aR (bO aBr) (raw:=bT) (fun(_,_)=>[]) (fun(_,_)=>⟨_,rfl⟩) fun(l,c) hp=>bP (q:=l.length<=1000000/\c.fst.length<=1000000/\decide (0<=fI (fgn c.fst) l)=List.any l (fgn c.1)) (by kernel_rfl) (by
 change l.length<=1000000/\c.1.length<=1000000 at hp;exact⟨hp.1,hp.2,Ac _ _⟩)
def aI4:Tab:=cK [(84,aKS)] aGu
theorem aFV:aI4.Ok Tryz.prog:=aH aBr ⟨aMO,trivial⟩
def c87:Con:=con (ac (aL .V) (a1 aPR)) (fun(o,r)=>[TriOk r,TriOk o]) (fun(o,r)=> .bool (Geo.dH r o)
 )
theorem k87:c87.Ok Tryz.prog 87:=aR (bO aFV) (raw:=bT) (fun(_,_)=>[]) (fun(_,_)=>⟨_,rfl⟩) fun(o,r) hp=>bP (q:=TriOk r/\TriOk o/\Geo.dH r o=Geo.dH r o) (by kernel_rfl) (by
 change TriOk r/\TriOk o at hp;exact⟨hp.1,hp.2,rfl⟩)
def t87:Tab:=cK [(87,c87)] aI4
theorem aI0:t87.Ok Tryz.prog:=aH aFV ⟨k87,trivial⟩
def aLo:Con:=con (ac (aL .R) (a1 aL1)) (fun(l,c)=>[l.length<=1000000,TriOk c.1,(∀o∈l,TriOk o)]) (fun(l,c)=> .int .i64 (fI (Geo.dH c.1) l))
theorem aNk:aLo.Ok Tryz.prog 159:=aR (bO aI0) (raw:=bT) (fun(l,c)=>[cnt 2 8 l.length (bH fun j=>Geo.dH c.1 (aD l j)=false)]
  ) (fun(_,_)=>⟨_,rfl⟩) fun(l,c) hp=>bP (q:=(0=(0:Int)/\(0:Nat)<=l.length/\bH (fun j=>Geo.dH c.1 (aD l j)=false) 0)/\
 (∀x:Nat,x<=l.length/\bH (fun j=>Geo.dH c.1 (aD l j)=false) x->((x:Int)<l.length->ix (x:Int) l.length/\TriOk c.1/\TriOk (aD l x)/\(Geo.dH c.1 (aD l x)=true->(x:Int)=fI (Geo.dH c.1) l)/\
   (Geo.dH c.1 (aD l x)=false->aE ((x:Int)+1)/\(x:Int)+1=((x+1:Nat):Int)/\x+1<=l.length/\bH (fun j=>Geo.dH c.1 (aD l j)=false) (x+1)/\l.length-(x+1)<l.length-x))/\
  (¬(x:Int)<l.length-> -1=fI (Geo.dH c.1) l))) (by kernel_rfl) (by
  change l.length<=1000000/\TriOk c.1/\((∀o∈l,TriOk o))at hp;have hm:∀x:Nat,(x:Int)<l.length->TriOk (aD l x):=fun x h=>hp.2.2 _ (Geo.fQ (by omega))
  repeat' first|with_reducible apply And.intro|with_reducible intro
  all_goals repeat with_reducible cases‹_/\_›
  all_goals first|assumption|rfl|exact trivial|exact nb ‹_› |exact nb' ‹_› |omega|exact cV (by omega)|(unfold ix;omega)|(unfold aE;omega)|exact bG _|exact aA ‹_› ‹_› |(refine aA ‹_› ?_;simp_all;done)|exact hm _ ‹_› |exact Bl (t:= .R) (by omega) ‹_› ‹_› |(obtain rfl:_=l.length:=Nat.le_antisymm ‹_› (by omega);exact wY (t:= .R) ‹_›)|grind)
def aJ8:Tab:=cK [(159,aLo)] t87
theorem aGr:aJ8.Ok Tryz.prog:=aH aI0 ⟨aNk,trivial⟩
def c86:Con:=con (ac (aL .R) (a1 aL1)) (fun(l,c)=>[l.length<=1000000,TriOk c.1,(∀o∈l,TriOk o)]) (fun(l,c)=> .bool (l.any (Geo.dH c.1))
 )
theorem k86:c86.Ok Tryz.prog 86:=aR (bO aGr) (raw:=bT) (fun(_,_)=>[]) (fun(_,_)=>⟨_,rfl⟩) fun(l,c) hp=>bP (q:=l.length<=1000000/\TriOk c.fst/\(∀o:Geo.aC,o∈l->TriOk o)/\decide (0<=fI (Geo.dH c.fst) l)=List.any l (Geo.dH c.1)) (by kernel_rfl) (by
 change l.length<=1000000/\TriOk c.1/\((∀o∈l,TriOk o))at hp;exact⟨hp.1,hp.2.1,hp.2.2,Ac _ _⟩)
def t86:Tab:=cK [(86,c86)] aJ8
theorem aI1:t86.Ok Tryz.prog:=aH aGr ⟨k86,trivial⟩
def ckA(s:Geo.Shape)(r:Geo.aC):Bool:=(decide (¬(r.length:Int)=3)||(!Geo.cB r||(r.any (fgn (vOf s))|| !Geo.lN s r)))
def ckB(l:List Geo.aC)(i:Nat):Bool:=(l.take i).any (Geo.dH (aD l i))
def ck(s:Geo.Shape)(l:List Geo.aC)(i:Nat):Prop:=ckA s (aD l i)=false/\ckB l i=false
def a2(r:Geo.aC):Int:=if Geo.cB r=true then Geo.area r else 0
def a2S(l:List Geo.aC)(k:Nat):Int:=((l.take k).map a2).sum
def nD(s:Geo.Shape)(l:List Geo.aC):Bool:=Geo.bV s&&((List.range l.length).all fun i=> !ckA s (aD l i)&& !ckB l i)&&decide (a2S l l.length=pN s)
def c28:Con:=con (ac aSh (a1 (aL .R))) (fun(s,l)=>[Fit s,l.length<=1000,(∀r∈l,r.length<=1000)]) (fun(s,l)=> .bool (nD s l))
set_option maxHeartbeats 1000000 in
theorem k28:c28.Ok Tryz.prog 28:=aR (bO aI1) (raw:=bT) (fun(s,l)=>[lp 6 20 l.length (fun k=>[bH (ck s l) k]) [] (fun k=>[(7,.int .i64 (a2S l k))]) (fun _=>[]) fun k=>[jb 10 44 (ckA s (aD l k))]]
  ) (fun(_,_)=>⟨_,rfl⟩) fun(s,l) hp=>bP (q:=Fit s/\(¬eOf s=0->false=nD s l)/\
 (¬(¬eOf s=0)->(0=(0:Int)/\0=a2S l 0/\(0:Nat)<=l.length/\bH (ck s l) 0)/\
  (∀x:Nat,x<=l.length/\bH (ck s l) x->((x:Int)<l.length->ix (x:Int) l.length/\((¬((aD l x).length:Int)=3->true=ckA s (aD l x))/\
     (¬(¬((aD l x).length:Int)=3)->(aD l x).length<=1000/\((!Geo.cB (aD l x))=true->true=ckA s (aD l x))/\
      ((!Geo.cB (aD l x))=false->(aD l x).length<=1000000/\(vOf s).length<=1000000/\(List.any (aD l x) (fgn (vOf s))=true->true=ckA s (aD l x))/\
       (List.any (aD l x) (fgn (vOf s))=false->Fit s/\TriOk (aD l x)/\(aQ s).length<=1000000/\(∀e:Geo.S,e∈aQ s->Geo.aJ e.a 10000=true/\Geo.aJ e.b 10000=true)/\(!Geo.lN s (aD l x))=ckA s (aD l x)))))/\
    (∀y:Unit,(ckA s (aD l x)=true->false=nD s l)/\
     (ckA s (aD l x)=false->(0<=(x:Int)/\(x:Int)<=l.length)/\(List.take x l).length<=1000000/\TriOk (aD l x)/\(∀o:Geo.aC,o∈List.take x l->TriOk o)/\(List.any (List.take x l) (Geo.dH (aD l x))=true->false=nD s l)/\
      (List.any (List.take x l) (Geo.dH (aD l x))=false->(aD l x).length<=1000/\aE (a2S l x+(if Geo.cB (aD l x)=true then Geo.area (aD l x)else 0))/\aE ((x:Int)+1)/\(x:Int)+1=((x+1:Nat):Int)/\a2S l x+(if Geo.cB (aD l x)=true then Geo.area (aD l x)else 0)=a2S l (x+1)/\x+1<=l.length/\bH (ck s l) (x+1)/\l.length-(x+1)<l.length-x))))/\
   (¬(x:Int)<l.length->Fit s/\decide (a2S l x=(if Geo.bV s=true then pN s else 0))=nD s l)))) (by kernel_rfl) (by
  change Fit s/\l.length<=1000/\((∀r∈l,r.length<=1000))at hp;obtain⟨hf,hl,hr⟩:=hp;have R:¬¬eOf s=0->Geo.bD s=true:=fun h=>Mj h
  have hvP:¬¬eOf s=0->Geo.bV s=true:=fun h=>by rw[Geo.mB];exact R h
  have V:¬¬eOf s=0->Geo.VS s:=fun h=>vsR (R h)
  have hv:=Kt s;have hvl:(vOf s).length<=1000000:=by omega
  have he:¬¬eOf s=0->(aQ s).length<=1000000:=fun h=>by have:=uN (V h);omega
  have hw:¬¬eOf s=0->∀e∈aQ s,Geo.aJ e.a 10000=true/\Geo.aJ e.b 10000=true:=fun h=>aBW (V h)
  have hr:∀x:Nat,(x:Int)<l.length->(aD l x).length<=1000:=fun x h=>hr _ (Geo.fQ (by omega))
  have hr6:∀x:Nat,(x:Int)<l.length->(aD l x).length<=1000000:=fun x h=>by have:=hr x h;omega
  have c0:¬eOf s=0->false=nD s l:=fun h=>by
   unfold nD;rw[Geo.mB];cases e:Geo.bD s with
   |false=>rfl
   |true=>exact absurd (by unfold eOf;rw[e];rfl) h
  have a1:∀x:Nat,¬((aD l x).length:Int)=3->true=ckA s (aD l x):=fun x h=>by unfold ckA;rw[decide_eq_true h];rfl
  have a2':∀x:Nat,(!Geo.cB (aD l x))=true->true=ckA s (aD l x):=fun x h=>by unfold ckA;rw[h];simp
  have a3:∀x:Nat,List.any (aD l x) (fgn (vOf s))=true->true=ckA s (aD l x):=fun x h=>by unfold ckA;rw[h];simp
  have a4:∀x:Nat,¬¬((aD l x).length:Int)=3->(!Geo.cB (aD l x))=false->List.any (aD l x) (fgn (vOf s))=false->(!Geo.lN s (aD l x))=ckA s (aD l x):=fun x h1 h2 h3=>by
   unfold ckA;rw[decide_eq_false h1,h2,h3];rfl
  have kV:∀r:Geo.aC,ckA s r=false->Geo.cB r=true:=fun r h=>by
   unfold ckA at h;cases e:Geo.cB r with
   |true=>rfl
   |false=>rw[e]at h;simp at h
  have tO:∀x:Nat,(!Geo.cB (aD l x))=false->TriOk (aD l x):=fun x h=>Oo (nb h)
  have tO2:∀x:Nat,ckA s (aD l x)=false->TriOk (aD l x):=fun x h=>Oo (kV _ h)
  have tO3:∀x:Nat,x<=l.length->bH (ck s l) x->∀o∈List.take x l,TriOk o:=fun x hx h o ho=>by
   obtain⟨j,hj,rfl⟩:=List.getElem_of_mem ho;rw[List.length_take]at hj;rw[List.getElem_take,<-jY (by omega)]
   exact tO2 j (h j (by omega)).1
  have tl:∀x:Nat,(List.take x l).length<=1000000:=fun x=>by rw[List.length_take];omega
  have no:∀x:Nat,(x:Int)<l.length->(ckA s (aD l x)=true\/List.any (List.take x l) (Geo.dH (aD l x))=true)->false=nD s l:=fun x h h2=>by
   unfold nD;rw[show((List.range l.length).all fun i=> !ckA s (aD l i)&& !ckB l i)=false from List.all_eq_false.2 ⟨x,List.mem_range.2 (by omega),by
    rcases h2 with h2|h2
    ·rw[h2];simp
    ·rw[show ckB l x=true from h2];simp⟩]
   simp
  have sS:∀x:Nat,(x:Int)<l.length->a2S l x+a2 (aD l x)=a2S l (x+1):=fun x h=>by
   unfold a2S;rw[List.take_succ_eq_append_getElem (by omega),List.map_append,List.sum_append,jY (by omega)];simp
  have b1:∀r:Geo.aC,-8000000000<=a2 r/\a2 r<=8000000000:=fun r=>by
   unfold a2;split
   ·exact Df ‹_›
   ·omega
  have bS:∀x:Nat,x<=l.length-> -(8000000000*(x:Int))<=a2S l x/\a2S l x<=8000000000*(x:Int):=fun x=>by
   induction x with
   |zero=>intro _;unfold a2S;simp
   |succ x ih=>
    intro h;have h1:=ih (by omega)
    have h2:=b1 (aD l x);rw[<-sS x (by omega)];omega
  have wS:∀x:Nat,(x:Int)<l.length->aE (a2S l x+a2 (aD l x)):=fun x h=>by
   have h1:=bS x (by omega)
   have h2:=b1 (aD l x);exact eC (by omega)
  have yE:¬¬eOf s=0->∀x:Nat,¬(x:Int)<l.length->x<=l.length->bH (ck s l) x->decide (a2S l x=(if Geo.bV s=true then pN s else 0))=nD s l:=fun h x h1 h2 h3=>by
   obtain rfl:x=l.length:=by omega
   unfold nD;rw[if_pos (hvP h),hvP h,show((List.range l.length).all fun i=> !ckA s (aD l i)&& !ckB l i)=true from List.all_eq_true.2 fun i hi=>by
    obtain⟨g1,g2⟩:=h3 i (List.mem_range.1 hi);rw[g1,g2];rfl]
   simp
  clear V kV b1 bS hvP R
  repeat' first|with_reducible apply And.intro|with_reducible intro
  all_goals repeat with_reducible cases‹_/\bH _ _›
  all_goals first|assumption|with_reducible rfl|(with_reducible exact c0 ‹_›)|(with_reducible exact he ‹_›)|(with_reducible exact hw ‹_› _ ‹_›)|exact(hw ‹_› _ ‹_›).1|exact(hw ‹_› _ ‹_›).2|(with_reducible exact hr _ ‹_›)|(with_reducible exact hr6 _ ‹_›)|(with_reducible exact a1 _ ‹_›)|(with_reducible exact a2' _ ‹_›)|(with_reducible exact a3 _ ‹_›)|(with_reducible exact a4 _ ‹_› ‹_› ‹_›)|(with_reducible exact tO _ ‹_›)|(with_reducible exact tO2 _ ‹_›)|(with_reducible exact tO3 _ ‹_› ‹_› _ ‹_›)|(with_reducible exact tl _)|(with_reducible exact no _ ‹_› (.inl ‹_›))|(with_reducible exact no _ ‹_› (.inr ‹_›))|exact sS _ ‹_› |exact wS _ ‹_› |(with_reducible exact yE ‹_› _ ‹_› ‹_› ‹_›)|exact aA ‹_› ⟨‹_›,‹_›⟩|exact bG _|omega|(unfold ix;omega)|(unfold aE;omega)|rfl)
def t28:Tab:=cK [(28,c28)] t86
theorem aMG:t28.Ok Tryz.prog:=aH aI1 ⟨k28,trivial⟩
end
end Go.Proofs.YtdaeofhdgabhjaaGreat
namespace Go.Proofs.YtdaeofhdgabhjaaGreat
open Go.RowKit
def frS(s:Nat)(cells:List PV)(x' y:AV):Prop:=x'= .any\/x'=y\/∃n,y= .own s 0 n/\x'= .p (.sl n cells)
def frL(s:Nat)(cells:List PV):List AV->List AV->Prop
 |[],[] =>True
 |x::l,y::r=>frS s cells x y/\frL s cells l r
 |_,_=>False
def frO(s:Nat)(cells:List PV)(L:Sto):Sto->Prop
 |[] =>True
 |(_,none)::r=>frO s cells L r
 |(k,some ob')::r=>(k≠s/\∃ob,look L k=some ob/\ob'.ty=ob.ty/\ob'.esz=ob.esz/\frL s cells ob'.cells ob.cells)/\frO s cells L r
theorem Qh{s:Nat}{cells:List PV}{L:Sto}:∀{L':Sto},frO s cells L L'->∀k ob',look L' k=some ob'->k≠s/\∃ob,look L k=some ob/\ob'.ty=ob.ty/\ob'.esz=ob.esz/\frL s cells ob'.cells ob.cells
 |[],_,k,ob',h=>by simp[look]at h
 |(j,x)::r,hO,k,ob',h=>by
  unfold look at h;split at h
  ·rename_i e;subst e;subst h;unfold frO at hO;exact hO.1
  ·refine Qh (L':=r) ?_ k ob' h;cases x with
   |none=>unfold frO at hO;exact hO
   |some ob=>unfold frO at hO;exact hO.2
theorem xK{s:Nat}{cells:List PV}:∀{l r:List AV},frL s cells l r->l.length=r.length
 |[],[],_=>rfl
 |x::l,y::r,h=>by unfold frL at h;simp[xK h.2]
 |[],_::_,h=>by unfold frL at h;exact h.elim
 |_::_,[],h=>by unfold frL at h;exact h.elim
theorem Mf{s:Nat}{cells:List PV}:∀{l r:List AV},frL s cells l r->∀(i:Nat) x,l[i]? =some x->∃y,r[i]? =some y/\frS s cells x y
 |[],[],_,i,x,h=>by simp at h
 |x::l,y::r,h,0,z,hz=>by unfold frL at h;simp at hz;subst hz;exact⟨y,rfl,h.1⟩
 |x::l,y::r,h,i+1,z,hz=>by unfold frL at h;exact Mf h.2 i z (by simpa using hz)
 |[],_::_,h,_,_,_=>by unfold frL at h;exact h.elim
 |_::_,[],h,_,_,_=>by unfold frL at h;exact h.elim
theorem Qz{F F':List AV}{L L':Sto}{N:Nat}{ty esz:Nat}(s:Nat)(cells:List PV)(hs:look L s=some ⟨ty,esz,cells.map .p⟩)(_hz:esz≠0)(hF:frL s cells F' F)(hL:frO s cells L L'):qX F L N F' L' N:=by
 intro C0 B wI a w ⟨⟨ρ,s1,s2,s3⟩,s4,s5,s6,s7⟩;have hl:=Qh hL;have hsn:look L' s=none:=by
  cases h:look L' s with
  |none=>rfl
  |some ob=>exact absurd rfl (hl s ob h).1
 have hdead:∀k,look L k=none->look L' k=none:=by
  intro k hk;cases h:look L' k with
  |none=>rfl
  |some ob=>obtain⟨_,ob2,h2,_⟩:=hl k ob h;rw[hk]at h2;cases h2
 have hmono:∀b o v,aY C0 B w ρ (look L) b o v->aY C0 B w ρ (look L') b o v:=fun b o v ⟨e1,e2,e3⟩=>⟨e1,fun k c h=>hdead k (e2 k c h),e3⟩
 have hone:∀x' y v,frS s cells x' y->aO ρ (aY C0 B w ρ (look L)) y v->aO ρ (aY C0 B w ρ (look L')) x' v:=by
  rintro x' y v (rfl|rfl|⟨n,rfl,rfl⟩) hv
  ·unfold aO;trivial
  ·exact aO.mono (fun _ _ h=>h) hmono _ v hv
  ·unfold aO at hv|-;obtain⟨q,c,hρ,hcase⟩:=hv;obtain⟨q2,c2,hρ2,hob⟩:=s1.ob s _ hs;rw[hρ]at hρ2;cases hρ2;unfold bF;rcases hcase with⟨h1,h4,h5,_⟩|⟨b,o',c',h1,h4,h5,h6,h7⟩
   ·subst h5;rcases hob with⟨_,_,h8,_⟩|⟨b,arr,h8,_⟩
    ·exact⟨none,0,h4,Nat.le_refl _,fun _=>⟨rfl,by simpa using h8⟩,fun ad e=>by cases e⟩
    ·rw[h1]at h8;cases h8
   ·obtain⟨rfl,rfl⟩:=h7 rfl;rcases hob with⟨h8,_⟩|⟨b2,arr,h8,h9,h10⟩
    ·rw[h1]at h8;cases h8
    ·rw[h1]at h8;cases h8;refine⟨_,c',h4,h5,(fun e=>by cases e),fun ad e=> ?_⟩
     cases e;refine⟨fun _=>rfl,eW.of _ _ _ fun i x hi=> ?_⟩
     obtain⟨u,k1,k2,k3⟩:=h10.cells i (.p x) (by show(cells.map AV.p)[i]? =_;rw[List.getElem?_map,hi];rfl)
     unfold aO at k3;refine⟨u,⟨by rw[Nat.zero_add,h10.cell];exact k1,fun k c2 hk=> ?_,.inl h9⟩,k2,bF.mono hmono x u k3⟩
     cases h:look L' k with
     |none=>rfl
     |some ob=>
      obtain⟨hne,ob2,h2,_⟩:=hl k ob h;exact absurd (s1.inj k s ob2 _ b c2 c' h2 hs hk (by rw[hρ,h1])) hne
 refine⟨⟨ρ,⟨?_,?_⟩,s2,?_⟩,s4,s5,?_,s7⟩
 ·intro k ob' hk;obtain⟨hne,ob,h2,h3,h4,h5⟩:=hl k ob' hk;obtain⟨q,c,hρ,hcase⟩:=s1.ob k ob h2;refine⟨q,c,hρ,?_⟩;have hlen:=xK h5;rcases hcase with⟨g1,g2,g3,g4⟩|⟨b,arr,g1,g2,g3⟩
  ·exact .inl ⟨g1,by rw[h4];exact g2,by rw[g3]at hlen;exact List.length_eq_zero_iff.1 hlen,g4⟩
  ·refine .inr ⟨b,arr,g1,g2,⟨by rw[h3];exact g3.blk,fun h=>by rw[hlen];exact g3.box (by rw[<-h4];exact h),fun h=>by rw[hlen,h4];exact g3.row (by rw[<-h4];exact h),fun i x hi=> ?_⟩⟩
   obtain⟨y,k1,k2⟩:=Mf h5 i x hi;obtain⟨v,m1,m2,m3⟩:=g3.cells i y k1;exact⟨v,m1,m2,hone x y v k2 m3⟩
 ·intro k k' o o' b c c' h1 h2 h3 h4;obtain⟨_,ob,g1,_⟩:=hl k o h1;obtain⟨_,ob',g2,_⟩:=hl k' o' h2;exact s1.inj k k' ob ob' b c c' g1 g2 h3 h4
 ·intro t;rcases Nat.lt_or_ge t F'.length with h|h
  ·obtain⟨y,k1,k2⟩:=Mf hF t F'[t] (List.getElem?_eq_getElem h);have e1:F'.getD t .any=F'[t] :=by rw[List.getD_eq_getElem?_getD,List.getElem?_eq_getElem h];rfl
   have e2:F.getD t .any=y:=by rw[List.getD_eq_getElem?_getD,k1];rfl
   have h3:=s3 t;rw[e2]at h3;rw[e1];exact hone _ _ _ k2 h3
  ·rw[List.getD_eq_getElem?_getD,List.getElem?_eq_none h];show aO _ _ .any _;unfold aO;trivial
 ·rw[s6,xK hF]
end Go.Proofs.YtdaeofhdgabhjaaGreat
namespace Go.Proofs.YtdaeofhdgabhjaaGreat
open Go.RowKit
def sq:Geo.Shape:=⟨[⟨2,2⟩,⟨0,2⟩,⟨0,0⟩,⟨2,0⟩],[]⟩
def sqD:List Geo.S:=[⟨⟨0,0⟩,⟨2,2⟩⟩]
def sqT:List Geo.aC:=[[⟨0,0⟩,⟨2,0⟩,⟨2,2⟩],[⟨0,0⟩,⟨2,2⟩,⟨0,2⟩]]
theorem Tb:Fit sq:=by unfold Fit;decide
theorem aKK:eOf sq=0:=by kernel_rfl
theorem aHO:dOf sq=sqD:=by kernel_rfl
theorem aHN:tOf sq=sqT:=by kernel_rfl
theorem aMc:nD sq sqT=true:=by kernel_rfl
theorem aBM(l:List Geo.aC):(SV.lst .R l).av= .p (jT l):=by show AV.p (.sl _ (LT.R.enc _))=_;rw[Bm];rfl
theorem aMK:Sat Tryz.prog false 19 [gK sq] (.tup [Ie sqD,.int .i64 0]):=
 uA (k19 [aSh.enc sq] sq rfl ((fB (l:=c19.pre sq)).1 Tb)) (by simp only[avs,Bn];rfl) (by show(SV.tup [.lst .S (dOf sq),.int .i64 (eOf sq)]).av=_;rw[aHO,aKK];rfl)
theorem aMJ:Sat Tryz.prog false 21 [gK sq] (.tup [jT sqT,.int .i64 0]):=
 uA (k21 [aSh.enc sq] sq rfl ((fB (l:=c21.pre sq)).1 Tb)) (by simp only[avs,Bn];rfl) (by show(SV.tup [.lst .R (tOf sq),.int .i64 (eOf sq)]).av=_;rw[aHN,aKK];simp only[SV.av,avs];rfl)
theorem aML:Sat Tryz.prog false 28 [gK sq,jT sqT] (.bool true):=
 uA (k28 [aSh.enc sq,.lst .R sqT] (sq,sqT) rfl ((fB (l:=c28.pre (sq,sqT))).1 ⟨Tb,show sqT.length<=1000 by decide,show∀r∈sqT,r.length<=1000 by decide⟩)) (by simp only[avs,Bn,aBM];rfl) (by show(SV.bool (nD sq sqT)).av=_;rw[aMc];rfl)
theorem aMb:Sat Tryz.prog false 24 [Ie sqD,Ie sqD] (.bool true):=
 uA (k24 [.lst .S sqD,.lst .S sqD] (sqD,sqD) rfl ((fB (l:=c24.pre (sqD,sqD))).1 (show sqD.length<=1000000 by decide))) rfl (by show(SV.bool (sqD==sqD)).av=_;rw[beq_self_eq_true];rfl)
theorem aMa:Sat Tryz.prog false 25 [jT sqT,jT sqT] (.bool true):=
 uA (k25 [.lst .R sqT,.lst .R sqT] (sqT,sqT) rfl ((fB (l:=c25.pre (sqT,sqT))).1 ⟨show sqT.length<=1000000 by decide,show∀r∈sqT,r.length<=100000 by decide⟩)) (by simp only[avs,aBM];rfl) (by show(SV.bool (sqT==sqT)).av=_;rw[beq_self_eq_true];rfl)
set_option maxRecDepth 100000 in
set_option maxHeartbeats 4000000 in
theorem aAb:Sat Tryz.prog false 15 [] (.bool true):=by
 refine xC (by kernel_rfl) Tryz.func15 rfl ?_
 rw[Tryz.ntmps15,Tryz.results15];show awp _ _ (Sk _ _ _) (un 53 []) [] 0;simp only[un];refine pl 1 (by kernel_rfl) rfl fun K0 hK0=> ?_
 refine op (by simp only[go_sem,simprocAttr];and_intros<;>first|rfl|trivial) (by simp only[PS];rfl) ?_
 refine dK (hK0 _ _ _ ?_);refine zS (fun Fz Lz Nz=>Fz=(.p (.bool false):: .ptr 7 0:: .undef:: .undef:: .undef:: .undef:: .p (.agg [.int .i64 2,.int .i64 2]):: .p (.agg [.int .i64 0,.int .i64 2]):: .p (.agg [.int .i64 0,.int .i64 0]):: .p (.agg [.int .i64 2,.int .i64 0]):: .p (.sl [(⟨2,2⟩:Geo.V),(⟨0,2⟩:Geo.V),(⟨0,0⟩:Geo.V),(⟨2,0⟩:Geo.V)].length (iV [(⟨2,2⟩:Geo.V),(⟨0,2⟩:Geo.V),(⟨0,0⟩:Geo.V),(⟨2,0⟩:Geo.V)])):: .any:: .undef:: .undef:: .undef:: .undef:: .undef:: .undef:: .undef:: .undef:: .undef:: .undef:: .undef:: .undef:: .undef:: .undef:: .undef:: .undef:: .undef:: .undef:: .undef:: .undef:: .undef:: .undef:: .undef:: .undef:: .undef:: .undef:: .undef:: .undef:: .undef:: .undef:: .undef:: .undef:: .undef:: .undef:: .undef:: .undef:: .undef:: .undef:: .undef:: .undef:: .undef::[])/\Lz=[(7,some ⟨26,0,[.p (.sl [(⟨2,2⟩:Geo.V),(⟨0,2⟩:Geo.V),(⟨0,0⟩:Geo.V),(⟨2,0⟩:Geo.V)].length (iV [(⟨2,2⟩:Geo.V),(⟨0,2⟩:Geo.V),(⟨0,0⟩:Geo.V),(⟨2,0⟩:Geo.V)])),.nil]⟩)]/\Nz=9) ?_ ?_
 {
 refine ple 9 (by kernel_rfl) rfl fun K1 hK1=> ?_
 iterate 4 refine op (by simp only[go_sem,simprocAttr,PS];and_intros<;>first|rfl|trivial) (by simp only[PS];rfl) ?_
 refine st 5 5 rfl rfl rfl (by simp only[AOp,eG,GD,sL,xQ,nR,gL,kR,LC,kW,jX,Nat.reduceMul,Nat.reduceLeDiff,List.cons_ne_nil,↓reduceIte,Nat.reduceAdd,LA,LB,T23,T44];and_intros<;>first|rfl|trivial) (by simp only[PS];rfl) (by simp only[GS];rfl) ?_
 refine op (by simp only[go_sem,simprocAttr,PS];and_intros<;>first|rfl|trivial) (by simp only[PS];rfl) ?_
 refine st 7 7 rfl rfl rfl (by simp only[AOp,Ll,LA,T26];and_intros<;>first|rfl|trivial) (by simp only[PS];rfl) (by simp only[GS];rfl) ?_
 refine st 8 8 rfl rfl rfl (by simp only[AOp,eG,GD,wR,gL,kR,LC,LB,look,LA,↓reduceIte,Nat.reduceAdd,T26];and_intros<;>first|rfl|trivial) (by simp only[PS];rfl) (by simp only[GS];rfl) ?_
 refine dK (hK1 _ _ _ ?_);try simp only
 refine⟨_,_,_,?w1,⟨rfl,rfl,rfl⟩⟩;refine Qz (ty:=44) (esz:=2) 5 (iV [(⟨2,2⟩:Geo.V),(⟨0,2⟩:Geo.V),(⟨0,0⟩:Geo.V),(⟨2,0⟩:Geo.V)]) (by simp only[look,Nat.reduceEqDiff,↓reduceIte];try rfl) (by decide) ?_ ?_
 ·simp only[frL,frS,reduceCtorEq,RL] <;>(and_intros<;>first|rfl|trivial|decide|exact .inl rfl|exact .inr (.inl rfl)|exact .inr (.inr ⟨_,rfl,rfl⟩)|exact .inr ⟨_,rfl,rfl⟩)
 ·simp only[frL,frO,frS,look,Nat.reduceEqDiff,reduceCtorEq,↓reduceIte,RL] <;>(and_intros<;>first|rfl|trivial|decide|exact .inl rfl|exact .inr (.inl rfl)|exact .inr (.inr ⟨_,rfl,rfl⟩)|exact .inr ⟨_,rfl,rfl⟩)
 }
 rintro _ _ _ ⟨hFz,rfl,rfl⟩
 (try simp only[an]at hFz);subst hFz
 have c2:Sat Tryz.prog _ 19 [.agg [.sl [(⟨2,2⟩:Geo.V),(⟨0,2⟩:Geo.V),(⟨0,0⟩:Geo.V),(⟨2,0⟩:Geo.V)].length (iV [(⟨2,2⟩:Geo.V),(⟨0,2⟩:Geo.V),(⟨0,0⟩:Geo.V),(⟨2,0⟩:Geo.V)]),.sl 0 []]] (.tup [.sl sqD.length (Sn sqD),.int .i64 0]):=aMK;refine pl 16 (by kernel_rfl) rfl fun K2 hK2=> ?_
 refine op (by simp only[go_sem,simprocAttr];and_intros<;>first|rfl|trivial) (by simp only[PS];rfl) ?_
 refine st 10 2 rfl rfl rfl (by simp only[AOp,eG,GD,qL,LB];exact .inl (uU (A:=[.agg [.sl [(⟨2,2⟩:Geo.V),(⟨0,2⟩:Geo.V),(⟨0,0⟩:Geo.V),(⟨2,0⟩:Geo.V)].length (iV [(⟨2,2⟩:Geo.V),(⟨0,2⟩:Geo.V),(⟨0,0⟩:Geo.V),(⟨2,0⟩:Geo.V)]),.sl 0 []]]) c2 (by simp only[mY,iU,Option.map_some];try rfl) (by simp only[dM,iQ,List.append_nil];rfl) ⟨rfl,rfl,rfl⟩)) (by simp only[PS];rfl) (by simp only[LB];rfl) ?_
 iterate 5 refine op (by simp only[go_sem,simprocAttr];and_intros<;>first|rfl|trivial) (by simp only[PS];rfl) ?_
 refine dK (hK2 _ _ _ ?_);have c3:Sat Tryz.prog _ 21 [.agg [.sl [(⟨2,2⟩:Geo.V),(⟨0,2⟩:Geo.V),(⟨0,0⟩:Geo.V),(⟨2,0⟩:Geo.V)].length (iV [(⟨2,2⟩:Geo.V),(⟨0,2⟩:Geo.V),(⟨0,0⟩:Geo.V),(⟨2,0⟩:Geo.V)]),.sl 0 []]] (.tup [.sl sqT.length (List.map fL sqT),.int .i64 0]):=aMJ;refine pl 23 (by kernel_rfl) rfl fun K3 hK3=> ?_
 refine op (by simp only[go_sem,simprocAttr];and_intros<;>first|rfl|trivial) (by simp only[PS];rfl) ?_
 refine st 17 2 rfl rfl rfl (by simp only[AOp,eG,GD,qL,LB];exact .inl (uU (A:=[.agg [.sl [(⟨2,2⟩:Geo.V),(⟨0,2⟩:Geo.V),(⟨0,0⟩:Geo.V),(⟨2,0⟩:Geo.V)].length (iV [(⟨2,2⟩:Geo.V),(⟨0,2⟩:Geo.V),(⟨0,0⟩:Geo.V),(⟨2,0⟩:Geo.V)]),.sl 0 []]]) c3 (by simp only[mY,iU,Option.map_some];try rfl) (by simp only[dM,iQ,List.append_nil];rfl) ⟨rfl,rfl,rfl⟩)) (by simp only[PS];rfl) (by simp only[LB];rfl) ?_
 iterate 5 refine op (by simp only[go_sem,simprocAttr];and_intros<;>first|rfl|trivial) (by simp only[PS];rfl) ?_
 refine dK (hK3 _ _ _ ?_);have v4:((0:Int)==0)=true:=by decide
 have c6:Sat Tryz.prog _ 24 [.sl sqD.length (Sn sqD),.sl 1 [.int .i64 0,.int .i64 0,.int .i64 2,.int .i64 2]] (.bool true):=aMb;have c7:Sat Tryz.prog _ 25 [.sl sqT.length (List.map fL sqT),.sl 2 [.sl 3 [.int .i64 0,.int .i64 0,.int .i64 2,.int .i64 0,.int .i64 2,.int .i64 2],.sl 3 [.int .i64 0,.int .i64 0,.int .i64 2,.int .i64 2,.int .i64 0,.int .i64 2]]] (.bool true):=aMa;have c8:Sat Tryz.prog _ 28 [.agg [.sl [(⟨2,2⟩:Geo.V),(⟨0,2⟩:Geo.V),(⟨0,0⟩:Geo.V),(⟨2,0⟩:Geo.V)].length (iV [(⟨2,2⟩:Geo.V),(⟨0,2⟩:Geo.V),(⟨0,0⟩:Geo.V),(⟨2,0⟩:Geo.V)]),.sl 0 []],.sl sqT.length (List.map fL sqT)] (.bool true):=aML;refine pl 55 (by kernel_rfl) rfl fun K4 hK4=> ?_
 iterate 10 refine op (by simp only[go_sem,simprocAttr,PS,v4,GG];and_intros<;>first|rfl|trivial) (by simp only[PS];rfl) ?_
 refine stg 33 11 rfl (by simp only[gdA,GG] <;>rfl) rfl rfl (by simp only[AOp,eG,GD,sL,xQ,nR,gL,kR,LC,kW,jX,Nat.reduceLeDiff,List.cons_ne_nil,↓reduceIte,Nat.reduceAdd,LA,LB,T32,T46];and_intros<;>first|rfl|trivial) (by simp only[PS];rfl) (by simp only[GS];rfl) ?_
 refine spg 12 rfl (by simp only[gdA,GG] <;>rfl) rfl (by simp only[AOp,eG,GD,qL,LB];exact .inl (mV (A:=[.sl sqD.length (Sn sqD),.sl 1 [.int .i64 0,.int .i64 0,.int .i64 2,.int .i64 2]]) (c6.fresh rfl) (by simp only[mY,iU,look,Option.bind_some,Option.map_some,List.drop_zero,List.take_succ_cons,List.take_zero,Nat.reduceMul,↓reduceIte];try rfl) (by simp only[dM,iQ,look,List.append_nil,List.nil_append,↓reduceIte];rfl) ⟨rfl,rfl,rfl⟩)) (by simp only[PS];rfl) ?_
 iterate 6 refine op (by simp only[go_sem,simprocAttr,PS,GG];and_intros<;>first|rfl|trivial) (by simp only[PS];rfl) ?_
 refine stg 41 19 rfl (by simp only[gdA,GG] <;>rfl) rfl rfl (by simp only[AOp,eG,GD,sL,xQ,nR,gL,kR,LC,kW,jX,Nat.reduceMul,Nat.reduceLeDiff,List.cons_ne_nil,↓reduceIte,Nat.reduceAdd,LA,LB,T23,T44];and_intros<;>first|rfl|trivial) (by simp only[PS];rfl) (by simp only[GS];rfl) ?_
 iterate 3 refine op (by simp only[go_sem,simprocAttr,GG,PS];and_intros<;>first|rfl|trivial) (by simp only[PS];rfl) ?_
 refine stg 45 23 rfl (by simp only[gdA,GG] <;>rfl) rfl rfl (by simp only[AOp,eG,GD,sL,xQ,nR,gL,kR,LC,kW,jX,Nat.reduceMul,Nat.reduceLeDiff,List.cons_ne_nil,↓reduceIte,Nat.reduceAdd,LA,LB,T23,T44];and_intros<;>first|rfl|trivial) (by simp only[PS];rfl) (by simp only[GS];rfl) ?_
 refine stg 46 24 rfl (by simp only[gdA,GG] <;>rfl) rfl rfl (by simp only[AOp,eG,GD,sL,xQ,nR,gL,kR,LC,kW,jX,Nat.reduceLeDiff,List.cons_ne_nil,↓reduceIte,Nat.reduceAdd,LA,LB,T23,T24];and_intros<;>first|rfl|trivial) (by simp only[PS];rfl) (by simp only[GS];rfl) ?_
 refine spg 25 rfl (by simp only[gdA,GG] <;>rfl) rfl (by simp only[AOp,eG,GD,qL,LB];exact .inl (mV (A:=[.sl sqT.length (List.map fL sqT),.sl 2 [.sl 3 [.int .i64 0,.int .i64 0,.int .i64 2,.int .i64 0,.int .i64 2,.int .i64 2],.sl 3 [.int .i64 0,.int .i64 0,.int .i64 2,.int .i64 2,.int .i64 0,.int .i64 2]]]) (c7.fresh rfl) (by simp only[mY,iU,look,Nat.reduceEqDiff,Option.bind_some,Option.map_some,List.drop_zero,List.take_succ_cons,List.take_zero,Nat.reduceMul,↓reduceIte];try rfl) (by simp only[dM,iQ,look,Nat.reduceEqDiff,List.append_nil,List.cons_append,List.nil_append,↓reduceIte];rfl) ⟨rfl,rfl,rfl⟩)) (by simp only[PS];rfl) ?_
 iterate 4 refine op (by simp only[go_sem,simprocAttr,GG];and_intros<;>first|rfl|trivial) (by simp only[PS];rfl) ?_
 refine spg 30 rfl (by simp only[gdA,GG] <;>rfl) rfl (by simp only[AOp,eG,GD,qL,LB];exact .inl (mV (A:=[.agg [.sl [(⟨2,2⟩:Geo.V),(⟨0,2⟩:Geo.V),(⟨0,0⟩:Geo.V),(⟨2,0⟩:Geo.V)].length (iV [(⟨2,2⟩:Geo.V),(⟨0,2⟩:Geo.V),(⟨0,0⟩:Geo.V),(⟨2,0⟩:Geo.V)]),.sl 0 []],.sl sqT.length (List.map fL sqT)]) (c8.fresh rfl) (by simp only[mY,iU,Option.map_some];try rfl) (by simp only[dM,iQ,List.append_nil];rfl) ⟨rfl,rfl,rfl⟩)) (by simp only[PS];rfl) ?_
 iterate 2 refine op (by simp only[go_sem,simprocAttr];and_intros<;>first|rfl|trivial) (by simp only[PS];rfl) ?_
 refine dK (hK4 _ _ _ ?_);refine Yi ?_;try simp only[IF,reduceCtorEq,Nat.reduceEqDiff]
 try rw[hret]
 simp only[Sk,wF,GD];first|exact⟨_,rfl,rfl⟩|(refine⟨_,rfl,?_⟩;rfl)
noncomputable def c15:Con:=Yq false a0 (fun _=>[]) (fun _=> .bool true)
theorem k15:c15.Ok Tryz.prog 15:=yR (fun _=>[]) (fun _=> .bool true) (fun _=>rfl) (fun _=>rfl) fun _ _=>aAb
noncomputable def t15:Tab:=cK [(15,c15)] t28
theorem aJ7:t15.Ok Tryz.prog:=aH aMG ⟨k15,trivial⟩
end Go.Proofs.YtdaeofhdgabhjaaGreat
namespace Go.Proofs.YtdaeofhdgabhjaaGreat
open Go.RowKit
def VOk(v:Geo.V):Prop:=aE v.x/\aE v.y
def aDG(v:Geo.V):PV:= .agg [.int .i64 v.x,.int .i64 v.y]
end Go.Proofs.YtdaeofhdgabhjaaGreat
namespace Go.Proofs.YtdaeofhdgabhjaaGreat
open Go.ChangeShapes Go.WideShapes Go.ChangeAt Go.RowKit Go.Joins Go.Deep
theorem Tryz.own:ownKnob Tryz.prog.godebug=none:=by kernel_rfl
theorem Tryz.laidOut:laidOutB Tryz.prog=true:=by kernel_rfl
theorem aEW:Tryz.prog.cellsOf 26=2:=by kernel_rfl
theorem Yh:Tryz.prog.cellsOf 44=2:=by kernel_rfl
theorem aEX:Tryz.prog.cellsOf 23=1:=by kernel_rfl
theorem aEY:Tryz.prog.bytesOf 44=16:=by kernel_rfl
theorem aEZ:Tryz.prog.bytesOf 23=24:=by kernel_rfl
theorem Jc{C:cE}:∀(l:List Geo.V) (b o:Nat),(∀i (h:i<l.length),C b (o+i*2) (.int .i64 l[i].x)/\C b (o+i*2+1) (.int .i64 l[i].y))->eW C (iV l) b o
 |[],b,o,_=>by show eW C [] b o;unfold eW;trivial
 |v::l,b,o,h=>by
  show eW C (.int .i64 v.x:: .int .i64 v.y::iV l) b o;have h0:=h 0 (by simp)
  unfold eW;refine⟨⟨_,by simpa using h0.1,rfl,by unfold bF;rfl⟩,?_⟩
  unfold eW;refine⟨⟨_,by simpa using h0.2,rfl,by unfold bF;rfl⟩,?_⟩
  refine Jc l b (o+1+1) fun i hi=> ?_
  have:=h (i+1) (by simpa using hi)
  rw[show o+1+1+i*2=o+(i+1)*2 by omega]
  exact this
theorem Gd{C:cE}:∀(l:List Geo.aC) (b o:Nat),(∀i (h:i<l.length),∃u,C b (o+i) u/\u.oneCell'=true/\bF C (fL l[i]) u)->eW C (l.map fL) b o
 |[],b,o,_=>by simp only[List.map_nil];unfold eW;trivial
 |r::l,b,o,h=>by
  simp only[List.map_cons];unfold eW;refine⟨h 0 (by simp),Gd l b (o+1) fun i hi=> ?_⟩
  have:=h (i+1) (by simpa using hi)
  rw[show o+1+i=o+(i+1) by omega]
  exact this
section
variable {H:Type} {enc:TypeId×Value->H} {w:World} {base:Nat} {spare:Nat->Bool} {held:Bool}
theorem Jj{fuel:Nat}{v:Value}{y:DataW H×List MemPlace}(h:DataW.trod enc Tryz.prog w base spare held fuel 23 [v] =some y):
  ∃r:Geo.aC,bF (tE w) (fL r) v/\v.oneCell'=true/\∀B,(∀n∈DataW.weights Tryz.prog 23 y.1,n<=B)->r.length*16<=B:=by
 rcases open_slice_pairs Tryz.underlying23 Tryz.underlying44 Yh rfl rfl (by kernel_rfl) (by kernel_rfl) h with⟨h1,h2⟩|⟨a,len,cap,m,n,V0,V1,D0,D1,P0,P1,h1,_,hl,_,hm,hx,hc⟩
 ·simp only[List.cons.injEq,and_true]at h1;subst h1;refine⟨[],?_,rfl,fun B _=>by simp⟩
  unfold fL bF;exact⟨none,0,rfl,Nat.le_refl _,fun _=>⟨rfl,rfl⟩,fun ad e=>by cases e⟩
 ·simp only[List.cons.injEq,and_true]at h1;subst h1;have hlm:len<=m:=by rw[hm];split<;>omega
  have hint:∀i,i<m->∃p:Int×Int,V0 i= .int .i64 p.1/\V1 i= .int .i64 p.2:=by
   intro i hi;obtain⟨_,_,g3,g4⟩:=hc i hi;obtain⟨p,hp,_⟩:=DataW.trod_int Tryz.underlying3 g3;obtain⟨q,hq,_⟩:=DataW.trod_int Tryz.underlying3 g4;simp only[List.cons.injEq,and_true]at hp hq;exact⟨(p,q),hp,hq⟩
  obtain⟨f,hf⟩:=choose_lt (α:=Int×Int) (p:=fun i p=>V0 i= .int .i64 p.1/\V1 i= .int .i64 p.2) hint
  refine⟨(List.range len).map fun i=>⟨(f i).1,(f i).2⟩,?_,rfl,fun B hB=> ?_⟩
  ·unfold fL bF;refine⟨some a,cap,by simp,by simpa using hl,(fun e=>by cases e),fun ad e=> ?_⟩
   cases e;refine⟨fun hpos=> ?_,Jc _ _ _ fun i hi=> ?_⟩
   ·have h0:=(hc 0 (by simp at hpos;omega)).1
    simpa[Addr.add]using World.cell?_spot h0
   ·simp only[List.length_map,List.length_range]at hi;obtain⟨g1,g2,_⟩:=hc i (by omega)
    obtain⟨e0,e1⟩:=hf i (by omega)
    have hs:a.spot=none:=by simpa[Addr.add]using World.cell?_spot (hc 0 (by omega)).1
    obtain⟨b,off,sp⟩:=a;dsimp only at hs;subst hs;rw[e0]at g1;rw[e1]at g2;simp only[List.getElem_map,List.getElem_range];unfold tE;rw[Addr.add_mid]at g1 g2;exact⟨g1,g2⟩
  ·have:=hB ((len+(m-len))*16) (by rw[hx];simp[DataW.weights,Tryz.underlying23,aEY])
   simp only[List.length_map,List.length_range];omega
theorem Ul{fuel:Nat}{v:Value}{y:DataW H×List MemPlace}(h:DataW.trod enc Tryz.prog w base spare held fuel 24 [v] =some y):
  ∃l:List Geo.aC,bF (tE w) (jT l) v/\v.oneCell'=true/\∀B,(∀n∈DataW.weights Tryz.prog 24 y.1,n<=B)->l.length*24<=B/\∀r∈l,r.length*16<=B:=by
 rcases open_slice1 Tryz.underlying24 aEX h with⟨h1,h2⟩|⟨a,len,cap,m,n,V,D,Pl,h1,_,hl,_,hm,hx,hc⟩
 ·simp only[List.cons.injEq,and_true]at h1;subst h1;refine⟨[],?_,rfl,fun B _=>⟨by simp,fun r hr=>by cases hr⟩⟩
  unfold jT bF;exact⟨none,0,rfl,Nat.le_refl _,fun _=>⟨rfl,rfl⟩,fun ad e=>by cases e⟩
 ·simp only[List.cons.injEq,and_true]at h1;subst h1;have hlm:len<=m:=by rw[hm];split<;>omega
  have hring:∀i,i<m->∃r:Geo.aC,bF (tE w) (fL r) (V i)/\(V i).oneCell'=true/\∀B,(∀n∈DataW.weights Tryz.prog 23 (D i),n<=B)->r.length*16<=B:=fun i hi=>Jj (hc i hi).2
  obtain⟨f,hf⟩:=choose_lt (α:=Geo.aC) (p:=fun i r=>bF (tE w) (fL r) (V i)/\(V i).oneCell'=true/\∀B,(∀n∈DataW.weights Tryz.prog 23 (D i),n<=B)->r.length*16<=B) hring
  refine⟨(List.range len).map f,?_,rfl,fun B hB=> ?_⟩
  ·unfold jT bF;refine⟨some a,cap,by simp,by simpa using hl,(fun e=>by cases e),fun ad e=> ?_⟩
   cases e;refine⟨fun hpos=> ?_,Gd _ _ _ fun i hi=> ?_⟩
   ·have h0:=(hc 0 (by simp at hpos;omega)).1
    simpa[Addr.add]using World.cell?_spot h0
   ·simp only[List.length_map,List.length_range]at hi;have g1:=(hc i (by omega)).1
    have hs:a.spot=none:=by simpa[Addr.add]using World.cell?_spot (hc 0 (by omega)).1
    obtain⟨b,off,sp⟩:=a;dsimp only at hs;subst hs;rw[Addr.add_mid]at g1;simp only[List.getElem_map,List.getElem_range];exact⟨V i,g1,(hf i (by omega)).2.1,(hf i (by omega)).1⟩
  ·have hw:∀x,x∈DataW.weights Tryz.prog 24 (DataW.slice ((List.range len).map D) ((List.range (m-len)).map fun j=>D (len+j)))->x<=B:=by rw[hx]at hB;exact hB
   have hmem:∀{l:List (DataW H)} {d:DataW H} {x:Nat},d∈l->x∈DataW.weights Tryz.prog 23 d->x∈DataW.weightsAll Tryz.prog 23 l:=by
    intro l;induction l with
    |nil=>intro d x h;cases h
    |cons e l ih=>
     intro d x hd hx;simp only[DataW.weightsAll,List.mem_append];rcases List.mem_cons.1 hd with rfl|hd
     ·exact .inl hx
     ·exact .inr (ih hd hx)
   refine⟨?_,fun r hr=> ?_⟩
   ·have:=hw ((len+(m-len))*24) (by simp[DataW.weights,Tryz.underlying24,aEZ])
    simp only[List.length_map,List.length_range];omega
   ·obtain⟨i,hi,rfl⟩:=List.mem_map.1 hr;have hi:=List.mem_range.1 hi;refine(hf i (by omega)).2.2 B fun x hx2=>hw x ?_
    simp only[DataW.weights,Tryz.underlying24,List.mem_cons,List.mem_append];exact .inr (.inl (hmem (List.mem_map.2 ⟨i,List.mem_range.2 hi,rfl⟩) hx2))
set_option maxRecDepth 100000 in
theorem Uk{r:Reach}{b0:Nat}{v:Value}{d:DataW H}{p:List MemPlace}(hv:Value.okWide Tryz.prog w r b0 26 v)(h:DataW.Trod enc Tryz.prog w base spare held 26 v d p)(hw:∀n∈DataW.weights Tryz.prog 26 d,n<=reachBytes):
  ∃s:Geo.Shape,bF (tE w) (gK s) v/\tG s:=by
 obtain⟨v0,v1,y0,y1,n,rfl,rfl,_,h0,h1⟩:=open_agg2 Tryz.underlying26 (by kernel_rfl) aEW hv h
 obtain⟨ro,g1,g2,g3⟩:=Jj h0;obtain⟨rs,g4,g5,g6⟩:=Ul h1;have hB:reachBytes<=140737488351232:=of_decide_eq_true (by kernel_rfl)
 have k1:=g3 reachBytes fun x hx=>hw x (by simp only[DataW.weights,Tryz.underlying26,List.map_cons,DataW.weightsEach,List.mem_append];exact .inl hx)
 have k2:=g6 reachBytes fun x hx=>hw x (by simp only[DataW.weights,Tryz.underlying26,List.map_cons,DataW.weightsEach,List.mem_append];exact .inr (.inl hx))
 refine⟨⟨ro,rs⟩,?_,by show ro.length<=_;omega,by show rs.length<=_;omega,fun q hq=>by have:=k2.2 q hq;omega⟩
 unfold gK bF;refine⟨[v0,v1],rfl,?_,?_⟩
 ·unfold cG;refine⟨v0,[v1],rfl,g1,?_⟩;unfold cG;exact⟨v1,[],rfl,g4,by unfold cG;rfl⟩
 ·intro u hu;simp only[List.mem_cons,List.not_mem_nil,or_false]at hu;rcases hu with rfl|rfl
  ·exact g2
  ·exact g5
theorem Jw{n:Int}(h:(Lit.int .i64 n).wf=true):aE n:=by
 simp[Lit.wf,IntKind.min,IntKind.max,IntKind.signed,IntKind.bits]at h;unfold aE;omega
set_option maxRecDepth 100000 in
theorem aCs{r:Reach}{b0:Nat}{v:Value}{d:DataW H}{p:List MemPlace}(hv:Value.okWide Tryz.prog w r b0 44 v)(h:DataW.Trod enc Tryz.prog w base spare held 44 v d p):
  ∃a:Geo.V,bF (tE w) (aDG a) v/\VOk a:=by
 obtain⟨v0,v1,y0,y1,n,rfl,_,_,h0,h1⟩:=open_agg2 Tryz.underlying44 (by kernel_rfl) Yh hv h
 obtain⟨a,ha,_,wa⟩:=DataW.trod_int Tryz.underlying3 h0;obtain⟨b,hb,_,wb⟩:=DataW.trod_int Tryz.underlying3 h1;simp only[List.cons.injEq,and_true]at ha hb;subst ha hb;refine⟨⟨a,b⟩,?_,Jw wa,Jw wb⟩;unfold aDG bF;refine⟨[.int .i64 a,.int .i64 b],rfl,?_,?_⟩
 ·unfold cG;refine⟨.int .i64 a,[.int .i64 b],rfl,by unfold bF;rfl,?_⟩
  unfold cG;exact⟨.int .i64 b,[],rfl,by unfold bF;rfl,by unfold cG;rfl⟩
 ·intro u hu;simp only[List.mem_cons,List.not_mem_nil,or_false]at hu;rcases hu with rfl|rfl<;>rfl
end
section
variable {H:Type} {enc:TypeId×Value->H} {w:World} {base:Nat} {spare:Nat->Bool} {held:Bool}
end
theorem aIl(v:Geo.V):(aV.enc v).av= .p (aDG v):=rfl
end Go.Proofs.YtdaeofhdgabhjaaGreat
namespace Go.Proofs.YtdaeofhdgabhjaaGreat
open Go.RowKit
noncomputable def c30:Con:=con (a1 aSh) (fun s=>[tG s]) (fun s=> .bool (qD s&&Geo.bD s))
set_option maxRecDepth 100000 in
theorem k30:c30.Ok Tryz.prog 30:=aR (bO aJ7) (raw:=bT) (fun _=>[]
  ) (fun _=>⟨_,rfl⟩) fun s hp=>bP (q:=tG s/\(qD s=true->Fit s/\Geo.bD s=(qD s&&Geo.bD s))/\
 (qD s=false->false=(qD s&&Geo.bD s))) (by kernel_rfl) (by
  change tG s at hp;exact⟨hp,fun h=>⟨Qj hp h,by rw[h];rfl⟩,fun h=>by rw[h];rfl⟩)
noncomputable def t30:Tab:=cK [(30,c30)] t15
theorem aJs:t30.Ok Tryz.prog:=aH aJ7 ⟨k30,trivial⟩
end Go.Proofs.YtdaeofhdgabhjaaGreat
namespace Go.Proofs.YtdaeofhdgabhjaaGreat
open Go.RowKit
theorem aD8(s:Geo.Shape):(tOf s).length<=1000000:=by
 unfold tOf;split
 ·unfold aA6;have h1:=qT s (vOf s) (tT s) (vOf s).length;have hv:=Kt s;have h4:(vOf s).length*(vOf s).length<=80*80:=Nat.mul_le_mul hv hv;have h5:(vOf s).length*((vOf s).length*(vOf s).length)<=80*(80*80):=Nat.mul_le_mul hv h4;have h2:=(Geo.lV (kC s (vOf s) (tT s) (vOf s).length)).length_eq;first|omega|(show(Geo.xV (kC s (vOf s) (tT s) (vOf s).length)).length<=1000000;omega)
 ·exact Nat.zero_le _
end Go.Proofs.YtdaeofhdgabhjaaGreat
namespace Go.Proofs.YtdaeofhdgabhjaaGreat.Geo
def rot(r:aC)(k:Nat):aC:=r.drop k++r.take k
theorem rN(r:aC)(k:Nat):(rot r k).Perm r:=by
 unfold rot;refine List.perm_append_comm.trans ?_;rw[List.take_append_drop]
theorem fN(r:aC)(k:Nat):(rot r k).length=r.length:=(rN r k).length_eq
theorem vH{r:aC}{k i:Nat}(hk:k<=r.length)(hi:i<r.length):nth (rot r k) i=nth r ((i+k) % r.length):=by
 unfold rot nth;rw[List.getD_eq_getElem?_getD,List.getD_eq_getElem?_getD]
 congr 1
 by_cases h:i<r.length-k
 ·rw[List.getElem?_append_left (by simp;omega),List.getElem?_drop,eD (by omega)]
  congr 1;omega
 ·rw[List.getElem?_append_right (by simp;omega),List.length_drop,List.getElem?_take,if_pos (by omega),kJ (by omega) (by omega)]
  congr 1;omega
theorem zC(i k n:Nat)(_:0<n):((i+1) % n+k) % n=((i+k) % n+1) % n:=by
 rw[Nat.mod_add_mod,Nat.mod_add_mod];congr 1;omega
theorem Fa{r:aC}{k i:Nat}(hk:k<=r.length)(hi:i<r.length):cO (rot r k) i=cO r ((i+k) % r.length):=by
 unfold cO nxt;rw[fN,vH hk hi,vH hk (Nat.mod_lt _ (by omega)),zC _ _ _ (by omega)]
theorem aAy(r:aC){k:Nat}(hk:k<=r.length):edges (rot r k)=(edges r).drop k++(edges r).take k:=by
 unfold edges;rw[fN];split
 ·simp
 ·apply List.ext_getElem
  ·simp;omega
  ·intro i h1 h2;simp only[List.length_map,List.length_range]at h1;rw[List.getElem_map,List.getElem_range,Fa hk h1];by_cases h:i<r.length-k
   ·rw[List.getElem_append_left (by simp;omega),List.getElem_drop,List.getElem_map,List.getElem_range,eD (by omega)]
    congr 1;omega
   ·rw[List.getElem_append_right (by simp;omega),List.getElem_take,List.getElem_map,List.getElem_range,kJ (by omega) (by omega)]
    congr 1;simp;omega
theorem gS(r:aC){k:Nat}(hk:k<=r.length):(edges (rot r k)).Perm (edges r):=by
 rw[aAy r hk];refine List.perm_append_comm.trans ?_;rw[List.take_append_drop]
theorem pY{r:aC}(h:2<=r.length):area r=((edges r).map fun e=>cross e.a e.b).sum:=by
 unfold area edges;rw[if_neg (by omega),List.map_map]
 rfl
theorem Ao{l m:List Int}(h:l.Perm m):l.sum=m.sum:=by
 induction h with
 |nil=>rfl
 |cons x _ ih=>simp only[List.sum_cons,ih]
 |swap x y l=>simp only[List.sum_cons];omega
 |trans _ _ ih1 ih2=>rw[ih1,ih2]
theorem aC4{r:aC}(h:2<=r.length){k:Nat}(hk:k<=r.length):area (rot r k)=area r:=by
 rw[pY h,pY (by rw[fN];exact h)]
 exact Ao ((gS r hk).map _)
theorem aAf{r q:aC}(h:q.Perm r):near q=near r:=by
 unfold near;rw[Bool.eq_iff_iff,List.all_eq_true,List.all_eq_true];exact⟨fun g v hv=>g v (h.mem_iff.2 hv),fun g v hv=>g v (h.mem_iff.1 hv)⟩
theorem aEw(i k n:Nat)(_:0<n):((i+2) % n+k) % n=((i+k) % n+2) % n:=by
 rw[Nat.mod_add_mod,Nat.mod_add_mod];congr 1;omega
theorem VR.rot{r:aC}(h:VR r){k:Nat}(hk:k<=r.length):VR (rot r k):=by
 have h3:=h.three;have ht:∀i,i<(Geo.rot r k).length->Geo.turn (nth (Geo.rot r k) i) (nth (Geo.rot r k) ((i+1) % (Geo.rot r k).length)) (nth (Geo.rot r k) ((i+2) % (Geo.rot r k).length))≠0:=by
  intro i hi;rw[fN]at hi|-;rw[vH hk hi,vH hk (Nat.mod_lt _ (by omega)),vH hk (Nat.mod_lt _ (by omega)),zC _ _ _ (by omega),aEw _ _ _ (by omega)]
  exact h.turn' _ (Nat.mod_lt _ (by omega))
 have ha:∀a b,a<r.length->b<r.length->a≠b->b≠(a+1) % r.length->a≠(b+1) % r.length->cN (cO r a) (cO r b)=0:=by
  intro a b h1 h2 h4 h5 h6;have key:∀a b,a<b->b<r.length->b≠(a+1) % r.length->a≠(b+1) % r.length->cN (cO r a) (cO r b)=0:=by
   intro a b h1 h2 h5 h6;refine h.apart a b h1 h2 ?_ ?_
   ·rintro rfl;exact h5 (eD h2).symm
   ·rintro⟨rfl,rfl⟩;exact h6 (by rw[show r.length-1+1=r.length by omega,Nat.mod_self])
  rcases Nat.lt_or_ge a b with h7|h7
  ·exact key a b h7 h2 h5 h6
  ·rw[hU];exact key b a (by omega) h1 h6 h5
 have e1:∀i,i<r.length->(i+1) % r.length=if i+1=r.length then 0 else i+1:=by
  intro i hi;split
  ·rename_i e;rw[e,Nat.mod_self]
  ·exact eD (by omega)
 have hap:∀i j,i<j->j<(Geo.rot r k).length->j≠i+1->¬(i=0/\j=(Geo.rot r k).length-1)->cN (cO (Geo.rot r k) i) (cO (Geo.rot r k) j)=0:=by
  intro i j hij hj h4 h5;rw[fN]at hj h5;rw[Fa hk (by omega),Fa hk hj]
  have inj:∀x y,x<r.length->y<r.length->(x+k) % r.length=(y+k) % r.length->x=y:=by
   intro x y hx hy e;have hm:∀z,z<r.length->(z+k) % r.length=if z+k<r.length then z+k else z+k-r.length:=by
    intro z hz;split
    ·exact eD ‹_›
    ·exact kJ (by omega) (by omega)
   rw[hm x hx,hm y hy]at e;split at e<;>split at e<;>omega
  refine ha _ _ (Nat.mod_lt _ (by omega)) (Nat.mod_lt _ (by omega)) ?_ ?_ ?_
  ·intro e;have:=inj _ _ (by omega) hj e;omega
  ·rw[<-zC _ _ _ (by omega)]
   intro e;have:=inj _ _ hj (Nat.mod_lt _ (by omega)) e
   rw[e1 i (by omega)]at this
   split at this<;>omega
  ·rw[<-zC _ _ _ (by omega)]
   intro e;have:=inj _ _ (by omega) (Nat.mod_lt _ (by omega)) e
   rw[e1 j hj]at this;split at this<;>omega
 have htn:∀i,i<(Geo.rot r k).length->Geo.turn (prv (Geo.rot r k) i) (nth (Geo.rot r k) i) (nxt (Geo.rot r k) i)≠0:=by
  have:=Ag (Geo.rot r k) (by rw[fN];exact h3)
  rw[Bool.eq_iff_iff,List.all_eq_true,List.all_eq_true]at this;intro i hi;have:=this.2 (fun i hi=>by simpa using ht i (List.mem_range.1 hi)) i (List.mem_range.2 hi)
  simpa using this
 exact⟨by rw[fN];exact h3,by rw[fN];exact h.most,by rw[aAf (rN r k)];exact h.near,by rw[aC4 (by omega) hk];exact h.area,htn,ht,hap⟩
theorem Zj(p:Pt)(a b:S)(l:List S)(ins:Bool):eQ p (a::b::l) ins=eQ p (b::a::l) ins:=by
 simp only[eQ];cases onP a p<;>cases onP b p<;>simp
 congr 1
 cases ins<;>cases gW a p<;>cases gW b p<;>rfl
theorem Zk(p:Pt){l m:List S}(h:l.Perm m):∀ins,eQ p l ins=eQ p m ins:=by
 induction h with
 |nil=>intro ins;rfl
 |cons x _ ih=>intro ins;simp only[eQ,ih]
 |swap x y l=>intro ins;exact Zj p y x l ins
 |trans _ _ ih1 ih2=>intro ins;rw[ih1,ih2]
theorem vN{r:aC}(h:VR r){k:Nat}(hk:k<=r.length)(p:Pt):aP (rot r k) p=aP r p:=by
 unfold aP;rw[(cL _).2 h,(cL _).2 (h.rot hk),Zk p (gS r hk)]
theorem xA{r:aC}(h:VR r){k:Nat}(hk:k<=r.length)(v:V):bL (rot r k) v=bL r v:=by
 unfold bL;rw[vN h hk]
theorem Mr{a b:aC}(hb:VR b){i j:Nat}(hj:j<=b.length)(w:Int):cR (rot a i) (rot b j) w=cR a b w:=by
 unfold cR;rw[Bool.eq_iff_iff,List.all_eq_true,List.all_eq_true];simp only[xA hb hj];exact⟨fun g v hv=>g v ((rN a i).mem_iff.2 hv),fun g v hv=>g v ((rN a i).mem_iff.1 hv)⟩
theorem Km{a b:aC}{i j:Nat}(hi:i<=a.length)(hj:j<=b.length):dU (rot a i) (rot b j)=dU a b:=by
 unfold dU;rw[Bool.eq_iff_iff,List.all_eq_true,List.all_eq_true];simp only[List.all_eq_true];have h1:=gS a hi;have h2:=gS b hj;exact⟨fun g x hx y hy=>g x (h1.mem_iff.2 hx) y (h2.mem_iff.2 hy),fun g x hx y hy=>g x (h1.mem_iff.1 hx) y (h2.mem_iff.1 hy)⟩
def Sr(a b:aC):Prop:=dU a b=true/\cR a b 0=true/\cR b a 0=true
theorem Sr.symm{a b:aC}(h:Sr a b):Sr b a:=⟨by rw[kP];exact h.1,h.2.2,h.2.1⟩
structure VP(s:Shape):Prop where
 few:s.holes.length<=6
 outer:VR s.outer
 hole:∀h∈s.holes,VR h/\cR h s.outer 2=true/\dU h s.outer=true
 corners:dL s<=80
 sep:s.holes.Pairwise Sr
theorem VS.vp{s:Shape}(h:VS s):VP s:=by
 refine⟨h.few,h.outer,fun r hr=> ?_,h.corners,?_⟩
 ·obtain⟨i,hi,rfl⟩:=mQ hr;exact⟨h.hole i hi,h.ins i hi,h.apo i hi⟩
 ·rw[List.pairwise_iff_getElem];intro i j hi hj hij;have en:∀i (hi:i<s.holes.length),s.holes[i] =aD s.holes i:=fun i hi=>by unfold aD;rw[List.getD_eq_getElem?_getD,List.getElem?_eq_getElem hi];rfl
  rw[en i hi,en j hj];exact Sr.symm ⟨h.aph j i hij hj,h.out1 j i hij hj,h.out2 j i hij hj⟩
theorem VP.vs{s:Shape}(h:VP s):VS s:=by
 have en:∀i (hi:i<s.holes.length),s.holes[i] =aD s.holes i:=fun i hi=>by unfold aD;rw[List.getD_eq_getElem?_getD,List.getElem?_eq_getElem hi];rfl
 have hs:=h.sep;rw[List.pairwise_iff_getElem]at hs;have hp:∀i k,k<i->i<s.holes.length->Sr (aD s.holes i) (aD s.holes k):=fun i k hk hi=>by
  have:=hs k i (by omega) hi hk
  rw[en k (by omega),en i hi]at this
  exact this.symm
 exact⟨h.few,h.outer,fun i hi=>(h.hole _ (fQ hi)).1,h.corners,fun i hi=>(h.hole _ (fQ hi)).2.1,fun i hi=>(h.hole _ (fQ hi)).2.2,fun i k hk hi=>(hp i k hk hi).1,fun i k hk hi=>(hp i k hk hi).2.1,fun i k hk hi=>(hp i k hk hi).2.2⟩
structure Begun(s t:Shape)(κ:aC->Nat):Prop where
 le:∀r,κ r<=r.length
 outer:t.outer=rot s.outer (κ s.outer)
 holes:t.holes.Perm (s.holes.map fun r=>rot r (κ r))
section
variable {s t:Shape} {κ:aC->Nat}
theorem Zy{l m:List Nat}(h:l.Perm m):l.sum=m.sum:=by
 induction h with
 |nil=>rfl
 |cons x _ ih=>simp only[List.sum_cons,ih]
 |swap x y l=>simp only[List.sum_cons];omega
 |trans _ _ ih1 ih2=>rw[ih1,ih2]
theorem Begun.valid(B:Begun s t κ)(h:VS s):VS t:=by
 have h:=h.vp;refine VP.vs ⟨?_,?_,?_,?_,?_⟩
 ·rw[B.holes.length_eq,List.length_map];exact h.few
 ·rw[B.outer];exact h.outer.rot (B.le _)
 ·intro r hr;obtain⟨q,hq,rfl⟩:=List.mem_map.1 (B.holes.mem_iff.1 hr);obtain⟨h1,h2,h3⟩:=h.hole q hq;refine⟨h1.rot (B.le _),?_,?_⟩
  ·rw[B.outer,Mr h.outer (B.le _)];exact h2
  ·rw[B.outer,Km (B.le _) (B.le _)];exact h3
 ·have hc:=h.corners;have e:dL t=dL s:=by
   unfold dL aG;simp only[List.map_cons,List.sum_cons];rw[B.outer,fN,Zy (B.holes.map _),List.map_map]
   congr 2
   apply List.map_congr_left;intro r _;exact fN r _
  rw[e];exact hc
 ·refine(B.holes.pairwise_iff fun h=>h.symm).2 ?_
  rw[List.pairwise_map];refine List.Pairwise.imp_of_mem ?_ h.sep;intro a b ha hb ⟨h1,h2,h3⟩;exact⟨by rw[Km (B.le _) (B.le _)];exact h1,by rw[Mr (h.hole b hb).1 (B.le _)];exact h2,by rw[Mr (h.hole a ha).1 (B.le _)];exact h3⟩
theorem Begun.mem_edges(B:Begun s t κ)(e:S):e∈aQ t↔e∈aQ s:=by
 unfold aQ aG;simp only[List.flatMap_cons,List.mem_append,List.mem_flatMap];rw[B.outer,(gS _ (B.le _)).mem_iff];constructor
 ·rintro(h|⟨r,hr,he⟩)
  ·exact .inl h
  ·obtain⟨q,hq,rfl⟩:=List.mem_map.1 (B.holes.mem_iff.1 hr);exact .inr ⟨q,hq,(gS _ (B.le _)).mem_iff.1 he⟩
 ·rintro(h|⟨r,hr,he⟩)
  ·exact .inl h
  ·exact .inr ⟨_,B.holes.mem_iff.2 (List.mem_map.2 ⟨r,hr,rfl⟩),(gS _ (B.le _)).mem_iff.2 he⟩
theorem Gv{p:Pt}:∀{l:List aC},fW p l 2=2↔∀h∈l,aP h p=0
 |[] =>by simp[fW]
 |h::l=>by
  have hr:aP h p=0\/aP h p=1\/aP h p=2:=by
   unfold aP;split
   ·exact .inl rfl
   ·exact Gb p _ _
  simp only[fW,List.mem_cons,forall_eq_or_imp];rw[<-Gv (l:=l)];rcases hr with e|e|e
  ·simp[e]
  ·rw[if_neg (by omega),if_pos e];simp[e]
  ·rw[if_pos e];simp[e]
theorem mF(s:Shape)(p:Pt):dA s p=2↔(bV s=true/\aP s.outer p=2/\∀h∈s.holes,aP h p=0):=by
 unfold dA;cases bV s with
 |false=>simp
 |true=>
  simp only[Bool.not_true,Bool.false_eq_true,if_false,true_and];by_cases h:aP s.outer p=2
  ·rw[if_neg (by omega),Gv];simp[h]
  ·rw[if_pos h];simp[h]
theorem Begun.inside(B:Begun s t κ)(h:VS s)(p:Pt):(dA t p==2)=(dA s p==2):=by
 rw[Bool.eq_iff_iff,beq_iff_eq,beq_iff_eq,mF,mF,(fR _).2 h,(fR _).2 (B.valid h),B.outer,vN h.outer (B.le _)];refine and_congr_right fun _=>and_congr_right fun _=> ?_
 constructor
 ·intro g r hr;rw[<-vN (h.vp.hole r hr).1 (B.le r)];exact g _ (B.holes.mem_iff.2 (List.mem_map.2 ⟨r,hr,rfl⟩))
 ·intro g r hr;obtain⟨q,hq,rfl⟩:=List.mem_map.1 (B.holes.mem_iff.1 hr);rw[vN (h.vp.hole q hq).1 (B.le q)];exact g q hq
theorem Begun.chord(B:Begun s t κ)(h:VS s)(c:S):fX t c=fX s c:=by
 unfold fX;rw[B.inside h]
 congr 1
 rw[Bool.eq_iff_iff,List.all_eq_true,List.all_eq_true];exact⟨fun g e he=>g e ((B.mem_edges e).2 he),fun g e he=>g e ((B.mem_edges e).1 he)⟩
end
end Go.Proofs.YtdaeofhdgabhjaaGreat.Geo
namespace Go.Proofs.YtdaeofhdgabhjaaGreat.Geo
def mv(u:V)(a:V):V:=⟨a.x+u.x,a.y+u.y⟩
def mvR(u:V)(r:aC):aC:=r.map (mv u)
def mvE(u:V)(s:S):S:=⟨mv u s.a,mv u s.b⟩
def mvH(u:V)(s:Shape):Shape:=⟨mvR u s.outer,s.holes.map (mvR u)⟩
def mvP(u:V)(p:Pt):Pt:=⟨p.x+u.x*p.den,p.y+u.y*p.den,p.den⟩
theorem aH3{u a b:V}(h:mv u a=mv u b):a=b:=by
 cases a;cases b;unfold mv at h;simp only[V.mk.injEq]at h|-;omega
theorem aG5(u a b:V):mv u a=mv u b↔a=b:=⟨aH3,fun h=>by rw[h]⟩
theorem zY(u a b:V):sub (mv u a) (mv u b)=sub a b:=by
 unfold sub mv;simp only[V.mk.injEq];omega
theorem Cp(u a b c:V):turn (mv u a) (mv u b) (mv u c)=turn a b c:=by
 unfold turn;rw[zY,zY]
theorem zE(u a b:V):bX (mv u a) (mv u b)=bX a b:=by
 unfold bX mv;rw[Bool.eq_iff_iff];simp only[Bool.or_eq_true,Bool.and_eq_true,decide_eq_true_eq,beq_iff_eq];omega
theorem Qs(a b c:Int):fV (a+c) (b+c)=fV a b:=by
 unfold fV;repeat' split
 all_goals omega
theorem aER(u a b:V):fF (mv u a) (mv u b)=fF a b:=by
 unfold fF mv;rw[Qs,Qs]
theorem aCI(u:V)(s:S)(p:V):gJ (mvE u s) (mv u p)=gJ s p:=by
 unfold gJ mvE mv;rw[Bool.eq_iff_iff];simp only[Bool.and_eq_true,decide_eq_true_eq];omega
section
variable {u:V}
theorem aBz{s:S}(h1:aK s=true)(h2:aK (mvE u s)=true)(p:V):onS (mvE u s) (mv u p)=onS s p:=by
 unfold onS;rw[h1,h2,aCI];unfold mvE;rw[Cp]
theorem aBB(s:S):loS (mvE u s)=mv u (loS s):=by
 unfold loS mvE;dsimp only;rw[zE];split<;>rfl
theorem aBJ(s:S):hiS (mvE u s)=mv u (hiS s):=by
 unfold hiS mvE;dsimp only;rw[zE];split<;>rfl
theorem Uc(s t:S):cM (mvE u s) (mvE u t)=mv u (cM s t):=by
 unfold cM;rw[aBB,aBB,zE];split<;>rfl
theorem Ud(s t:S):cT (mvE u s) (mvE u t)=mv u (cT s t):=by
 unfold cT;rw[aBJ,aBJ,zE];split<;>rfl
theorem Xu{s t:S}(h1:aK s=true)(h2:aK (mvE u s)=true)(h3:aK t=true)(h4:aK (mvE u t)=true):cN (mvE u s) (mvE u t)=cN s t:=by
 have e1:sub (mvE u s).b (mvE u s).a=sub s.b s.a:=zY _ _ _;have e2:sub (mvE u t).b (mvE u t).a=sub t.b t.a:=zY _ _ _;have e3:sub (mvE u t).a (mvE u s).a=sub t.a s.a:=zY _ _ _;have e4:onS (mvE u t) (mvE u s).a=onS t s.a:=aBz h3 h4 s.a;have e5:onS (mvE u s) (mvE u t).a=onS s t.a:=aBz h1 h2 t.a;have e6:turn (mvE u s).a (mvE u s).b (mvE u t).a=turn s.a s.b t.a:=Cp _ _ _ _;have e7:((mvE u s).a=(mvE u s).b)=(s.a=s.b):=propext (aG5 u _ _);have e8:((mvE u t).a=(mvE u t).b)=(t.a=t.b):=propext (aG5 u _ _);unfold cN pH;simp only[h1,h2,h3,h4,e1,e2,e3,e4,e5,e6,e7,e8,Uc,Ud,aER]
theorem wX{r:aC}{i:Nat}(h:i<r.length):nth (mvR u r) i=mv u (nth r i):=by
 unfold nth mvR;rw[List.getD_eq_getElem?_getD,List.getD_eq_getElem?_getD,List.getElem?_map,List.getElem?_eq_getElem h];rfl
theorem pI(r:aC):(mvR u r).length=r.length:=by unfold mvR;simp
theorem aBA{r:aC}{i:Nat}(h:i<r.length):nxt (mvR u r) i=mv u (nxt r i):=by
 unfold nxt;rw[pI,wX (Nat.mod_lt _ (by omega))]
theorem aHW{r:aC}{i:Nat}(h:i<r.length):prv (mvR u r) i=mv u (prv r i):=by
 unfold prv;rw[pI,wX (Nat.mod_lt _ (by omega))]
theorem Mh{r:aC}{i:Nat}(h:i<r.length):cO (mvR u r) i=mvE u (cO r i):=by
 unfold cO mvE;rw[wX h,aBA h]
theorem uI(r:aC):edges (mvR u r)=(edges r).map (mvE u):=by
 unfold edges;rw[pI];split
 ·rfl
 ·rw[List.map_map];apply List.map_congr_left;intro i hi;exact Mh (List.mem_range.1 hi)
theorem aEb(l:List S)(f g:S->Int):(l.map fun e=>f e-g e).sum=(l.map f).sum-(l.map g).sum:=by
 induction l with
 |nil=>rfl
 |cons x l ih=>simp only[List.map_cons,List.sum_cons,ih];omega
theorem yG(l:List S)(f g:S->Int):(l.map fun e=>f e+g e).sum=(l.map f).sum+(l.map g).sum:=by
 induction l with
 |nil=>rfl
 |cons x l ih=>simp only[List.map_cons,List.sum_cons,ih];omega
theorem Cq(l:List S)(c:Int)(f:S->Int):(l.map fun e=>c*f e).sum=c*(l.map f).sum:=by
 induction l with
 |nil=>simp
 |cons x l ih=>simp only[List.map_cons,List.sum_cons,ih,Int.mul_add]
theorem Xb{r:aC}(h:2<=r.length):(edges r).map S.b=rot r 1:=by
 unfold edges;rw[if_neg (by omega),List.map_map]
 apply List.ext_getElem
 ·rw[fN];simp
 ·intro i h1 h2;rw[fN]at h2;have:=vH (r:=r) (k:=1) (i:=i) (by omega) h2
  rw[List.getElem_map,List.getElem_range];show nxt r i=_;unfold nxt;rw[<-this];unfold nth;rw[List.getD_eq_getElem?_getD,List.getElem?_eq_getElem (by rw[fN];exact h2)];rfl
theorem El{r:aC}(h:2<=r.length):(edges r).map S.a=r:=by
 unfold edges;rw[if_neg (by omega),List.map_map]
 apply List.ext_getElem
 ·simp
 ·intro i h1 h2;rw[List.getElem_map,List.getElem_range];show nth r i=_;unfold nth;rw[List.getD_eq_getElem?_getD,List.getElem?_eq_getElem h2];rfl
theorem Qn{r:aC}(h:2<=r.length)(f:V->Int):((edges r).map fun e=>f e.b).sum=((edges r).map fun e=>f e.a).sum:=by
 have h1:((edges r).map fun e=>f e.b)=(rot r 1).map f:=by rw[<-Xb h,List.map_map];rfl
 have h2:((edges r).map fun e=>f e.a)=r.map f:=(List.map_map (f:=S.a) (g:=f) (l:=edges r)).symm.trans (by rw[El h])
 rw[h1,h2];exact Ao ((rN r 1).map f)
theorem aE6{r:aC}(h:2<=r.length):area (mvR u r)=area r:=by
 rw[pY h,pY (by rw[pI];exact h),uI,List.map_map]
 have e:((fun e:S=>cross e.a e.b)∘mvE u)=fun e:S=>(cross e.a e.b+(u.y*e.a.x+ -u.x*e.a.y))-(u.y*e.b.x+ -u.x*e.b.y):=by
  funext e
  show cross (mv u e.a) (mv u e.b)=_;unfold cross mv;grind
 rw[e,aEb,yG,yG,yG,Cq,Cq,Cq,Cq];have hx:=Qn h V.x;have hy:=Qn h V.y;rw[hx,hy];omega
theorem VR.mv{r:aC}(h:VR r)(hn:Geo.near (mvR u r)=true):VR (mvR u r):=by
 have h3:=h.three;refine⟨by rw[pI];exact h3,by rw[pI];exact h.most,hn,by rw[aE6 (by omega)];exact h.area,?_,?_,?_⟩
 ·intro i hi;rw[pI]at hi;rw[aHW hi,wX hi,aBA hi,Cp];exact h.turn i hi
 ·intro i hi;rw[pI]at hi|-;rw[wX hi,wX (Nat.mod_lt _ (by omega)),wX (Nat.mod_lt _ (by omega)),Cp]
  exact h.turn' i hi
 ·intro i k h1 h2 h4 h5;have g1:=dQ hn i (by omega)
  have g2:=dQ hn k h2;rw[pI]at h2 h5;rw[Mh (by omega)]at g1|-
  rw[Mh h2]at g2|-;rw[Xu (dQ h.near i (by omega)) g1 (dQ h.near k h2) g2]
  exact h.apart i k h1 h2 h4 h5
theorem Ds(p:Pt)(a:V):toV (mvP u p) (Geo.mv u a)=toV p a:=by
 unfold toV mvP Geo.mv;simp only[V.mk.injEq];grind
theorem Ww(p:Pt)(s:S):fK (mvE u s) (mvP u p)=fK s p:=by
 unfold fK mvE;dsimp only;rw[zY,Ds]
theorem aH0(p:Pt)(s:S):onP (mvE u s) (mvP u p)=onP s p:=by
 unfold onP;rw[Ww];unfold mvE;dsimp only;rw[Ds,Ds]
theorem aEI(p:Pt)(s:S):gW (mvE u s) (mvP u p)=gW s p:=by
 unfold gW;rw[Ww];unfold mvE;dsimp only;rw[Ds,Ds]
theorem Xa(p:Pt):∀(l:List S) (ins:Bool),eQ (mvP u p) (l.map (mvE u)) ins=eQ p l ins
 |[],_=>rfl
 |s::l,ins=>by
  simp only[List.map_cons,eQ,aH0,aEI,Xa p l]
theorem aBU{r:aC}(h:VR r)(hn:near (mvR u r)=true){p:Pt}(h1:cF p=true)(h2:cF (mvP u p)=true):aP (mvR u r) (mvP u p)=aP r p:=by
 unfold aP;rw[(cL _).2 h,(cL _).2 (h.mv hn),h1,h2,uI,Xa]
theorem Pr(v:V):mvP u (iD v)=iD (Geo.mv u v):=by
 unfold mvP iD Geo.mv;simp
theorem Yw{r:aC}(h:VR r)(hn:near (mvR u r)=true){v:V}(h1:aJ v 4000=true)(h2:aJ (Geo.mv u v) 4000=true):bL (mvR u r) (Geo.mv u v)=bL r v:=by
 unfold bL;rw[h1,h2,<-Pr,aBU h hn (by rw[lJ];exact h1) (by rw[Pr,lJ];exact h2)]
theorem uG{r:aC}(h:near r=true){v:V}(hv:v∈r):aJ v 2000=true:=by
 unfold near at h;rw[List.all_eq_true]at h;exact h v hv
theorem Tu{a b:aC}(hb:VR b)(ha:near a=true)(ha2:near (mvR u a)=true)(hb2:near (mvR u b)=true)(w:Int):cR (mvR u a) (mvR u b) w=cR a b w:=by
 unfold cR;rw[show(mvR u a)=a.map (Geo.mv u)from rfl,List.all_map,Bool.eq_iff_iff,List.all_eq_true,List.all_eq_true]
 have e:∀v∈a,((fun v=>bL (mvR u b) v==w)∘Geo.mv u) v=(bL b v==w):=fun v hv=>by
  show(bL (mvR u b) (Geo.mv u v)==w)=_;rw[Yw hb hb2 (dD (uG ha hv) (by omega)) (dD (uG ha2 (List.mem_map.2 ⟨v,hv,rfl⟩)) (by omega))]
 exact⟨fun g v hv=>by rw[<-e v hv];exact g v hv,fun g v hv=>by rw[e v hv];exact g v hv⟩
theorem sW{r:aC}(h:near r=true){e:S}(he:e∈edges r):aK e=true:=by
 obtain⟨_,i,hi,rfl⟩:=mem_edges.1 he;exact dQ h i hi
theorem Jm{r:aC}(h:near (mvR u r)=true){e:S}(he:e∈edges r):aK (mvE u e)=true:=
 sW h (by rw[uI];exact List.mem_map.2 ⟨e,he,rfl⟩)
theorem Qx{a b:aC}(ha:near a=true)(hb:near b=true)(ha2:near (mvR u a)=true)(hb2:near (mvR u b)=true):dU (mvR u a) (mvR u b)=dU a b:=by
 unfold dU;rw[uI,uI,List.all_map,Bool.eq_iff_iff,List.all_eq_true,List.all_eq_true];have e:∀x∈edges a,∀y∈edges b,cN (mvE u x) (mvE u y)=cN x y:=fun x hx y hy=>Xu (sW ha hx) (Jm ha2 hx) (sW hb hy) (Jm hb2 hy)
 have e2:∀x∈edges a,((fun x=>((edges b).map (mvE u)).all fun y=>cN x y==0)∘mvE u) x=((edges b).all fun y=>cN x y==0):=fun x hx=>by
  show(((edges b).map (mvE u)).all fun y=>cN (mvE u x) y==0)=_
  rw[List.all_map,Bool.eq_iff_iff,List.all_eq_true,List.all_eq_true];exact⟨fun g y hy=>by rw[<-e x hx y hy];exact g y hy,fun g y hy=>by show(cN (mvE u x) (mvE u y)==0)=true;rw[e x hx y hy];exact g y hy⟩
 exact⟨fun g x hx=>by rw[<-e2 x hx];exact g x hx,fun g x hx=>by rw[e2 x hx];exact g x hx⟩
end
def aMh(s:Shape):Prop:=near s.outer=true/\∀h∈s.holes,near h=true
section
variable {u:V} {s:Shape}
theorem VS.mv(h:VS s)(hn:aMh (mvH u s)):VS (mvH u s):=by
 have h:=h.vp;obtain⟨n1,n2⟩:=hn;have n2:∀r∈s.holes,near (mvR u r)=true:=fun r hr=>n2 _ (List.mem_map.2 ⟨r,hr,rfl⟩)
 refine VP.vs ⟨by show(s.holes.map _).length<=6;rw[List.length_map];exact h.few,h.outer.mv n1,?_,?_,?_⟩
 ·intro r hr;obtain⟨q,hq,rfl⟩:=List.mem_map.1 hr;obtain⟨h1,h2,h3⟩:=h.hole q hq;exact⟨h1.mv (n2 q hq),by show cR (mvR u q) (mvR u s.outer) 2=true;rw[Tu h.outer h1.near (n2 q hq) n1];exact h2,by show dU (mvR u q) (mvR u s.outer)=true;rw[Qx h1.near h.outer.near (n2 q hq) n1];exact h3⟩
 ·have hc:=h.corners;have e:dL (mvH u s)=dL s:=by
   unfold dL aG mvH;simp only[List.map_cons,List.sum_cons,pI,List.map_map]
   congr 2
   apply List.map_congr_left;intro r _;exact pI r
  rw[e];exact hc
 ·show(s.holes.map (mvR u)).Pairwise Sr;rw[List.pairwise_map];refine List.Pairwise.imp_of_mem ?_ h.sep;intro a b ha hb ⟨h1,h2,h3⟩;have va:=(h.hole a ha).1;have vb:=(h.hole b hb).1;exact⟨by rw[Qx va.near vb.near (n2 a ha) (n2 b hb)];exact h1,by rw[Tu vb va.near (n2 a ha) (n2 b hb)];exact h2,by rw[Tu va vb.near (n2 b hb) (n2 a ha)];exact h3⟩
theorem aEL(x y:Int)(h:¬(x.tmod 2=0/\y.tmod 2=0)):Nat.gcd (Nat.gcd x.natAbs y.natAbs) 2=1:=by
 have hd:Nat.gcd (Nat.gcd x.natAbs y.natAbs) 2∣2:=Nat.gcd_dvd_right _ _;have hle:=Nat.le_of_dvd (by omega) hd
 have h0:Nat.gcd (Nat.gcd x.natAbs y.natAbs) 2≠0:=fun e=>by rw[e]at hd;omega
 have h2:Nat.gcd (Nat.gcd x.natAbs y.natAbs) 2≠2:=fun e=>by
  have g:=Nat.gcd_dvd_left (Nat.gcd x.natAbs y.natAbs) 2;rw[e]at g;exact h ⟨(jI x 2).2 (Nat.dvd_trans g (Nat.gcd_dvd_left _ _)),(jI y 2).2 (Nat.dvd_trans g (Nat.gcd_dvd_right _ _))⟩
 omega
theorem qA{c:S}(ha:aJ c.a 2000=true)(hb:aJ c.b 2000=true):cF (dO c)=true:=by
 unfold aJ at ha hb;simp only[Bool.and_eq_true,decide_eq_true_eq]at ha hb;unfold dO;split
 ·rename_i h;unfold cF dI aJ;simp only[Bool.and_eq_true,decide_eq_true_eq,beq_iff_eq];obtain⟨k,hk⟩:=Int.dvd_iff_tmod_eq_zero.2 h.1;obtain⟨l,hl⟩:=Int.dvd_iff_tmod_eq_zero.2 h.2;rw[hk,hl,Int.mul_tdiv_cancel_left _ (by decide),Int.mul_tdiv_cancel_left _ (by decide)]
  refine⟨⟨⟨by omega,by omega⟩,⟨⟨by omega,by omega⟩,by omega⟩,by omega⟩,?_⟩
  show Nat.gcd _ 1=1;exact Nat.gcd_one_right _
 ·rename_i h;unfold cF dI aJ;simp only[Bool.and_eq_true,decide_eq_true_eq,beq_iff_eq];exact⟨⟨⟨by omega,by omega⟩,⟨⟨by omega,by omega⟩,by omega⟩,by omega⟩,aEL _ _ h⟩
theorem eI(h:VS s){v:V}(hv:v∈bJ s):aJ v 2000=true:=by
 unfold bJ at hv;obtain⟨r,hr,hv⟩:=List.mem_flatten.1 hv;exact uG (h.ring hr).near hv
theorem Cc(h:VS s){e:S}(he:e∈aQ s):aK e=true:=by
 unfold aQ at he;obtain⟨r,hr,he⟩:=List.mem_flatMap.1 he;exact sW (h.ring hr).near he
end
end Go.Proofs.YtdaeofhdgabhjaaGreat.Geo
namespace Go.Proofs.YtdaeofhdgabhjaaGreat.Geo
def Kp(p:Pt)(l:List S)(ins:Bool):Bool:=l.foldl (fun b s=>b !=gW s p) ins
theorem Pc{p:Pt}:∀{l:List S} {ins:Bool},eQ p l ins=2->Kp p l ins=true
 |[],ins,h=>by unfold eQ at h;unfold Kp;cases ins<;>simp_all
 |s::l,ins,h=>by
  unfold eQ at h;split at h
  ·omega
  ·exact Pc (l:=l) (ins:=ins !=gW s p) h
theorem Pk{p:Pt}:∀{l:List S} {ins:Bool},(∀s∈l,gW s p=false)->Kp p l ins=ins
 |[],_,_=>rfl
 |s::l,ins,h=>by
  show Kp p l (ins !=gW s p)=ins;rw[Pk (fun s hs=>h s (List.mem_cons_of_mem _ hs)),h s List.mem_cons_self];cases ins<;>rfl
def fD(l:List Bool):Bool:=l.foldr (fun a b=>a !=b) false
theorem Og{l m:List Bool}(h:l.Perm m):fD l=fD m:=by
 induction h with
 |nil=>rfl
 |cons x _ ih=>show(x !=fD _)=(x !=fD _);rw[ih]
 |swap x y l=>show(y !=(x !=fD l))=(x !=(y !=fD l));cases x<;>cases y<;>cases fD l<;>rfl
 |trans _ _ ih1 ih2=>rw[ih1,ih2]
theorem Xf{p:Pt}(f:V->Bool):∀{l:List S} {ins:Bool},(∀s∈l,gW s p=(f s.a !=f s.b))->Kp p l ins=(ins !=(fD (l.map fun s=>f s.a) !=fD (l.map fun s=>f s.b)))
 |[],ins,_=>by cases ins<;>rfl
 |s::l,ins,h=>by
  show Kp p l (ins !=gW s p)=_;rw[Xf f (fun s hs=>h s (List.mem_cons_of_mem _ hs)),h s List.mem_cons_self]
  show _=(ins !=((f s.a !=fD _) !=(f s.b !=fD _)));cases ins<;>cases f s.a<;>cases f s.b<;>cases fD (l.map fun s=>f s.a)<;>cases fD (l.map fun s=>f s.b)<;>rfl
theorem Ec{r:aC}(h:2<=r.length)(f:V->Bool):fD ((edges r).map fun s=>f s.a)=fD ((edges r).map fun s=>f s.b):=by
 have h1:((edges r).map fun e=>f e.b)=(rot r 1).map f:=(List.map_map (f:=S.b) (g:=f) (l:=edges r)).symm.trans (by rw[Xb h])
 have h2:((edges r).map fun e=>f e.a)=r.map f:=(List.map_map (f:=S.a) (g:=f) (l:=edges r)).symm.trans (by rw[El h])
 rw[h1,h2];exact Og ((rN r 1).map f).symm
theorem dX{r:aC}{e:S}(he:e∈edges r):e.a∈r/\e.b∈r:=by
 obtain⟨_,i,hi,rfl⟩:=mem_edges.1 he;exact⟨fU.2 ⟨i,hi,rfl⟩,fU.2 ⟨_,Nat.mod_lt _ (by omega),rfl⟩⟩
theorem Oy(s:S)(p:Pt)(h:p.den=1):fK s p=(toV p s.a).x*(toV p s.b).y-(toV p s.a).y*(toV p s.b).x:=by
 unfold fK toV cross sub;rw[h];dsimp only;grind
theorem aDJ{x y:Int}:(0<x->0<=y->0<=x*y)/\(0<x->y<0->x*y<0)/\(x<0->0<=y->x*y<=0)/\(x<0->y<0->0<x*y):=by
 refine⟨fun h1 h2=>Int.mul_nonneg (by omega) h2,fun h1 h2=>Int.mul_neg_of_pos_of_neg h1 h2,fun h1 h2=>Int.mul_nonpos_of_nonpos_of_nonneg (by omega) h2,fun h1 h2=>Int.mul_pos_of_neg_of_neg h1 h2⟩
theorem aAq{s:S}{p:Pt}(hd:p.den=1)(ha:0<(toV p s.a).x)(hb:0<(toV p s.b).x):gW s p=false:=by
 unfold gW;rw[Oy s p hd];generalize (toV p s.a).x=X1 at*;generalize (toV p s.b).x=X2 at*;generalize (toV p s.a).y=Y1;generalize (toV p s.b).y=Y2;have a:= @aDJ X1 Y2;have b:= @aDJ X2 Y1;rw[Int.mul_comm Y1 X2];by_cases h1:0<=Y1<;>by_cases h2:0<=Y2<;>simp[h1,h2]
 ·have:=a.2.1 ha (by omega);have:=b.1 hb h1;omega
 ·have:=a.1 ha h2;have:=b.2.1 hb (by omega);omega
theorem aCL{s:S}{p:Pt}(hd:p.den=1)(ha:(toV p s.a).x<0)(hb:(toV p s.b).x<0):gW s p=(decide (0<=(toV p s.a).y) !=decide (0<=(toV p s.b).y)):=by
 unfold gW;rw[Oy s p hd];generalize (toV p s.a).x=X1 at*;generalize (toV p s.b).x=X2 at*;generalize (toV p s.a).y=Y1;generalize (toV p s.b).y=Y2;have a:= @aDJ X1 Y2;have b:= @aDJ X2 Y1;rw[Int.mul_comm Y1 X2];by_cases h1:0<=Y1<;>by_cases h2:0<=Y2<;>simp[h1,h2]
 ·have:=a.2.2.2 ha (by omega);have:=b.2.2.1 hb h1;omega
 ·have:=a.2.2.1 ha h2;have:=b.2.2.2 hb (by omega);omega
theorem aHb{s:S}{p:Pt}(h:decide (0<=(toV p s.a).y)=decide (0<=(toV p s.b).y)):gW s p=false:=by
 unfold gW;rw[h];simp
theorem Ut{r:aC}(h2:2<=r.length){v:V}(h:bL r v=2):(∃a∈r,a.x<=v.x)/\(∃a∈r,v.x<=a.x)/\(∃a∈r,a.y<=v.y)/\(∃a∈r,v.y<=a.y):=by
 unfold bL aP at h;split at h
 ·omega
 split at h
 ·omega
 have hp:=Pc h;have no:¬∀s∈edges r,gW s (iD v)=false:=fun hn=>by rw[Pk hn]at hp;cases hp
 have tx:∀a:V,(toV (iD v) a).x=v.x-a.x:=fun a=>by unfold toV iD;simp
 have ty:∀a:V,(toV (iD v) a).y=v.y-a.y:=fun a=>by unfold toV iD;simp
 refine⟨Classical.byContradiction fun hn=> ?_,Classical.byContradiction fun hn=> ?_,Classical.byContradiction fun hn=> ?_,Classical.byContradiction fun hn=> ?_⟩
 ·have hl:∀a∈r,v.x<a.x:=fun a ha=>Int.not_le.1 fun hh=>hn ⟨a,ha,hh⟩
  rw[Xf (fun a=>decide (0<=(toV (iD v) a).y)) (fun s hs=>aCL rfl (by rw[tx];have:=hl _ (dX hs).1;omega) (by rw[tx];have:=hl _ (dX hs).2;omega))]at hp
  have hx:=Ec h2 (fun a=>decide (0<=(toV (iD v) a).y))
  rw[hx]at hp;simp at hp
 ·have hl:∀a∈r,a.x<v.x:=fun a ha=>Int.not_le.1 fun hh=>hn ⟨a,ha,hh⟩
  exact no fun s hs=>aAq rfl (by rw[tx];have:=hl _ (dX hs).1;omega) (by rw[tx];have:=hl _ (dX hs).2;omega)
 ·have hl:∀a∈r,v.y<a.y:=fun a ha=>Int.not_le.1 fun hh=>hn ⟨a,ha,hh⟩
  exact no fun s hs=>aHb (by rw[ty,ty];have:=hl _ (dX hs).1;have:=hl _ (dX hs).2;rw[decide_eq_false (by omega),decide_eq_false (by omega)])
 ·have hl:∀a∈r,a.y<v.y:=fun a ha=>Int.not_le.1 fun hh=>hn ⟨a,ha,hh⟩
  exact no fun s hs=>aHb (by rw[ty,ty];have:=hl _ (dX hs).1;have:=hl _ (dX hs).2;rw[decide_eq_true (by omega),decide_eq_true (by omega)])
end Go.Proofs.YtdaeofhdgabhjaaGreat.Geo
namespace Go.Proofs.YtdaeofhdgabhjaaGreat.Geo
def ln(p q:P3):P3:=⟨p.y*q.d-p.d*q.y,p.d*q.x-p.x*q.d,p.x*q.y-p.y*q.x⟩
theorem aH6(u v:V):lin u v=ln (pt u) (pt v):=by
 unfold lin ln pt;simp only[P3.mk.injEq];refine⟨?_,?_,?_⟩<;>grind
theorem Mg(p q:P3):ev (ln p q) p=0:=by unfold ev ln;grind
theorem Cy(p q:P3):ev (ln p q) q=0:=by unfold ev ln;grind
theorem nnl{a k:Int}(hk:0<k)(h:0<=a*k):0<=a:=by
 rcases Int.lt_or_le a 0 with g|g
 ·have:=Int.mul_neg_of_neg_of_pos g hk;omega
 ·exact g
theorem npl{a k:Int}(hk:0<k)(h:a*k<=0):a<=0:=by
 rcases Int.lt_or_le 0 a with g|g
 ·have:=Int.mul_pos g hk;omega
 ·exact g
theorem mpp{a b:Int}(ha:0<=a)(hb:0<=b):0<=a*b:=Int.mul_nonneg ha hb
theorem mpn{a b:Int}(ha:0<=a)(hb:b<=0):a*b<=0:=Int.mul_nonpos_of_nonneg_of_nonpos ha hb
theorem mnp{a b:Int}(ha:a<=0)(hb:0<=b):a*b<=0:=Int.mul_nonpos_of_nonpos_of_nonneg ha hb
theorem mnn{a b:Int}(ha:a<=0)(hb:b<=0):0<=a*b:=Int.mul_nonneg_of_nonpos_of_nonpos ha hb
def dn(p:P3)(w:V):Bool:=decide (w.y*p.d<=p.y)
def hit(p:P3)(e:S):Bool:=(dn p e.a !=dn p e.b)&&(dn p e.a==decide (0<ev (lin e.a e.b) p))
theorem aCM(e:S)(p:Pt):gW e p=hit ⟨p.x,p.y,p.den⟩ e:=by
 unfold gW hit dn;have e1:∀w:V,decide (0<=(toV p w).y)=decide (w.y*p.den<=p.y):=fun w=>decide_eq_decide.2 (by unfold toV;dsimp only;omega)
 have e2:fK e p=ev (lin e.a e.b) ⟨p.x,p.y,p.den⟩:=by unfold fK cross sub toV ev lin;grind
 rw[e1,e1,e2]
def iO(e:S)(p q:P3):Prop:=∃x y s t:Int,0<=x/\0<=y/\0<x+y/\0<=s/\0<=t/\cmb x (pt e.a) y (pt e.b)=cmb s p t q
section
variable {u v:V} {p q:P3}
theorem gc(u v:V)(p q:P3):cmb (ev (ln p q) (pt v)) (pt u) (-(ev (ln p q) (pt u))) (pt v)=cmb (-(ev (lin u v) q)) p (ev (lin u v) p) q:=by
 unfold cmb ev ln lin pt;simp only[P3.mk.injEq];refine⟨?_,?_,?_⟩<;>grind
theorem aDU(u v:V)(p q:P3):ev (ln p q) (pt v)*(u.y*p.d-p.y)-ev (ln p q) (pt u)*(v.y*p.d-p.y)=ev (lin u v) p*(q.y*p.d-p.y*q.d):=by
 unfold ev ln lin pt;grind
theorem aDT(u v:V)(p q:P3):ev (ln p q) (pt v)*(u.y*q.d-q.y)-ev (ln p q) (pt u)*(v.y*q.d-q.y)=ev (lin u v) q*(q.y*p.d-p.y*q.d):=by
 unfold ev ln lin pt;grind
theorem aDV(u v:V)(p q:P3):ev (ln p q) (pt v)-ev (ln p q) (pt u)=ev (lin u v) p*q.d-ev (lin u v) q*p.d:=by
 unfold ev ln lin pt;grind
theorem Oc(h1:0<=ev (lin u v) p)(h2:ev (lin u v) q<=0)(h3:0<=ev (ln p q) (pt v))(h4:ev (ln p q) (pt u)<=0)(h5:ev (ln p q) (pt u)<ev (ln p q) (pt v)):iO ⟨u,v⟩ p q:=
 ⟨_,_,_,_,h3,by omega,by omega,by omega,h1,gc u v p q⟩
theorem We(h1:ev (lin u v) p<=0)(h2:0<=ev (lin u v) q)(h3:ev (ln p q) (pt v)<=0)(h4:0<=ev (ln p q) (pt u))(h5:ev (ln p q) (pt v)<ev (ln p q) (pt u)):iO ⟨u,v⟩ p q:=by
 refine⟨-(ev (ln p q) (pt v)),ev (ln p q) (pt u),ev (lin u v) q,-(ev (lin u v) p),by omega,by omega,by omega,by omega,by omega,?_⟩
 have:=gc u v p q;unfold cmb at this|-;simp only[P3.mk.injEq]at this|-;refine⟨?_,?_,?_⟩<;>grind
def rgt(p q:P3)(w:V):Bool:=dn q w&& !dn p w&&decide (ev (ln p q) (pt w)<0)
theorem iO.swap{u v:V}{p q:P3}(h:iO ⟨u,v⟩ p q):iO ⟨v,u⟩ p q:=by
 obtain⟨x,y,s,t,h1,h2,h3,h4,h5,h6⟩:=h;refine⟨y,x,s,t,h2,h1,by omega,h4,h5,?_⟩
 rw[<-h6];unfold cmb;simp only[P3.mk.injEq];refine⟨?_,?_,?_⟩<;>omega
theorem iO.flip{e:S}{p q:P3}(h:iO e p q):iO e q p:=by
 obtain⟨x,y,s,t,h1,h2,h3,h4,h5,h6⟩:=h;refine⟨x,y,t,s,h1,h2,h3,h5,h4,?_⟩;rw[h6];unfold cmb;simp only[P3.mk.injEq];refine⟨?_,?_,?_⟩<;>omega
theorem lO(u v:V)(p:P3):ev (lin v u) p= -ev (lin u v) p:=by unfold ev lin;grind
theorem aCJ(p:P3)(u v:V)(h:ev (lin u v) p=0->dn p u=dn p v):hit p ⟨v,u⟩=hit p ⟨u,v⟩:=by
 unfold hit;dsimp only;rw[lO];rcases Int.lt_trichotomy (ev (lin u v) p) 0 with h0|h0|h0
 ·rw[decide_eq_true (show 0< -ev (lin u v) p by omega),decide_eq_false (show¬0<ev (lin u v) p by omega)]
  cases dn p u<;>cases dn p v<;>rfl
 ·rw[h h0];cases dn p v<;>rfl
 ·rw[decide_eq_false (show¬0< -ev (lin u v) p by omega),decide_eq_true (show 0<ev (lin u v) p by omega)]
  cases dn p u<;>cases dn p v<;>rfl
theorem low(hp:0<p.d)(hq:0<q.d)(hm:¬iO ⟨u,v⟩ p q)(a:u.y*p.d<=p.y)(b:p.y<v.y*p.d)(c:u.y*q.d<=q.y)(d:v.y*q.d<=q.y):
  0<ev (lin u v) p↔ev (ln p q) (pt v)<0:=by
 have i1:=aDU u v p q;have i2:=aDT u v p q;have i3:=aDV u v p q;have hK:0<q.y*p.d-p.y*q.d:=by
  have e:q.y*p.d-p.y*q.d=(v.y*p.d-p.y)*q.d-(v.y*q.d-q.y)*p.d:=by grind
  have:=Int.mul_pos (show 0<v.y*p.d-p.y by omega) hq
  have:=mnp (show v.y*q.d-q.y<=0 by omega) (show 0<=p.d by omega)
  omega
 have m1:= @Oc u v p q;have m2:= @We u v p q;generalize ev (lin u v) p=A at*;generalize ev (lin u v) q=B at*;generalize ev (ln p q) (pt u)=C at*;generalize ev (ln p q) (pt v)=D at*;generalize q.y*p.d-p.y*q.d=K at*;constructor
 ·intro hA;refine Classical.byContradiction fun hn=> ?_
  have hDn:0<=D:=by omega
  have s1:=mpn hDn (show u.y*p.d-p.y<=0 by omega)
  have s2:=Int.mul_pos hA hK;have s3:0<=(-C)*(v.y*p.d-p.y):=by rw[Int.neg_mul];omega
  have hCn:C<=0:=by have:=nnl (show 0<v.y*p.d-p.y by omega) s3;omega
  have s4:=mpn hDn (show u.y*q.d-q.y<=0 by omega)
  have s5:=mnn hCn (show v.y*q.d-q.y<=0 by omega)
  have hBn:B<=0:=npl hK (by omega)
  have s6:=Int.mul_pos hA hq;have s7:=mnp hBn (show 0<=p.d by omega)
  exact hm (m1 (by omega) hBn hDn hCn (by omega))
 ·intro hDn;refine Classical.byContradiction fun hn=> ?_
  have hAn:A<=0:=by omega
  have s1:=mnn (show D<=0 by omega) (show u.y*p.d-p.y<=0 by omega)
  have s2:=mnp hAn (show 0<=K by omega)
  have hCn:0<=C:=nnl (show 0<v.y*p.d-p.y by omega) (by omega)
  have s4:=mnn (show D<=0 by omega) (show u.y*q.d-q.y<=0 by omega)
  have s5:=mpn hCn (show v.y*q.d-q.y<=0 by omega)
  have hBn:0<=B:=nnl hK (by omega)
  exact hm (m2 hAn hBn (by omega) hCn (by omega))
theorem aKQ(hp:0<p.d)(hq:0<q.d)(hm:¬iO ⟨u,v⟩ p q)(a:p.y<u.y*p.d)(b:p.y<v.y*p.d)(c:u.y*q.d<=q.y)(d:q.y<v.y*q.d):
  0<ev (lin u v) q↔ev (ln p q) (pt u)<0:=by
 have i1:=aDU u v p q;have i2:=aDT u v p q;have i3:=aDV u v p q;have hK:0<q.y*p.d-p.y*q.d:=by
  have e:q.y*p.d-p.y*q.d=(u.y*p.d-p.y)*q.d-(u.y*q.d-q.y)*p.d:=by grind
  have:=Int.mul_pos (show 0<u.y*p.d-p.y by omega) hq
  have:=mnp (show u.y*q.d-q.y<=0 by omega) (show 0<=p.d by omega)
  omega
 have m1:= @Oc u v p q;have m2:= @We u v p q;generalize ev (lin u v) p=A at*;generalize ev (lin u v) q=B at*;generalize ev (ln p q) (pt u)=C at*;generalize ev (ln p q) (pt v)=D at*;generalize q.y*p.d-p.y*q.d=K at*;constructor
 ·intro hB;refine Classical.byContradiction fun hn=> ?_
  have hC:0<=C:=by omega
  have s1:=Int.mul_pos hB hK;have s2:=mpp hC (show 0<=v.y*q.d-q.y by omega)
  have s3:0<D*(u.y*q.d-q.y):=by omega
  have hD:D<0:=by
   rcases Int.lt_or_le D 0 with g|g
   ·exact g
   ·have:=mpn g (show u.y*q.d-q.y<=0 by omega);omega
  have s4:=mnp (show D<=0 by omega) (show 0<=u.y*p.d-p.y by omega)
  have s5:=mpp hC (show 0<=v.y*p.d-p.y by omega)
  have hA:A<=0:=npl hK (by omega)
  exact hm (m2 hA (by omega) (by omega) hC (by omega))
 ·intro hC;refine Classical.byContradiction fun hn=> ?_
  have hB:B<=0:=by omega
  have s1:=mnp hB (show 0<=K by omega)
  have s2:=mnp (show C<=0 by omega) (show 0<=v.y*q.d-q.y by omega)
  have s3:=Int.mul_neg_of_neg_of_pos hC (show 0<v.y*q.d-q.y by omega)
  have hD:0<D:=by
   rcases Int.lt_or_le 0 D with g|g
   ·exact g
   ·have:=mnn g (show u.y*q.d-q.y<=0 by omega);omega
  have s4:=mpp (show 0<=D by omega) (show 0<=u.y*p.d-p.y by omega)
  have s5:=mnp (show C<=0 by omega) (show 0<=v.y*p.d-p.y by omega)
  have hA:0<=A:=nnl hK (by omega)
  exact hm (m1 hA hB (by omega) (by omega) (by omega))
theorem mid(hp:0<p.d)(hq:0<q.d)(hm:¬iO ⟨u,v⟩ p q)(a:p.y<u.y*p.d)(b:p.y<v.y*p.d)(c:u.y*q.d<=q.y)(d:v.y*q.d<=q.y):
  ¬(ev (ln p q) (pt u)<0/\0<=ev (ln p q) (pt v)):=by
 rintro⟨hC,hD⟩;have i1:=aDU u v p q;have i2:=aDT u v p q;have hK:0<q.y*p.d-p.y*q.d:=by
  have e:q.y*p.d-p.y*q.d=(u.y*p.d-p.y)*q.d-(u.y*q.d-q.y)*p.d:=by grind
  have:=Int.mul_pos (show 0<u.y*p.d-p.y by omega) hq
  have:=mnp (show u.y*q.d-q.y<=0 by omega) (show 0<=p.d by omega)
  omega
 have m1:= @Oc u v p q;generalize ev (lin u v) p=A at*;generalize ev (lin u v) q=B at*;generalize ev (ln p q) (pt u)=C at*;generalize ev (ln p q) (pt v)=D at*;generalize q.y*p.d-p.y*q.d=K at*;have s1:=mpp hD (show 0<=u.y*p.d-p.y by omega)
 have s2:=mnp (show C<=0 by omega) (show 0<=v.y*p.d-p.y by omega)
 have hA:0<=A:=nnl hK (by omega)
 have s3:=mpn hD (show u.y*q.d-q.y<=0 by omega)
 have s4:=mnn (show C<=0 by omega) (show v.y*q.d-q.y<=0 by omega)
 have hB:B<=0:=npl hK (by omega)
 exact hm (m1 hA hB hD (by omega) (by omega))
theorem aIU(hp:0<p.d)(hq:0<q.d)(hm:¬iO ⟨u,v⟩ p q)(a:u.y*p.d<=p.y)(b:p.y<v.y*p.d)(c:u.y*q.d<=q.y)(d:q.y<v.y*q.d):
  (0<ev (lin u v) p↔0<ev (lin u v) q):=by
 have i3:=gc u v p q;have i1:=aDU u v p q;have i2:=aDT u v p q;have j1:ev (lin u v) p*(q.y-u.y*q.d)-ev (lin u v) q*(p.y-u.y*p.d)= -(ev (ln p q) (pt u))*(v.y-u.y):=by unfold ev ln lin pt;grind
 have j2:ev (lin u v) p*(q.y-v.y*q.d)-ev (lin u v) q*(p.y-v.y*p.d)= -(ev (ln p q) (pt v))*(v.y-u.y):=by unfold ev ln lin pt;grind
 have hv:0<v.y-u.y:=by
  have h1:0<(v.y-u.y)*p.d:=by rw[Int.sub_mul];omega
  rcases Int.lt_or_le 0 (v.y-u.y)with g|g
  ·exact g
  ·have:=mnp g (show 0<=p.d by omega);omega
 have i4:=aDV u v p q;have m1:= @Oc u v p q;have m2:= @We u v p q;generalize ev (lin u v) p=A at*;generalize ev (lin u v) q=B at*;generalize ev (ln p q) (pt u)=C at*;generalize ev (ln p q) (pt v)=D at*;constructor
 ·intro hA;refine Classical.byContradiction fun hn=> ?_
  have hB:B<=0:=by omega
  have s1:=mpp (show 0<=A by omega) (show 0<=q.y-u.y*q.d by omega)
  have s2:=mnp hB (show 0<=p.y-u.y*p.d by omega)
  have hC:0<= -C:=nnl hv (by omega)
  have s3:=Int.mul_neg_of_pos_of_neg hA (show q.y-v.y*q.d<0 by omega)
  have s4:=mnn hB (show p.y-v.y*p.d<=0 by omega)
  have hD:0<=D:=nnl hv (by rw[Int.neg_mul]at j2;omega)
  have s6:=Int.mul_pos hA hq;have s7:=mnp hB (show 0<=p.d by omega)
  exact hm (m1 (by omega) hB hD (by omega) (by omega))
 ·intro hB;refine Classical.byContradiction fun hn=> ?_
  have hA:A<=0:=by omega
  have s1:=mnp hA (show 0<=q.y-u.y*q.d by omega)
  have s2:=mpp (show 0<=B by omega) (show 0<=p.y-u.y*p.d by omega)
  have hC:0<=C:=nnl hv (by rw[Int.neg_mul]at j1;omega)
  have s3:=mnn hA (show q.y-v.y*q.d<=0 by omega)
  have s4:=Int.mul_neg_of_pos_of_neg hB (show p.y-v.y*p.d<0 by omega)
  have hD:0<= -D:=nnl hv (by omega)
  have s6:=Int.mul_pos hB hp;have s7:=mnp hA (show 0<=q.d by omega)
  exact hm (m2 hA (by omega) (by omega) hC (by omega))
theorem Xl{r:P3}(hr:0<r.d)(h0:ev (lin u v) r=0)(h:dn r u≠dn r v):∃x y k:Int,0<=x/\0<=y/\0<x+y/\0<=k/\cmb x (pt u) y (pt v)=⟨k*r.x,k*r.y,k*r.d⟩:=by
 unfold dn at h;have hk:∀{a b:Int},a*r.d<b*r.d->0<=b-a:=fun{a b} g=>by
  have:=nnl (a:=b-a) hr (by rw[Int.sub_mul];omega);exact this
 unfold ev lin at h0;by_cases h1:u.y*r.d<=r.y<;>by_cases h2:v.y*r.d<=r.y
 ·simp[h1,h2]at h
 ·refine⟨v.y*r.d-r.y,r.y-u.y*r.d,v.y-u.y,by omega,by omega,by omega,hk (by omega),?_⟩
  unfold cmb pt;simp only[P3.mk.injEq];refine⟨?_,?_,?_⟩<;>grind
 ·refine⟨r.y-v.y*r.d,u.y*r.d-r.y,u.y-v.y,by omega,by omega,by omega,hk (by omega),?_⟩
  unfold cmb pt;simp only[P3.mk.injEq];refine⟨?_,?_,?_⟩<;>grind
 ·simp[h1,h2]at h
theorem aCK(hp:0<p.d)(hq:0<q.d)(hy:p.y*q.d<=q.y*p.d)(hm:¬iO ⟨u,v⟩ p q):(hit p ⟨u,v⟩ !=hit q ⟨u,v⟩)=(rgt p q u !=rgt p q v):=by
 have mono:∀w:V,dn p w=true->dn q w=true:=fun w h=>by
  unfold dn at h|-;rw[decide_eq_true_eq]at h|-;have h1:=Int.mul_le_mul_of_nonneg_right h (show 0<=q.d by omega)
  have h2:(w.y*q.d)*p.d<=q.y*p.d:=by rw[show w.y*q.d*p.d=w.y*p.d*q.d by grind];omega
  exact Int.le_of_mul_le_mul_right h2 hp
 have hm':¬iO ⟨v,u⟩ p q:=fun h=>hm h.swap
 have dT:∀{r:P3} {w:V},dn r w=true->w.y*r.d<=r.y:=fun h=>of_decide_eq_true h
 have dF:∀{r:P3} {w:V},dn r w=false->r.y<w.y*r.d:=fun h=>Int.not_le.1 (of_decide_eq_false h)
 have sw:∀r:P3,(0<ev (lin v u) r↔ev (lin u v) r<0):=fun r=>by rw[lO];omega
 have nz:∀r:P3,(r=p\/r=q)->dn r u≠dn r v->ev (lin u v) r≠0:=fun r hr hne h0=>by
  obtain⟨x,y,k,h1,h2,h3,h4,h5⟩:=Xl (by rcases hr with rfl|rfl<;>assumption) h0 hne
  rcases hr with rfl|rfl
  ·exact hm ⟨x,y,k,0,h1,h2,h3,h4,Int.le_refl _,by rw[h5];unfold cmb;simp⟩
  ·exact hm ⟨x,y,0,k,h1,h2,h3,Int.le_refl _,h4,by rw[h5];unfold cmb;simp⟩
 unfold hit rgt;dsimp only;cases a:dn p u<;>cases b:dn p v<;>cases c:dn q u<;>cases d:dn q v<;>simp only[Bool.and_true,Bool.and_false,Bool.true_and,Bool.false_and,bne_self_eq_false,Bool.not_true,Bool.not_false,Bool.false_bne,Bool.bne_false,Bool.bne_true];all_goals have np:=nz p (.inl rfl)
 all_goals have nq:=nz q (.inr rfl)
 all_goals rw[a,b]at np
 all_goals rw[c,d]at nq
 all_goals have sp:=sw p
 all_goals have sq:=sw q
 case false.false.false.true=>
  have h:=aKQ hp hq hm' (dF b) (dF a) (dT d) (dF c);have nq:=nq (by simp)
  by_cases x:0<ev (lin u v) q<;>by_cases y:ev (ln p q) (pt v)<0<;>simp[x,y] <;>omega
 case false.false.true.false=>
  have h:=aKQ hp hq hm (dF a) (dF b) (dT c) (dF d);by_cases x:0<ev (lin u v) q<;>by_cases y:ev (ln p q) (pt u)<0<;>simp[x,y] <;>omega
 case false.false.true.true=>
  have h:=mid hp hq hm (dF a) (dF b) (dT c) (dT d);have h':=mid hp hq hm' (dF b) (dF a) (dT d) (dT c);by_cases x:ev (ln p q) (pt u)<0<;>by_cases y:ev (ln p q) (pt v)<0<;>simp[x,y] <;>omega
 case false.true.false.true=>
  have h:=aIU hp hq hm' (dT b) (dF a) (dT d) (dF c);have np:=np (by simp)
  have nq:=nq (by simp)
  by_cases x:0<ev (lin u v) p<;>by_cases y:0<ev (lin u v) q<;>simp[x,y] <;>omega
 case true.false.true.false=>
  have h:=aIU hp hq hm (dT a) (dF b) (dT c) (dF d);by_cases x:0<ev (lin u v) p<;>by_cases y:0<ev (lin u v) q<;>simp[x,y] <;>omega
 case false.true.true.true=>
  have h:=low hp hq hm' (dT b) (dF a) (dT d) (dT c);have np:=np (by simp)
  by_cases x:0<ev (lin u v) p<;>by_cases y:ev (ln p q) (pt u)<0<;>simp[x,y] <;>omega
 case true.false.true.true=>
  have h:=low hp hq hm (dT a) (dF b) (dT c) (dT d);by_cases x:0<ev (lin u v) p<;>by_cases y:ev (ln p q) (pt v)<0<;>simp[x,y] <;>omega
 case false.true.false.false=>have:=mono v b;rw[d]at this;cases this
 case false.true.true.false=>have:=mono v b;rw[d]at this;cases this
 case true.false.false.false=>have:=mono u a;rw[c]at this;cases this
 case true.false.false.true=>have:=mono u a;rw[c]at this;cases this
 case true.true.false.true=>have:=mono u a;rw[c]at this;cases this
 case true.true.true.false=>have:=mono v b;rw[d]at this;cases this
theorem Ka{e:S}(hp:0<p.d)(hq:0<q.d)(hy:p.y*q.d<=q.y*p.d)(hm:¬iO e p q):(hit p e !=hit q e)=(rgt p q e.a !=rgt p q e.b):=aCK hp hq hy hm
end
def dV(r:aC)(p:P3):Bool:=fD ((edges r).map (hit p))
theorem vG(f g:S->Bool):∀l:List S,fD (l.map fun e=>f e !=g e)=(fD (l.map f) !=fD (l.map g))
 |[] =>rfl
 |e::l=>by
  show((f e !=g e) !=fD (l.map fun e=>f e !=g e))=((f e !=fD (l.map f)) !=(g e !=fD (l.map g)))
  rw[vG f g l];cases f e<;>cases g e<;>cases fD (l.map f)<;>cases fD (l.map g)<;>rfl
theorem pQ{r:aC}(h2:2<=r.length){p q:P3}(hp:0<p.d)(hq:0<q.d)(hm:∀e∈edges r,¬iO e p q):dV r p=dV r q:=by
 have key:∀{p q:P3},0<p.d->0<q.d->p.y*q.d<=q.y*p.d->(∀e∈edges r,¬iO e p q)->dV r p=dV r q:=by
  intro p q hp hq hy hm;have h1:fD ((edges r).map fun e=>hit p e !=hit q e)=fD ((edges r).map fun e=>rgt p q e.a !=rgt p q e.b):=by
   congr 1
   apply List.map_congr_left;intro e he;exact Ka hp hq hy (hm e he)
  rw[vG,vG,Ec h2]at h1;unfold dV;generalize fD ((edges r).map (hit p))=x at*;generalize fD ((edges r).map (hit q))=y at*;cases x<;>cases y<;>simp at h1|-
 rcases Int.le_total (p.y*q.d) (q.y*p.d)with h|h
 ·exact key hp hq h hm
 ·exact(key hq hp h fun e he hm2=>hm e he hm2.flip).symm
theorem Pm(p:Pt):∀(l:List S) (ins:Bool),Kp p l ins=(ins !=fD (l.map fun e=>gW e p))
 |[],ins=>by cases ins<;>rfl
 |e::l,ins=>by
  show Kp p l (ins !=gW e p)=(ins !=(gW e p !=fD (l.map fun e=>gW e p)))
  rw[Pm p l];cases ins<;>cases gW e p<;>cases fD (l.map fun e=>gW e p)<;>rfl
theorem Wz{p:Pt}:∀{l:List S} {ins:Bool},(∀e∈l,onP e p=false)->eQ p l ins=if Kp p l ins then 2 else 0
 |[],ins,_=>rfl
 |e::l,ins,h=>by
  unfold eQ;rw[h e List.mem_cons_self];exact Wz (l:=l) (ins:=ins !=gW e p) fun e he=>h e (List.mem_cons_of_mem _ he)
def p3(p:Pt):P3:=⟨p.x,p.y,p.den⟩
theorem mA{r:aC}(hv:VR r){p:Pt}(hp:cF p=true)(ho:∀e∈edges r,onP e p=false):aP r p=if dV r (p3 p)then 2 else 0:=by
 unfold aP;rw[(cL _).2 hv,hp];show eQ p (edges r) false=_;rw[Wz ho,Pm];unfold dV p3;simp only[aCM,Bool.false_bne]
end Go.Proofs.YtdaeofhdgabhjaaGreat.Geo
