/- Part 6 of what the statement stands on -/
import Derived.Test.YtdnhebjljnfjaaaGreatOC5
set_option linter.all false
set_option maxRecDepth 100000
set_option maxHeartbeats 8000000
open Go.Proofs.Tryz renaming prog->aH
open List renaming mem_cons->bh,not_mem_nil->dP,set->cY,getElem_mem->du
open Bool renaming and_eq_true->cB
open Int renaming tdiv->bg,tmod->dI
open Nat renaming zero_le->ce
open Go.RowKit
open Go.Proofs.YtdnhebjljnfjaaaGreat.Geo
namespace Go.Proofs.YtdnhebjljnfjaaaGreat
noncomputable section
def awX:Cx:=cxW wu
def JE:awX.Ok:=qJ (λf c h=>by cases h)
abbrev awG(l:List (Nat×EC)):d6:=wo awX (wQ l) (wW aH) 100 9
def awR(l:List (Nat×EC))(f:Nat)(a:List SV):Option SV:=tm awX (awG l) (wW aH) 100 f a
def qz(l:List (Nat×EC)):Prop:=∀q∈l,q.2.c.Ok aH q.1
def qz.cons{l:List (Nat×EC)}{f:Nat}{e:EC}(h:e.c.Ok aH f)(hl:qz l):qz ((f,e)::l):=λq hq=>by
 rcases bh.1 hq with rfl|hq
 .exact h
 .exact hl q hq
def kr{l:List (Nat×EC)}(hl:qz l){f:Nat}{α:Type}{A:Arl α}(x0:α){t:α->Bool}{v:SV}(ht:∀x,t x=true->x=x0)(hv:isP v=true)(h:awR l f (A.enc x0)=some v):(EC.at A.dec t false v).c.Ok aH f:=
 X7 JE (GP JE (Ey hl) (FR _) 9) (FR _) x0 ht hv h
def awQ(n d:Int):SV:= .agg [.int .i64 n,.int .i64 d]
def awK(v:SV):SV:= .tup [v,.int .i64 0]
def MH:EC:=EC.at (a1 aPl).dec (λp=>decide (p=awP)) false (.lit true)
def WF:MH.c.Ok aH 70:=kr (l:=[]) (λq hq=>by cases hq) awP (λx h=>of_decide_eq_true h) rfl (by kernel_rfl)
def xQ:Arl (Int×Int×Unit):=ac aI (ac aI a0)
def uB(a b:Int)(x:Int×Int×Unit):Bool:=decide (x.1=a)&&decide (x.2.1=b)
def AU{a b:Int}(x:Int×Int×Unit)(h:uB a b x=true):x=(a,b,()):=by obtain⟨c,d,u⟩:=x;unfold uB at h;simp only[cB,decide_eq_true_eq]at h;obtain⟨rfl,rfl⟩:=h;rfl
def Z1:awR [] 142 (xQ.enc (0,2,()))=some (awK (awQ 0 1)):=by kernel_rfl
def Z0:awR [] 142 (xQ.enc (-4,-2,()))=some (awK (awQ 2 1)):=by kernel_rfl
def Zz:awR [] 142 (xQ.enc (0,-2,()))=some (awK (awQ 0 1)):=by kernel_rfl
def JG:EC:=EC.pts xQ.dec [(uB 0 2,awK (awQ 0 1)),(uB (-4) (-2),awK (awQ 2 1)),(uB 0 (-2),awK (awQ 0 1))]
def Ub:JG.c.Ok aH 142:=X9 λq hq=>by
 simp only[bh,dP,or_false]at hq;rcases hq with rfl|rfl|rfl
 .exact kr (l:=[]) (λq hq=>by cases hq) (0,2,()) AU rfl Z1
 .exact kr (l:=[]) (λq hq=>by cases hq) (-4,-2,()) AU rfl Z0
 .exact kr (l:=[]) (λq hq=>by cases hq) (0,-2,()) AU rfl Zz
def MJ:EC:=EC.at (a1 (aL .V)).dec (λl=>decide (l=[⟨0,1⟩,⟨0,1⟩,⟨2,1⟩,⟨0,1⟩,⟨0,1⟩,⟨0,1⟩])) false (awK (awQ 2 1))
def WH:MJ.c.Ok aH 28:=kr (l:=[]) (λq hq=>by cases hq) [⟨0,1⟩,⟨0,1⟩,⟨2,1⟩,⟨0,1⟩,⟨0,1⟩,⟨0,1⟩] (λx h=>of_decide_eq_true h) rfl (by kernel_rfl)
def awB:List (Nat×EC):=[(70,MH),(142,JG),(28,MJ),(92,MG),(97,ME),(163,JF)]
def wL:qz awB:= .cons WF (.cons Ub (.cons WH (.cons WE (.cons WD (.cons Ua λq hq=>by cases hq)))))
def QQ:Arl (Pl×Int×Unit):=ac aPl (ac aI a0)
def xP(n:Int)(x:Pl×Int×Unit):Bool:=decide (x.1=awP)&&decide (x.2.1=n)
def Hi{n:Int}(x:Pl×Int×Unit)(h:xP n x=true):x=(awP,n,()):=by obtain⟨c,d,u⟩:=x;unfold xP at h;simp only[cB,decide_eq_true_eq]at h;obtain⟨rfl,rfl⟩:=h;rfl
def MK:EC:=EC.at QQ.dec (xP 1) false (awK (awQ 2 1))
def WI:MK.c.Ok aH 27:=kr wL (awP,1,()) Hi rfl (by kernel_rfl)
def MI:EC:=EC.at QQ.dec (xP 1) false (awK (.agg [.lst .V awS.outer,.sl 0 []]))
def WG:MI.c.Ok aH 30:=kr wL (awP,1,()) Hi rfl (by kernel_rfl)
def aBT:Arl (Pl×V×Unit):=ac aPl (ac aV a0)
def ML:EC:=EC.at aBT.dec (λx=>decide (x.1=awP)&&decide (x.2.1=⟨1,1⟩)) false (.tup [.int .i64 1,.int .i64 2])
def WJ:ML.c.Ok aH 22:=kr wL (awP,⟨1,1⟩,()) (λx h=>by obtain⟨c,d,u⟩:=x;simp only[cB,decide_eq_true_eq]at h;obtain⟨rfl,rfl⟩:=h;rfl) rfl (by kernel_rfl)
def aBU:Arl (Pl×Pl×Unit):=ac aPl (ac aPl a0)
def MM:EC:=EC.at aBU.dec (λx=>decide (x.1=awP)&&decide (x.2.1=awP)) false (.lit true)
def WK:MM.c.Ok aH 17:=kr wL (awP,awP,()) (λx h=>by obtain⟨c,d,u⟩:=x;simp only[cB,decide_eq_true_eq]at h;obtain⟨rfl,rfl⟩:=h;rfl) rfl (by kernel_rfl)
def awC:List (Nat×EC):=[(13,MN),(27,MK),(30,MI),(22,ML),(17,MM)]
def Yo:qz awC:= .cons WL (.cons WI (.cons WG (.cons WJ (.cons WK λq hq=>by cases hq))))
def aBV:awR awC 11 [] =some (.lit true):=by kernel_rfl
def QD:Con:=con a0 (λ_=>[]) (λ_=> .bool true)
def aBE:QD.Ok aH 11:=by
 intro xs u hd _;have e:=kr Yo (f:=11) (A:=a0) () (t:=λ_=>true) (λ_ _=>rfl) rfl aBV xs () (by have:a0.dec xs=some u:=hd;unfold EC.at;dsimp only;rw[this]) (λp hp=>(dP hp).elim)
 exact e
end
noncomputable def aAn:Tab:=aq [(11,QD),(13,P3)] Nf
def Y8:aAn.Ok aH:=au Y4 ⟨aBE,Od,trivial⟩
noncomputable def c5q:Con:=con (a1 (aL .S)) (λ_=>[]) (λ_=> .bool true)
def k5q:c5q.Ok aH 5:=bA (qJ Y8) (raw:=aw) (λl=>[lp 11 43 (aU l).fs.length (λ_=>[]) [] (λ_=>[]) (λi=>[(24,.row 3 .I (snL (aU l) (snA (aU l) i)))]) λi=>
  [lp 14 51 (ag (aU l).fs i).length (λ_=>[]) [] (λ_=>[]) (λj=>[(24,.row 3 .I (snL (aU l) (snB (aU l) i j)))]) λj=>
  [lp 17 57 (aJ (ag (aU l).fs i) j).length (λ_=>[]) [] (λ_=>[]) (λk=>[(24,.row 3 .I (snL (aU l) (snC (aU l) i j k)))]) λk=>[]]],
  cnt 36 141 (2*(aU l).es.length) (λ_=>True)]) (λ_=>⟨_,rfl⟩) λl _=>az (q:=((!true)=true->false=true)/\
 ((!true)=false->((!decide (l.length<=24))=true->true=true)/\
  ((!decide (l.length<=24))=false->l.length<=1000/\(eV l=0->BdOk l)/\(¬eV l=0->true=true)/\
   (¬(¬eV l=0)->(aU l).es.length<=1000000/\(aU l).fs.length<=1000000/\aG (2*((aU l).es.length:Int))/\0<=2*((aU l).es.length:Int)/\2*((aU l).es.length:Int)=2*(aU l).es.length/\2*((aU l).es.length:Int)<=1000000/\2*(aU l).es.length*8<=1000000000/\(0=(0:Int)/\List.replicate (2*(aU l).es.length) 0=snL (aU l) (snA (aU l) 0)/\(0:Nat)<=(aU l).fs.length)/\
    (∀x:Nat,x<=(aU l).fs.length->((x:Int)<(aU l).fs.length->ix (x:Int) (aU l).fs.length/\(0=(0:Int)/\snL (aU l) (snA (aU l) x)=snL (aU l) (snB (aU l) x 0)/\(0:Nat)<=(ag (aU l).fs x).length)/\
      (∀x_1:Nat,x_1<=(ag (aU l).fs x).length->((x_1:Int)<(ag (aU l).fs x).length->ix (x_1:Int) (ag (aU l).fs x).length/\(0=(0:Int)/\snL (aU l) (snB (aU l) x x_1)=snL (aU l) (snC (aU l) x x_1 0)/\(0:Nat)<=(aJ (ag (aU l).fs x) x_1).length)/\
        (∀x_2:Nat,x_2<=(aJ (ag (aU l).fs x) x_1).length->((x_2:Int)<(aJ (ag (aU l).fs x) x_1).length->ix (x_2:Int) (aJ (ag (aU l).fs x) x_1).length/\(aK (aJ (ag (aU l).fs x) x_1) x_2<0->false=true)/\
          (¬aK (aJ (ag (aU l).fs x) x_1) x_2<0->(((2*(aU l).es.length:Nat):Int)<=aK (aJ (ag (aU l).fs x) x_1) x_2->false=true)/\
           (¬((2*(aU l).es.length:Nat):Int)<=aK (aJ (ag (aU l).fs x) x_1) x_2->ix 0 (aJ (ag (aU l).fs x) x_1).length/\(aK (aJ (ag (aU l).fs x) x_1) x_2<aK (aJ (ag (aU l).fs x) x_1) 0->false=true)/\
            (¬aK (aJ (ag (aU l).fs x) x_1) x_2<aK (aJ (ag (aU l).fs x) x_1) 0->ix (aK (aJ (ag (aU l).fs x) x_1) x_2) (2*(aU l).es.length)/\(aK (aJ (ag (aU l).fs x) x_1) x_2).toNat<(snL (aU l) (snC (aU l) x x_1 x_2)).length/\aG (aK (snL (aU l) (snC (aU l) x x_1 x_2)) (aK (aJ (ag (aU l).fs x) x_1) x_2).toNat+1)/\ix (aK (aJ (ag (aU l).fs x) x_1) x_2) (2*(aU l).es.length)/\(aK (aJ (ag (aU l).fs x) x_1) x_2).toNat<(snL (aU l) (snC (aU l) x x_1 x_2)).length/\aG ((x_2:Int)+1)/\((aJ (ag (aU l).fs x) x_1).length:Int)≠0/\ix (((x_2+1) % (aJ (ag (aU l).fs x) x_1).length:Nat):Int) (aJ (ag (aU l).fs x) x_1).length/\(aK (aJ (ag (aU l).fs x) x_1) ((x_2+1) % (aJ (ag (aU l).fs x) x_1).length)<0->false=true)/\
             (¬aK (aJ (ag (aU l).fs x) x_1) ((x_2+1) % (aJ (ag (aU l).fs x) x_1).length)<0->(((2*(aU l).es.length:Nat):Int)<=aK (aJ (ag (aU l).fs x) x_1) ((x_2+1) % (aJ (ag (aU l).fs x) x_1).length)->false=true)/\
              (¬((2*(aU l).es.length:Nat):Int)<=aK (aJ (ag (aU l).fs x) x_1) ((x_2+1) % (aJ (ag (aU l).fs x) x_1).length)->HIn (aU l) (aK (aJ (ag (aU l).fs x) x_1) x_2)/\(aU l).es.length<=1000000/\HIn (aU l) (aK (aJ (ag (aU l).fs x) x_1) ((x_2+1) % (aJ (ag (aU l).fs x) x_1).length))/\(aU l).es.length<=1000000/\(2:Int)≠0/\aG (bg (aK (aJ (ag (aU l).fs x) x_1) x_2) 2)/\ix (bg (aK (aJ (ag (aU l).fs x) x_1) x_2) 2) (aU l).es.length/\(2:Int)≠0/\(dI (aK (aJ (ag (aU l).fs x) x_1) x_2) 2=1->(2:Int)≠0/\aG (bg (aK (aJ (ag (aU l).fs x) x_1) x_2) 2)/\ix (bg (aK (aJ (ag (aU l).fs x) x_1) x_2) 2) (aU l).es.length/\(¬(eA (aU l) (aK (aJ (ag (aU l).fs x) x_1) x_2)).2=(eA (aU l) (aK (aJ (ag (aU l).fs x) x_1) ((x_2+1) % (aJ (ag (aU l).fs x) x_1).length))).1->false=true)/\
                (¬(¬(eA (aU l) (aK (aJ (ag (aU l).fs x) x_1) x_2)).2=(eA (aU l) (aK (aJ (ag (aU l).fs x) x_1) ((x_2+1) % (aJ (ag (aU l).fs x) x_1).length))).1)->(¬(aX (aU l).es (bg (aK (aJ (ag (aU l).fs x) x_1) x_2) 2).toNat).rt=x->false=true)/\
                 (¬(¬(aX (aU l).es (bg (aK (aJ (ag (aU l).fs x) x_1) x_2) 2).toNat).rt=x)->aG ((x_2:Int)+1)/\(x_2:Int)+1=((x_2+1:Nat):Int)/\cY (snL (aU l) (snC (aU l) x x_1 x_2)) (aK (aJ (ag (aU l).fs x) x_1) x_2).toNat (aK (snL (aU l) (snC (aU l) x x_1 x_2)) (aK (aJ (ag (aU l).fs x) x_1) x_2).toNat+1)=snL (aU l) (snC (aU l) x x_1 (x_2+1))/\x_2+1<=(aJ (ag (aU l).fs x) x_1).length/\(aJ (ag (aU l).fs x) x_1).length-(x_2+1)<(aJ (ag (aU l).fs x) x_1).length-x_2)))/\
               (¬dI (aK (aJ (ag (aU l).fs x) x_1) x_2) 2=1->(¬(eA (aU l) (aK (aJ (ag (aU l).fs x) x_1) x_2)).2=(eA (aU l) (aK (aJ (ag (aU l).fs x) x_1) ((x_2+1) % (aJ (ag (aU l).fs x) x_1).length))).1->false=true)/\
                (¬(¬(eA (aU l) (aK (aJ (ag (aU l).fs x) x_1) x_2)).2=(eA (aU l) (aK (aJ (ag (aU l).fs x) x_1) ((x_2+1) % (aJ (ag (aU l).fs x) x_1).length))).1)->(¬(aX (aU l).es (bg (aK (aJ (ag (aU l).fs x) x_1) x_2) 2).toNat).lf=x->false=true)/\
                 (¬(¬(aX (aU l).es (bg (aK (aJ (ag (aU l).fs x) x_1) x_2) 2).toNat).lf=x)->aG ((x_2:Int)+1)/\(x_2:Int)+1=((x_2+1:Nat):Int)/\cY (snL (aU l) (snC (aU l) x x_1 x_2)) (aK (aJ (ag (aU l).fs x) x_1) x_2).toNat (aK (snL (aU l) (snC (aU l) x x_1 x_2)) (aK (aJ (ag (aU l).fs x) x_1) x_2).toNat+1)=snL (aU l) (snC (aU l) x x_1 (x_2+1))/\x_2+1<=(aJ (ag (aU l).fs x) x_1).length/\(aJ (ag (aU l).fs x) x_1).length-(x_2+1)<(aJ (ag (aU l).fs x) x_1).length-x_2)))))))))/\
         (¬(x_2:Int)<(aJ (ag (aU l).fs x) x_1).length->aG ((x_1:Int)+1)/\(x_1:Int)+1=((x_1+1:Nat):Int)/\snL (aU l) (snC (aU l) x x_1 x_2)=snL (aU l) (snB (aU l) x (x_1+1))/\x_1+1<=(ag (aU l).fs x).length/\(ag (aU l).fs x).length-(x_1+1)<(ag (aU l).fs x).length-x_1)))/\
       (¬(x_1:Int)<(ag (aU l).fs x).length->aG ((x:Int)+1)/\(x:Int)+1=((x+1:Nat):Int)/\snL (aU l) (snB (aU l) x x_1)=snL (aU l) (snA (aU l) (x+1))/\x+1<=(aU l).fs.length/\(aU l).fs.length-(x+1)<(aU l).fs.length-x)))/\
     (¬(x:Int)<(aU l).fs.length->(0=(0:Int)/\(0:Nat)<=2*(aU l).es.length/\True)/\
      (∀x_1:Nat,x_1<=2*(aU l).es.length/\True->((x_1:Int)<((2*(aU l).es.length:Nat):Int)->ix (x_1:Int) (2*(aU l).es.length)/\x_1<(snL (aU l) (snA (aU l) x)).length/\(¬aK (snL (aU l) (snA (aU l) x)) x_1=1->false=true)/\
        (¬(¬aK (snL (aU l) (snA (aU l) x)) x_1=1)->aG ((x_1:Int)+1)/\(x_1:Int)+1=((x_1+1:Nat):Int)/\x_1+1<=2*(aU l).es.length/\True/\2*(aU l).es.length-(x_1+1)<2*(aU l).es.length-x_1))/\
       (¬(x_1:Int)<((2*(aU l).es.length:Nat):Int)->true=true)))))))) (by kernel_rfl) (by
  have key:l.length<=24->eV l=0->CyL (aU l):=λh1 h2=>by have B:=AT (by omega) h2;have e:aU l=eR (aA l):=if_pos h2;rw[e];exact Yf B (IK h2)
  refine⟨λh=>h,λ_=>⟨λ_=>rfl,λhl=> ?_⟩⟩;have hl:l.length<=24:=by simpa using hl
  refine⟨by omega,λh=>AT (by omega) h,λ_=>rfl,λh0=> ?_⟩;have C:=key hl (Decidable.not_not.1 h0);clear key h0;generalize aU l=p at*;have P:=C.s.ok;have hE:=P.le;have hF:=C.s.f.lf;refine⟨by omega,by omega,by unfold aG;omega,by omega,by omega,by omega,by omega,⟨rfl,V2 _,ce _⟩,λi hi=>⟨λhlt=>⟨by unfold ix;omega,⟨rfl,by rw[Ux],ce _⟩,λj hj=>⟨λhlt2=>⟨by unfold ix;omega,⟨rfl,by rw[Uv],ce _⟩,λk hk=>⟨λhlt3=> ?_,λhge3=> ?_⟩⟩,λhge2=> ?_⟩⟩,λhge=>⟨⟨rfl,ce _,trivial⟩,λh hh=>⟨λhlt2=> ?_,λ_=>rfl⟩⟩⟩⟩
  .have hi:i<p.fs.length:=by omega
   have hj:j<(ag p.fs i).length:=by omega
   have hk:k<(aJ (ag p.fs i) j).length:=by omega
   have hfi:ag p.fs i∈p.fs:=by rw[show ag p.fs i=p.fs[i]from cE hi];exact du hi
   have hcj:aJ (ag p.fs i) j∈ag p.fs i:=oH hj;have F1:=C.s.f.fc _ hfi;have F2:=F1.2 _ hcj;have hex:∃f∈p.fs,aJ (ag p.fs i) j∈f:=⟨_,hfi,hcj⟩;have hn:(k+1) % (aJ (ag p.fs i) j).length<(aJ (ag p.fs i) j).length:=Nat.mod_lt _ (by omega);have L1:=C.low _ _ hex (iB hk);have N1:=C.nx _ k hex hk;have S1:=C.side i _ _ hcj (iB hk);have H1:=F2.2 _ (iB hk);have H2:=F2.2 _ (iB hn);have cnt:=Xz (k:=k) hi hj (aK (aJ (ag p.fs i) j) k);rw[C.once _ H1]at cnt;have su:=Uw (p:=p) (i:=i) (j:=j) (k:=k) hk;have hcl:=F2.1;generalize aK (aJ (ag p.fs i) j) ((k+1) % (aJ (ag p.fs i) j).length)=n at*;generalize aK (aJ (ag p.fs i) j) 0=c0 at*;generalize aK (aJ (ag p.fs i) j) k=h at*;have e1:=H1.1;have e2:=H1.2;have e3:=H2.1;have e4:=H2.2;have He:=H1.e;have hat:aK (snL p (snC p i j k)) h.toNat=((snC p i j k).count h:Nat):=by unfold snL;rw[AM (by omega),Int.toNat_of_nonneg e1]
   have hst:(snL p (snC p i j k)).set h.toNat (aK (snL p (snC p i j k)) h.toNat+1)=snL p (snC p i j (k+1)):=by rw[<-su];exact UL e1 (by omega)
   have hll:(snL p (snC p i j k)).length=2*p.es.length:=F8 _ _;unfold qq at S1;refine⟨by unfold ix;omega,λh=>by omega,λ_=>⟨λh=>by omega,λ_=>⟨by unfold ix;omega,λh=>by omega,λ_=>⟨by unfold ix;omega,by omega,by rw[hat];unfold aG;omega,by unfold ix;omega,by omega,by unfold aG;omega,by omega,by unfold ix;omega,λh=>by omega,λ_=>⟨λh=>by omega,λ_=>⟨H1,by omega,H2,by omega,by decide,by unfold aG;omega,by unfold ix;omega,by decide,λhm=> ?_,λhm=> ?_⟩⟩⟩⟩⟩⟩
   .rw[if_neg (by omega)]at S1;exact⟨by decide,by unfold aG;omega,by unfold ix;omega,λh=>(h N1).elim,λ_=>⟨λh=>(h S1).elim,λ_=>⟨by unfold aG;omega,by omega,hst,by omega,by omega⟩⟩⟩
   .have hm2:dI h 2=0:=by rw[Int.tmod_eq_emod_of_nonneg e1]at*;omega
    rw[if_pos hm2]at S1;exact⟨λh=>(h N1).elim,λ_=>⟨λh=>(h S1).elim,λ_=>⟨by unfold aG;omega,by omega,hst,by omega,by omega⟩⟩⟩
  .have hj:j<(ag p.fs i).length:=by omega
   obtain rfl:k=(aJ (ag p.fs i) j).length:=by omega
   have hfi:ag p.fs i∈p.fs:=by rw[show ag p.fs i=p.fs[i]'(by omega)from cE (by omega)];exact du _
   have F1:=C.s.f.fc _ hfi;exact⟨by unfold aG;omega,by omega,by rw[GW hj],by omega,by omega⟩
  .obtain rfl:j=(ag p.fs i).length:=by omega
   exact⟨by unfold aG;omega,by omega,by rw[GX (by omega)],by omega,by omega⟩
  .obtain rfl:i=p.fs.length:=by omega
   have hh:h<2*p.es.length:=by omega
   have e:aK (snL p (snA p p.fs.length)) h=1:=by unfold snL;rw[AM hh,WZ,C.once h ⟨by omega,by omega⟩];rfl
   exact⟨by unfold ix;omega,by rw[show(snL p (snA p p.fs.length)).length=2*p.es.length from F8 _ _];exact hh,λh=>(h e).elim,λ_=>⟨by unfold aG;omega,by omega,by omega,trivial,by omega⟩⟩)
end Go.Proofs.YtdnhebjljnfjaaaGreat
