/- What the statement stands on: contracts of functions, plain laws. Part 6 of 7, no condition of its own. (K32 K33 K34 Q0 K37 K38 K39 R2 R3 R4 R5 R6 R7 R8 R9 R10 R11 R12 R13 R15 R17 R18 M5 R20 K43 K49) -/
import Derived.Test.YthbofdolalagjaaGreatCS5
import Derived.Test.YthbofdolalagjaaGreatRows
import Derived.ProofKit
import Derived.Carry
import Derived.SizedLaws
import Derived.Deep.SlicePairs
import Derived.Lib.SmallJoins
set_option linter.all false
set_option maxRecDepth 100000
set_option maxHeartbeats 8000000
open Go.IntKind renaming i64->jV,wrap->zo
open List renaming range->bM,all_eq_true->bh,mem_range->cD,all_eq_false->ug,all->mf,any->fh,mem_flatMap->dG,take_succ_eq_append_getElem->mc,map_append->dM,take->aU,length_take->mX,any_eq_true->jd,length_cons->iE,mem_cons_of_mem->cG,range_succ->q8,filter_append->rB,length_append->fM,length_range->Iq,not_mem_nil->cq,mem_singleton->bn,cons.injEq->qA,length_map->di,getElem_map->kJ,getElem_range->sf,mem_append->bl,mem_map->bR,mem_cons->bI,map_cons->dX,replicate->cl,mem_cons_self->cI,flatten_cons->mT,map_map->dU,map_congr_left->mU,getD_eq_getElem?_getD->eI,take_length->si,Pairwise.imp->Iv,pairwise_map->km,Pairwise.imp_of_mem->JG,length_replicate->ze,mem_flatten->lu,mem_append_left->ig,mem_append_right->gq,append_assoc->jt,getElem_mem->nR,mem_iff_getElem->jT,length_singleton->uP,append_nil->ww,mem_filter->fG
open Bool renaming eq_iff_iff->fL,and_eq_true->bj,false_or->Dk,or_eq_true->jQ,not_eq_true'->zP,eq_false_iff->pu
open Nat renaming mod_lt->bz,le_antisymm->ui,le_refl->bZ,lt_or_ge->oZ,zero_add->kN,add_mod_right->pk,mod_add_mod->lP,mod_eq_of_lt->dh,zero_le->kK,le_trans->cL,mod_self->kj,mul_le_mul->nP
open And renaming intro->br
open Int renaming tmod->cZ,toNat_natCast->jf
open Go.Proofs.Tryz renaming prog->bH,underlying23->TN,underlying3->xF,underlying24->Dh,underlying26->TP
open Go.DataW renaming weights->mg,weightsEach->TQ
open Go.Addr renaming add->DW,add_mid->w9
open Go.World renaming cell?_spot->JH
open Go.RowKit
open Go.Proofs.YthbofdolalagjaaGreat.Geo
open Go.Proofs.YthbofdolalagjaaGreat.Geo renaming fE->aFK,sub->aFJ,nth->aFG,S->aFI,cv->aFP,V->aFH,Fan->aFQ,Faces->aFR,Tab->aFM
namespace Go.Proofs.YthbofdolalagjaaGreat
def qt(a b:V):V:=⟨jV.wrap (a.x-b.x),jV.wrap (a.y-b.y)⟩
def vp(a b:V):Int:=jV.wrap (jV.wrap (a.x*b.y)-jV.wrap (a.y*b.x))
def tv(a b c:V):Int:=aFK (vp (qt b a) (qt c a)) 0
def N7{a b:V}(ha:bd 1000000000 a)(hb:bd 1000000000 b):qt a b=aFJ a b:=by unfold bd at ha hb;unfold qt aFJ;rw[uw (bV (by omega)),uw (bV (by omega))]
def Xc{a b:V}(ha:bd 2000000000 a)(hb:bd 2000000000 b):vp a b=cross a b:=by have:=nZ ha hb;unfold vp cross;rw[uw (x:=a.x*b.y) (bV (by omega)),uw (x:=a.y*b.x) (bV (by omega)),uw (bV (by omega))]
def X4{a b c:V}(ha:bd 1000000000 a)(hb:bd 1000000000 b)(hc:bd 1000000000 c):tv a b c=turn a b c:=by
 have e:∀n,aFK n 0=sgn n:=λn=>by unfold aFK sgn;grind
 unfold tv;rw[N7 hb ha,N7 hc ha,Xc (jD hb ha) (jD hc ha),e];rfl
noncomputable def aCu:Con:=con (ac aV (a1 aV)) (λ(_,_)=>[True]) (λ(a,b)=>aV.enc (qt a b))
def aCh:aCu.Okz 138:=vq (oO ID.o) (raw:=λ_ _=>true
 ) (λ(_,_)=>[]) (λ(_,_)=>⟨_,rfl⟩) λ(a,b) hp=>aZ (zo jV (a.x-b.x)=(qt a b).x/\zo jV (a.y-b.y)=(qt a b).y) (by kernel_rfl) (by
 change True at hp;exact⟨rfl,rfl⟩)
noncomputable def QO:=ID.adk aCh
noncomputable def aCv:Con:=con (ac aV (a1 aV)) (λ(_,_)=>[True]) (λ(a,b)=> .iqz (vp a b))
def aCi:aCv.Okz 120:=vq (oO QO.o) (raw:=λ_ _=>true
 ) (λ(_,_)=>[]) (λ(_,_)=>⟨_,rfl⟩) λ(a,b) hp=>aZ (zo jV (zo jV (a.x*b.y)-zo jV (a.y*b.x))=vp a b) (by kernel_rfl) (by
 change True at hp;rfl)
noncomputable def QP:=QO.adk aCi
noncomputable def aEg:Con:=con (ac aV (ac aV (a1 aV))) (λ(_,_,_)=>[True]) (λ(a,b,c)=> .iqz (tv a b c)
 )
def aCM:aEg.Okz 64:=ak QP (λ(_,_,_)=>[]) (λ(_,_,_)=>⟨_,rfl⟩) λ(a,b,c) hp=>aZ (True/\True/\True/\aFK (vp (qt b a) (qt c a)) 0=tv a b c) (by kernel_rfl) (by change True at hp;exact⟨trivial,trivial,trivial,rfl⟩)
noncomputable def aCD:=QP.adk aCM
def cvZ(r:aD)(i n:Nat):Bool:=decide (n=i)||(decide (n=(i+1) % r.length)||decide (0<tv (aFG r i) (aFG r ((i+1) % r.length)) (aFG r n)))
def cvR(r:aD)(i:Nat):Bool:=(bM r.length).all (cvZ r i)&&aX (aFG r i) 2000
def cvN(r:aD)(i n:Nat):Bool:=decide (n=i)||(decide (n=(i+1) % r.length)||decide (0<turn (aFG r i) (aFG r ((i+1) % r.length)) (aFG r n)))
def XA{r:aD}:(r.all λv=>aX v 2000)=(bM r.length).all λi=>aX (aFG r i) 2000:=by
 rw[fL,bh,bh];constructor
 .intro h i hi;exact h _ (dO (cD.1 hi))
 .intro h v hv;obtain⟨i,hi,rfl⟩:=eL.1 hv;grind
def Gr(r:aD):bm r=(decide (3<=r.length)&&(((bM r.length).all λi=>aX (aFG r i) 2000)&&(bM r.length).all λi=>(bM r.length).all (cvN r i))):=by
 have e:(λi=>(bM r.length).all λn=>decide (n=i)||decide (n=(i+1) % r.length)||decide (0<turn (aFG r i) (nxt r i) (aFG r n)))=λi=>(bM r.length).all (cvN r i):=by
  funext i;congr 1;funext n;exact Bool.or_assoc ..
 unfold bm;rw[XA,e]
def uz{v:V}(h:aX v 2000=true):bd 10000 v:=by unfold aX at h;simp only[bj,decide_eq_true_eq]at h;unfold bd;omega
def yM(r:aD):bm r=(decide (3<=r.length)&&(bM r.length).all (cvR r)):=by
 rw[Gr]
 congr 1
 have key:((bM r.length).all λi=>aX (aFG r i) 2000)=true->∀i n,i<r.length->n<r.length->cvZ r i n=cvN r i n:=λh i n hi hn=>by have h:=bh.1 h;have b:∀i,i<r.length->bd 1000000000 (aFG r i):=λi hi=>(uz (h i (cD.2 hi))).mono;unfold cvZ cvN;rw[X4 (b _ hi) (b _ (bz _ (by omega))) (b _ hn)]
 rw[fL];constructor
 .intro h;rw[bj]at h;refine bh.2 λi hi=> ?_;unfold cvR;grind
 .intro h;have h:=bh.1 h;have h1:((bM r.length).all λi=>aX (aFG r i) 2000)=true:=bh.2 λi hi=>by have:=h i hi;unfold cvR at this;grind
  rw[bj];refine⟨h1,bh.2 λi hi=>bh.2 λn hn=> ?_⟩;rw[<-key h1 i n (cD.1 hi) (cD.1 hn)];have:=h i hi;unfold cvR at this;grind
def vj{r:aD}(h:bm r=true)(hl:r.length<=1000):ROk r:=by have:=CR.of h;exact⟨this.len,hl,λv hv=>uz (this.near v hv)⟩
def xv{q:Nat->Bool}{n:Nat}(h:aK (λj=>q j=true) n):(bM n).all q=true:=bh.2 λi hi=>h i (cD.1 hi)
def vX{q:Nat->Bool}{n i:Nat}(hi:i<n)(h:q i=false):(bM n).all q=false:=ug.2 ⟨i,cD.2 hi,by rw[h];simp⟩
noncomputable def aFy:Con:=con (a1 (aL .V)) (λr=>[r.length<=1000]) (λr=> .bool (bm r))
def aD2:aFy.Okz 109:=ak aCD (λr=>[lp 2 10 r.length (λi=>[aK (λi=>cvR r i=true) i]) [] bX bX λi=>[cnt 6 25 r.length (aK λn=>cvZ r i n=true) λn=>[jb 9 48 (!cvZ r i n)]]]
  ) (λ_=>⟨_,rfl⟩) λr hp=>aZ (aA (0:Int) λC=>aA (r.length:Int) λG=>(0=C/\(0:Nat)<=r.length/\aK (λi=>cvR r i=true) 0)/\
 (∀x:Nat,aA (x+1) λA=>aA (x:Int) λB=>aA (aFG r x) λE=>aA ((A % r.length:Nat):Int) λI=>aA (!aX E 2000) λJ=>x<=r.length/\aK (λi=>cvR r i=true) x->(B<r.length->ix B r.length/\aH (B+1)/\G≠0/\ix I r.length/\(0=C/\(0:Nat)<=r.length/\aK (λn=>cvZ r x n=true) 0)/\
   (∀x_1:Nat,aA (x_1:Int) λD=>aA (!cvZ r x x_1) λF=>x_1<=r.length/\aK (λn=>cvZ r x n=true) x_1->(D<r.length->ix D r.length/\((¬D=x->aH (B+1)/\G≠0/\(¬D=I->True/\decide (tv E (aFG r (A % r.length)) (aFG r x_1)<=0)=F)/\
       (¬(¬D=I)->false=F))/\
      (¬(¬D=x)->false=F))/\
     (∀y:Unit,(F=true->false=bm r)/\
      (F=false->aH (D+1)/\D+1=((x_1+1:Nat):Int)/\x_1+1<=r.length/\aK (λn=>cvZ r x n=true) (x_1+1)/\r.length-(x_1+1)<r.length-x_1)))/\
    (¬D<r.length->C<=2000/\(2000:Int)<=9000000000000000000/\(J=true->false=bm r)/\
     (J=false->aH (B+1)/\B+1=((x+1:Nat):Int)/\x+1<=r.length/\aK (λi=>cvR r i=true) A/\r.length-A<r.length-x))))/\
  (¬B<r.length->decide (3<=G)=bm r))) (by kernel_rfl) (by
  change r.length<=1000 at hp;have x1:∀x:Nat,(x:Int)<r.length->ix (((x+1) % r.length:Nat):Int) r.length:=λx h=>fC (bz _ (by omega));have z1:∀x y:Nat,¬(y:Int)=x->¬(y:Int)=(((x+1) % r.length:Nat):Int)->decide (tv (aFG r x) (aFG r ((x+1) % r.length)) (aFG r y)<=0)=(!cvZ r x y):=λx y h1 h2=>by unfold cvZ;rw[decide_eq_false (show¬y=x by omega),decide_eq_false (show¬y=(x+1) % r.length by omega),Dk,Dk,<-decide_not];grind
  have z2:∀x y:Nat,¬¬(y:Int)=(((x+1) % r.length:Nat):Int)->false=(!cvZ r x y):=λx y h=>by unfold cvZ;grind
  have z3:∀x y:Nat,¬¬(y:Int)=x->false=(!cvZ r x y):=λx y h=>by unfold cvZ;grind
  have no:∀x y:Nat,(!cvZ r x y)=true->(x:Int)<r.length->(y:Int)<r.length->false=bm r:=λx y h3 h1 h2=>by rw[yM,vX (i:=x) (by omega) (by unfold cvR;rw[vX (i:=y) (by omega) (nb' h3)];rfl)];simp
  have no2:∀x:Nat,(!aX (aFG r x) 2000)=true->(x:Int)<r.length->false=bm r:=λx h3 h1=>by rw[yM,vX (i:=x) (by omega) (by unfold cvR;grind)];simp
  have st:∀x y:Nat,aK (λn=>cvZ r x n=true) y->¬(y:Int)<r.length->y<=r.length->(!aX (aFG r x) 2000)=false->cvR r x=true:=λx y h3 h1 h2 h4=>by
   obtain rfl:y=r.length:=by omega
   unfold cvR;rw[xv h3,nb h4];rfl
  have fin:∀x:Nat,¬(x:Int)<r.length->x<=r.length->aK (λi=>cvR r i=true) x->decide (3<=(r.length:Int))=bm r:=λx h1 h2 h3=>by
   obtain rfl:x=r.length:=by omega
   rw[yM,xv h3,Bool.and_true];exact decide_eq_decide.2 (by omega)
  with_reducible ((repeat' first|apply br|intro);all_goals repeat cases‹_/\_›)
  all_goals first|rfl|with_reducible solve_by_elim|(with_reducible first|assumption|rfl)|exact cB ‹_› (nb ‹_›)|exact cB ‹_› (st _ _ ‹_› ‹_› ‹_› ‹_›)|grind)
noncomputable def tE:=(ID.adk Sh).adk aD2
noncomputable def aFt:Con:=con (a1 (aL .V)) (λr=>[r.length<=1000]) (λr=> .bool (bm r))
def aDX:aFt.Okz 108:=ak tE (λr=>[cnt 4 3 r.length (aK λi=>aX (aFG r i) 2000=true),lp 9 4 r.length (λi=>[aK (λi=>(bM r.length).all (cvN r i)=true) i]) [] bX bX λi=>[cnt 13 6 r.length (aK λn=>cvN r i n=true) λn=>[jb 16 62 (!cvN r i n)]]]
  ) (λ_=>⟨_,rfl⟩) λr hp=>aZ (aA (0:Int) λC=>aA (0:Nat) λD=>aA (r.length:Int) λJ=>aA (bM r.length) λM=>(J<3->false=bm r)/\
 (¬J<3->(0=C/\D<=r.length/\aK (λi=>aX (aFG r i) 2000=true) 0)/\
  (∀x:Nat,aA (x:Int) λB=>aA (!aX (aFG r x) 2000) λO=>x<=r.length/\aK (λi=>aX (aFG r i) 2000=true) x->(B<r.length->ix B r.length/\C<=2000/\(2000:Int)<=1000000000000/\(O=true->false=bm r)/\
    (O=false->aH (B+1)/\B+1=((x+1:Nat):Int)/\x+1<=r.length/\aK (λi=>aX (aFG r i) 2000=true) (x+1)/\r.length-(x+1)<r.length-x))/\
   (¬B<r.length->(0=C/\D<=r.length/\aK (λi=>mf M (cvN r i)=true) 0)/\
    (∀x_1:Nat,aA (x_1+1) λA=>aA (x_1:Int) λF=>aA (aFG r x_1) λG=>aA ((A % r.length:Nat):Int) λL=>aA (aFG r (A % r.length)) λN=>x_1<=r.length/\aK (λi=>mf M (cvN r i)=true) x_1->(F<r.length->aH (F+1)/\J≠0/\(0=C/\D<=r.length/\aK (λn=>cvN r x_1 n=true) 0)/\
      (∀x_2:Nat,aA (x_2:Int) λE=>aA (aFG r x_2) λH=>aA (!cvN r x_1 x_2) λI=>x_2<=r.length/\aK (λn=>cvN r x_1 n=true) x_2->(E<r.length->((¬E=x_1->(¬E=L->ix F r.length/\ix L r.length/\ix E r.length/\bd 1000000000 G/\bd 1000000000 N/\bd 1000000000 H/\decide (turn G N H<=0)=I)/\
          (¬(¬E=L)->false=I))/\
         (¬(¬E=x_1)->false=I))/\
        (∀y:Unit,(I=true->false=bm r)/\
         (I=false->aH (E+1)/\E+1=((x_2+1:Nat):Int)/\x_2+1<=r.length/\aK (λn=>cvN r x_1 n=true) (x_2+1)/\r.length-(x_2+1)<r.length-x_2)))/\
       (¬E<r.length->aH (F+1)/\F+1=((x_1+1:Nat):Int)/\x_1+1<=r.length/\aK (λi=>mf M (cvN r i)=true) A/\r.length-A<r.length-x_1)))/\
     (¬F<r.length->true=bm r)))))) (by kernel_rfl) (by
  change r.length<=1000 at hp;have x1:∀x:Nat,(x:Int)<r.length->ix (((x+1) % r.length:Nat):Int) r.length:=λx h=>fC (bz _ (by omega));have c0:(r.length:Int)<3->false=bm r:=λh=>by rw[yM,decide_eq_false (by omega)];rfl
  have n1:∀x:Nat,(!aX (aFG r x) 2000)=true->(x:Int)<r.length->false=bm r:=λx h3 h1=>by rw[yM,vX (i:=x) (by omega) (by unfold cvR;grind)];simp
  have b1:∀x y:Nat,aK (λi=>aX (aFG r i) 2000=true) x->¬(x:Int)<r.length->x<=r.length->(y:Int)<r.length->bd 1000000000 (aFG r y):=λx y h3 h1 h2 h4=>(uz (h3 y (by omega))).mono;have b2:∀x y:Nat,aK (λi=>aX (aFG r i) 2000=true) x->¬(x:Int)<r.length->x<=r.length->(y:Int)<r.length->bd 1000000000 (aFG r ((y+1) % r.length)):=λx y h3 h1 h2 h4=>(uz (h3 _ (by have:=bz (y+1) (show 0<r.length by omega);omega))).mono;have z1:∀x y:Nat,¬(y:Int)=x->¬(y:Int)=(((x+1) % r.length:Nat):Int)->decide (turn (aFG r x) (aFG r ((x+1) % r.length)) (aFG r y)<=0)=(!cvN r x y):=λx y h1 h2=>by unfold cvN;rw[decide_eq_false (show¬y=x by omega),decide_eq_false (show¬y=(x+1) % r.length by omega),Dk,Dk,<-decide_not];grind
  have z2:∀x y:Nat,¬¬(y:Int)=(((x+1) % r.length:Nat):Int)->false=(!cvN r x y):=λx y h=>by unfold cvN;grind
  have z3:∀x y:Nat,¬¬(y:Int)=x->false=(!cvN r x y):=λx y h=>by unfold cvN;grind
  have no:∀x y:Nat,(!cvN r x y)=true->(x:Int)<r.length->(y:Int)<r.length->false=bm r:=λx y h3 h1 h2=>by rw[Gr,vX (q:=λi=>(bM r.length).all (cvN r i)) (i:=x) (by omega) (vX (i:=y) (by omega) (nb' h3))];simp
  have st:∀x y:Nat,aK (λn=>cvN r x n=true) y->¬(y:Int)<r.length->y<=r.length->mf (bM r.length) (cvN r x)=true:=λx y h3 h1 h2=>by
   obtain rfl:y=r.length:=by omega
   exact xv h3
  have fin:∀x y:Nat,¬(r.length:Int)<3->aK (λi=>aX (aFG r i) 2000=true) x->¬(x:Int)<r.length->x<=r.length->aK (λi=>mf (bM r.length) (cvN r i)=true) y->¬(y:Int)<r.length->y<=r.length->true=bm r:=λx y h0 h3 h1 h2 h6 h4 h5=>by
   obtain rfl:x=r.length:=by omega
   obtain rfl:y=r.length:=by omega
   rw[Gr,xv (q:=λi=>aX (aFG r i) 2000) h3,xv (q:=λi=>mf (bM r.length) (cvN r i)) h6,decide_eq_true (by omega)];rfl
  with_reducible ((repeat' first|apply br|intro);all_goals repeat cases‹_/\_›)
  all_goals first|rfl|with_reducible solve_by_elim|(with_reducible first|assumption|rfl)|exact cB ‹_› (nb ‹_›)|exact cB ‹_› (st _ _ ‹_› ‹_› ‹_›)|grind)
noncomputable def SK:=tE.adk aDX
def fgn(v:List V)(p:V):Bool:= !v.any λu=>decide (p=u)
noncomputable def c82:Con:=con (ac (aL .V) (a1 aV)) (λ(l,_)=>[l.length<=1000000]) (λ(l,v)=> .bool (l.any λu=>decide (v=u))
 )
def k82:c82.Okz 81:=ak SK (λ(_,_)=>[]) (λ(_,_)=>⟨_,rfl⟩) λ(l,v) hp=>aZ (l.length<=1000000/\decide (0<=fI (λu=>decide (v=u)) l)=fh l (λu=>decide (v=u))) (by kernel_rfl) (by change l.length<=1000000 at hp;exact⟨hp,vn _ _⟩)
noncomputable def t82:=SK.adk k82
noncomputable def aFz:Con:=con (ac aV (a1 aPR)) (λ(_,l)=>[l.length<=1000000]) (λ(v,l)=> .bool (fgn l v)
 )
def aD3:aFz.Okz 117:=ak t82 (λ(_,_)=>[]) (λ(_,_)=>⟨_,rfl⟩) λ(v,l) hp=>aZ (l.length<=1000000/\(!fh l (λu=>decide (v=u)))=fgn l v) (by kernel_rfl) (by change l.length<=1000000 at hp;exact⟨hp,rfl⟩)
noncomputable def SO:=t82.adk aD3
def Qr:Ar (aD×Unit):=aCl 117 (ac aPR a0)
def Qq:Ar (aD×Unit):=aCl 119 (ac aPR a0)
noncomputable def aCs:Con:=con (ac (aL .V) (a1 Qr)) (λ(l,c)=>[l.length<=1000000,c.1.length<=1000000]) (λ(l,c)=> .iqz (fI (fgn c.1) l))
def aCf:aCs.Okz 156:=ak SO (λ(l,c)=>[cnt 2 8 l.length (aK λj=>fgn c.1 (aFG l j)=false)]
  ) (λ(_,_)=>⟨_,rfl⟩) λ(l,c) hp=>aZ ((0=(0:Int)/\(0:Nat)<=l.length/\aK (λj=>fgn c.1 (aFG l j)=false) 0)/\
 (∀x:Nat,aA (x:Int) λA=>x<=l.length/\aK (λj=>fgn c.1 (aFG l j)=false) x->(A<l.length->ix A l.length/\c.1.length<=1000000/\(fgn c.1 (aFG l x)=true->A=fI (fgn c.1) l)/\
   (fgn c.1 (aFG l x)=false->aH (A+1)/\A+1=((x+1:Nat):Int)/\x+1<=l.length/\aK (λj=>fgn c.1 (aFG l j)=false) (x+1)/\l.length-(x+1)<l.length-x))/\
  (¬A<l.length-> -1=fI (fgn c.1) l))) (by kernel_rfl) (by
  change l.length<=1000000/\c.1.length<=1000000 at hp
  with_reducible ((repeat' first|apply br|intro);all_goals repeat cases‹_/\_›)
  all_goals first|rfl|exact qm (t:= .V) (by omega) ‹_› ‹_› |(obtain rfl:_=l.length:=ui ‹_› (by omega);exact tn (t:= .V) ‹_›)|grind)
noncomputable def QM:=SO.adk aCf
noncomputable def aEf:Con:=con (ac (aL .V) (a1 Qr)) (λ(l,c)=>[l.length<=1000000,c.1.length<=1000000]) (λ(l,c)=> .bool (l.any (fgn c.1))
 )
def aCL:aEf.Okz 83:=ak QM (λ(_,_)=>[]) (λ(_,_)=>⟨_,rfl⟩) λ(l,c) hp=>aZ (l.length<=1000000/\c.fst.length<=1000000/\decide (0<=fI (fgn c.fst) l)=fh l (fgn c.1)) (by kernel_rfl) (by change l.length<=1000000/\c.1.length<=1000000 at hp;exact⟨hp.1,hp.2,vn _ _⟩)
noncomputable def Qw:=QM.adk aCL
noncomputable def aFw:Con:=con (ac (aL .V) (a1 aPR)) (λ(o,r)=>[ROk r,ROk o]) (λ(o,r)=> .bool (fA r o)
 )
def aD0:aFw.Okz 119:=ak Qw (λ(_,_)=>[]) (λ(_,_)=>⟨_,rfl⟩) λ(o,r) hp=>aZ (ROk r/\ROk o/\fA r o=fA r o) (by kernel_rfl) (by change ROk r/\ROk o at hp;grind)
noncomputable def SN:=Qw.adk aD0
noncomputable def aEX:Con:=con (ac (aL .R) (a1 Qq)) (λ(l,c)=>[l.length<=1000000,ROk c.1,(∀o∈l,ROk o)]) (λ(l,c)=> .iqz (fI (fA c.1) l))
def aDr:aEX.Okz 158:=ak SN (λ(l,c)=>[cnt 2 8 l.length (aK λj=>fA c.1 (aC l j)=false)]
  ) (λ(_,_)=>⟨_,rfl⟩) λ(l,c) hp=>aZ (aA (fA c.1) λC=>(0=(0:Int)/\(0:Nat)<=l.length/\aK (λj=>fA c.1 (aC l j)=false) 0)/\
 (∀x:Nat,aA (x:Int) λA=>aA (aC l x) λB=>x<=l.length/\aK (λj=>fA c.1 (aC l j)=false) x->(A<l.length->ix A l.length/\ROk c.1/\ROk B/\(fA c.1 B=true->A=fI C l)/\
   (fA c.1 B=false->aH (A+1)/\A+1=((x+1:Nat):Int)/\x+1<=l.length/\aK (λj=>fA c.1 (aC l j)=false) (x+1)/\l.length-(x+1)<l.length-x))/\
  (¬A<l.length-> -1=fI C l))) (by kernel_rfl) (by
  change l.length<=1000000/\ROk c.1/\((∀o∈l,ROk o))at hp;have hm:∀x:Nat,(x:Int)<l.length->ROk (aC l x):=λx h=>hp.2.2 _ (gH (by omega))
  with_reducible ((repeat' first|apply br|intro);all_goals repeat cases‹_/\_›)
  all_goals first|rfl|exact hm _ ‹_› |exact qm (t:= .R) (by omega) ‹_› ‹_› |(obtain rfl:_=l.length:=ui ‹_› (by omega);exact tn (t:= .R) ‹_›)|grind)
noncomputable def Rg:=SN.adk aDr
noncomputable def c86:Con:=con (ac (aL .R) (a1 Qq)) (λ(l,c)=>[l.length<=1000000,ROk c.1,(∀o∈l,ROk o)]) (λ(l,c)=> .bool (l.any (fA c.1))
 )
def k86:c86.Okz 85:=ak Rg (λ(_,_)=>[]) (λ(_,_)=>⟨_,rfl⟩) λ(l,c) hp=>aZ (l.length<=1000000/\ROk c.fst/\(∀o:aD,o∈l->ROk o)/\decide (0<=fI (fA c.fst) l)=fh l (fA c.1)) (by kernel_rfl) (by change l.length<=1000000/\ROk c.1/\((∀o∈l,ROk o))at hp;exact⟨hp.1,hp.2.1,hp.2.2,vn _ _⟩)
noncomputable def t86:=Rg.adk k86
def X0{s:Shape}(h:VS s):∀e∈ao s,aX e.a 10000=true/\aX e.b 10000=true:=by intro e he;unfold ao at he;obtain⟨r,hr,her⟩:=dG.1 he;exact X3 (h.ring hr) her
def ccA(s:Shape)(r:aD):Bool:=(!bm r||(r.any (fgn (vOf s))|| !ow s r))
def ccB(l:List aD)(i:Nat):Bool:=(l.take i).any (fA (aC l i))
def cc(s:Shape)(l:List aD)(i:Nat):Prop:=ccA s (aC l i)=false/\ccB l i=false
def arS(l:List aD)(k:Nat):Int:=((l.take k).map area).sum
def lZ(s:Shape)(l:List aD):Bool:=bP s&&((bM l.length).all λi=> !ccA s (aC l i)&& !ccB l i)&&decide (arS l l.length=n9 s)
def Nk{l:List aD}{x:Nat}(h:x<l.length):arS l x+area (aC l x)=arS l (x+1):=by unfold arS;rw[mc (by omega),dM,List.sum_append,kz (by omega)];simp
def Ng{s:Shape}{r:aD}(h:ccA s r=false):bm r=true:=by unfold ccA at h;grind
def Xh{r:aD}(h:bm r=true):near r=true:=by have:=(CR.of h).near;unfold near;grind
def QC{l:List aD}(hl:∀x:Nat,x<l.length->(aC l x).length<=1000):∀x:Nat,x<=l.length->(∀j,j<x->near (aC l j)=true)-> -(40000000000*(x:Int))<=arS l x/\arS l x<=40000000000*(x:Int)
 |0,_,_=>by unfold arS;simp
 |x+1,h,hn=>by
  have h1:=QC hl x (by omega) λj hj=>hn j (by omega);have h2:=wN (hn x (by omega)) (aC l x).length (bZ _);have h3:=hl x (by omega);have e:ar (aC l x) (aC l x).length=area (aC l x):=rfl;rw[<-Nk (show x<l.length by omega)];omega
noncomputable def c43:Con:=con (ac aSh (a1 (aL .R))) (λ(s,l)=>[Fit s,l.length<=1000,(∀r∈l,r.length<=1000)]) (λ(s,l)=> .bool (lZ s l))
def k43:c43.Okz 53:=ak t86 (λ(s,l)=>[lp 6 22 l.length (λk=>[aK (cc s l) k]) [] (λk=>[(7,.iqz (arS l k))]) bX λk=>[jb 10 41 (ccA s (aC l k)),lp 14 49 (aC l k).length bX [] (λj=>[(7,.iqz (arS l k+ar (aC l k) j))]) bX]]
  ) (λ(_,_)=>⟨_,rfl⟩) λ(s,l) hp=>aZ (aA (cc s l) λA=>Fit s/\(¬eOf s=0->false=lZ s l)/\
 (¬(¬eOf s=0)->(0=(0:Int)/\0=arS l 0/\(0:Nat)<=l.length/\aK A 0)/\
  (∀x:Nat,aA (x:Int) λB=>aA (aC l x) λE=>aA (aU x l) λH=>aA (fA E) λJ=>x<=l.length/\aK A x->(B<l.length->ix B l.length/\(E.length<=1000/\((!bm E)=true->true=ccA s E)/\
     ((!bm E)=false->E.length<=1000000/\(vOf s).length<=1000000/\(fh E (fgn (vOf s))=true->true=ccA s E)/\
      (fh E (fgn (vOf s))=false->Fit s/\ROk E/\(ao s).length<=1000000/\(∀e:aFI,e∈ao s->aX e.a 10000=true/\aX e.b 10000=true)/\(!ow s E)=ccA s E)))/\
    (∀y:Unit,(ccA s E=true->false=lZ s l)/\
     (ccA s E=false->(0<=B/\B<=l.length)/\H.length<=1000000/\ROk E/\(∀o:aD,o∈aU x l->ROk o)/\(fh H J=true->false=lZ s l)/\
      (fh H J=false->(0=(0:Int)/\arS l x=arS l x+ar E 0/\(0:Nat)<=E.length)/\
       (∀x_1:Nat,aA (x_1+1) λC=>aA (x_1:Int) λD=>aA (aFG E (C % E.length)) λG=>aA (aFG E x_1) λI=>x_1<=E.length->(D<E.length->ix D E.length/\aH (D+1)/\(E.length:Int)≠0/\ix ((C % E.length:Nat):Int) E.length/\cOK I G/\aH (arS l x+ar E x_1+cross I G)/\aH (D+1)/\D+1=((x_1+1:Nat):Int)/\arS l x+ar E x_1+cross I G=arS l x+ar E C/\x_1+1<=E.length/\E.length-C<E.length-x_1)/\
        (¬D<E.length->aH (B+1)/\B+1=((x+1:Nat):Int)/\arS l x+ar E x_1=arS l (x+1)/\x+1<=l.length/\aK A (x+1)/\l.length-(x+1)<l.length-x))))))/\
   (¬B<l.length->Fit s/\decide (arS l x=(if bP s=true then n9 s else 0))=lZ s l)))) (by kernel_rfl) (by
  change Fit s/\l.length<=1000/\((∀r∈l,r.length<=1000))at hp;obtain⟨hf,hl,hr⟩:=hp;have R:¬¬eOf s=0->ai s=true:=λh=>te h;have hvP:¬¬eOf s=0->bP s=true:=λh=>by rw[ku];exact R h
  have V:¬¬eOf s=0->VS s:=λh=>vsR (R h);have hv:=mw s;have hvl:(vOf s).length<=1000000:=by omega
  have he:¬¬eOf s=0->(ao s).length<=1000000:=λh=>by have:=Jk (V h);omega
  have hw:¬¬eOf s=0->∀e∈ao s,aX e.a 10000=true/\aX e.b 10000=true:=λh=>X0 (V h);have hr:∀x:Nat,(x:Int)<l.length->(aC l x).length<=1000:=λx h=>hr _ (gH (by omega));have hr6:∀x:Nat,(x:Int)<l.length->(aC l x).length<=1000000:=λx h=>by grind
  have c0:¬eOf s=0->false=lZ s l:=λh=>by
   unfold lZ;rw[ku];cases e:ai s with
   |false=>rfl
   |true=>exact absurd (by unfold eOf;rw[e];rfl) h
  have a1:∀x:Nat,(!bm (aC l x))=true->true=ccA s (aC l x):=λx h=>by unfold ccA;rw[h];rfl
  have a3:∀x:Nat,fh (aC l x) (fgn (vOf s))=true->true=ccA s (aC l x):=λx h=>by unfold ccA;rw[h];simp
  have a4:∀x:Nat,(!bm (aC l x))=false->fh (aC l x) (fgn (vOf s))=false->(!ow s (aC l x))=ccA s (aC l x):=λx h2 h3=>by unfold ccA;grind
  have tO:∀x:Nat,(!bm (aC l x))=false->(x:Int)<l.length->ROk (aC l x):=λx h h2=>vj (nb h) (hr x h2);have tO2:∀x:Nat,ccA s (aC l x)=false->(x:Int)<l.length->ROk (aC l x):=λx h h2=>vj (Ng h) (hr x h2);have tO3:∀x:Nat,x<=l.length->aK (cc s l) x->∀o∈aU x l,ROk o:=λx hx h o ho=>by obtain⟨j,hj,rfl⟩:=List.getElem_of_mem ho;rw[mX]at hj;rw[List.getElem_take,<-kz (by omega)];exact tO2 j (h j (by omega)).1 (by omega)
  have tl:∀x:Nat,(aU x l).length<=1000000:=λx=>by rw[mX];omega
  have no:∀x:Nat,(ccA s (aC l x)=true\/fh (aU x l) (fA (aC l x))=true)->(x:Int)<l.length->false=lZ s l:=λx h2 h=>by
   unfold lZ;rw[show((bM l.length).all λi=> !ccA s (aC l i)&& !ccB l i)=false from ug.2 ⟨x,cD.2 (by omega),by
    rcases h2 with h2|h2
    .rw[h2];simp
    .rw[show ccB l x=true from h2];simp⟩]
   simp
  have nr:∀x:Nat,ccA s (aC l x)=false->near (aC l x)=true:=λx h=>Xh (Ng h);have b0:∀x i:Nat,ccA s (aC l x)=false->(i:Int)<(aC l x).length->cOK (aFG (aC l x) i) (aFG (aC l x) ((i+1) % (aC l x).length)):=λx i h h2=>by have h0:=ni (nr x h) (i:=i) (by omega) (M:=2000000000);have h1:=ni (nr x h) (i:=(i+1) % (aC l x).length) (bz _ (by omega)) (M:=2000000000);have:=nZ h0 h1;unfold cOK;omega
  have x1:∀x i:Nat,(i:Int)<(aC l x).length->ix (((i+1) % (aC l x).length:Nat):Int) (aC l x).length:=λx i h=>fC (bz _ (by omega));have bS:∀x:Nat,aK (cc s l) x->x<=l.length-> -(40000000000*(x:Int))<=arS l x/\arS l x<=40000000000*(x:Int):=λx h hx=>QC (λy hy=>hr y (by omega)) x hx λj hj=>nr j (h j hj).1;have sS:∀x i:Nat,arS l x+ar (aC l x) i+cross (aFG (aC l x) i) (aFG (aC l x) ((i+1) % (aC l x).length))=arS l x+ar (aC l x) (i+1):=λx i=>by rw[Bu];omega
  have wS:∀x i:Nat,aK (cc s l) x->x<=l.length->ccA s (aC l x)=false->(x:Int)<l.length->(i:Int)<(aC l x).length->aH (arS l x+ar (aC l x) i+cross (aFG (aC l x) i) (aFG (aC l x) ((i+1) % (aC l x).length))):=λx i h hx h2 h3 h4=>by rw[sS];have h5:=bS x h hx;have h6:=wN (nr x h2) (i+1) (by omega);have h7:=hr x h3;exact bV (by omega)
  have w1:∀x i:Nat,(i:Int)<(aC l x).length->(x:Int)<l.length->aH ((i:Int)+1):=λx i h h2=>bV (by grind);have z0:arS l 0=0:=rfl;have z1:∀x,ar (aC l x) 0=0:=λx=>rfl;have z2:∀x,arS l x=arS l x+ar (aC l x) 0:=λx=>by grind
  have sE:∀x i:Nat,(x:Int)<l.length->¬(i:Int)<(aC l x).length->i<=(aC l x).length->arS l x+ar (aC l x) i=arS l (x+1):=λx i h h2 h3=>by
   obtain rfl:i=(aC l x).length:=by omega
   rw[<-Nk (show x<l.length by omega)];rfl
  have st:∀x:Nat,aK (cc s l) x->ccA s (aC l x)=false->fh (aU x l) (fA (aC l x))=false->aK (cc s l) (x+1):=λx h h1 h2=>cB h ⟨h1,h2⟩;have yE:¬¬eOf s=0->∀x:Nat,aK (cc s l) x->¬(x:Int)<l.length->x<=l.length->decide (arS l x=(if bP s=true then n9 s else 0))=lZ s l:=λh x h3 h1 h2=>by
   obtain rfl:x=l.length:=by omega
   unfold lZ;rw[if_pos (hvP h),hvP h,show((bM l.length).all λi=> !ccA s (aC l i)&& !ccB l i)=true from bh.2 λi hi=>by obtain⟨g1,g2⟩:=h3 i (cD.1 hi);grind]
   simp
  clear V nr bS hvP R
  repeat' first|with_reducible apply br|with_reducible intro
  all_goals repeat with_reducible cases‹_/\aK _ _›
  all_goals first|rfl|with_reducible solve_by_elim|with_reducible rfl|(with_reducible exact c0 ‹_›)|(with_reducible exact he ‹_›)|(with_reducible exact(hw ‹_› _ ‹_›).1)|(with_reducible exact(hw ‹_› _ ‹_›).2)|(with_reducible exact hr _ ‹_›)|(with_reducible exact hr6 _ ‹_›)|(with_reducible exact a1 _ ‹_›)|(with_reducible exact a3 _ ‹_›)|(with_reducible exact a4 _ ‹_› ‹_›)|(with_reducible exact tO _ ‹_› ‹_›)|(with_reducible exact tO2 _ ‹_› ‹_›)|(with_reducible exact tO3 _ ‹_› ‹_› _ ‹_›)|(with_reducible exact tl _)|(with_reducible exact no _ (.inl ‹_›) ‹_›)|(with_reducible exact no _ (.inr ‹_›) ‹_›)|(with_reducible first|exact sS _ _|exact z2 _)|exact z0.symm|(with_reducible exact yE ‹_› _ ‹_› ‹_› ‹_›)|grind)
noncomputable def t43:=t86.adk k43
def mmC(r o:aD):Bool:=bm r&&(bm o&&fA r o)
def mmR(a b:List aD)(i:Nat):Bool:=b.any λo=>mmC (aC a i) o
noncomputable def c46:Con:=con (ac (aL .R) (a1 (aL .R))) (λ(a,b)=>[a.length<=1000000,(∀r∈a,r.length<=1000),b.length<=1000000,(∀r∈b,r.length<=1000)]) (λ(a,b)=> .bool (aFP a b))
def k46:c46.Okz 46:=ak t43 (λ(a,b)=>[lp 2 11 a.length (λi=>[aK (λi=>mmR a b i=false) i]) [] bX bX λi=>[cnt 5 17 b.length (aK λk=>mmC (aC a i) (aC b k)=false) λk=>[jb 8 31 (mmC (aC a i) (aC b k))]]]
  ) (λ(_,_)=>⟨_,rfl⟩) λ(a,b) hp=>aZ ((0=(0:Int)/\(0:Nat)<=a.length/\aK (λi=>mmR a b i=false) 0)/\
 (∀x:Nat,aA (x:Int) λA=>aA (aC a x) λC=>x<=a.length/\aK (λi=>mmR a b i=false) x->(A<a.length->ix A a.length/\(0=(0:Int)/\(0:Nat)<=b.length/\aK (λk=>mmC C (aC b k)=false) 0)/\
   (∀x_1:Nat,aA (x_1:Int) λB=>aA (aC b x_1) λD=>x_1<=b.length/\aK (λk=>mmC C (aC b k)=false) x_1->(B<b.length->ix B b.length/\(C.length<=1000/\(bm C=true->D.length<=1000/\(bm D=true->ROk C/\ROk D/\fA C D=mmC C D)/\
       (bm D=false->false=mmC C D))/\
      (bm C=false->false=mmC C D))/\
     (∀y:Unit,(mmC C D=true->true=aFP a b)/\
      (mmC C D=false->aH (B+1)/\B+1=((x_1+1:Nat):Int)/\x_1+1<=b.length/\aK (λk=>mmC C (aC b k)=false) (x_1+1)/\b.length-(x_1+1)<b.length-x_1)))/\
    (¬B<b.length->aH (A+1)/\A+1=((x+1:Nat):Int)/\x+1<=a.length/\aK (λi=>mmR a b i=false) (x+1)/\a.length-(x+1)<a.length-x)))/\
  (¬A<a.length->false=aFP a b))) (by kernel_rfl) (by
  change a.length<=1000000/\((∀r∈a,r.length<=1000))/\b.length<=1000000/\((∀r∈b,r.length<=1000))at hp;obtain⟨hla,ha,hlb,hb⟩:=hp;have la:∀x:Nat,(x:Int)<a.length->(aC a x).length<=1000:=λx h=>ha _ (gH (by omega));have lb:∀x:Nat,(x:Int)<b.length->(aC b x).length<=1000:=λx h=>hb _ (gH (by omega));have oa:∀x:Nat,bm (aC a x)=true->(x:Int)<a.length->ROk (aC a x):=λx h h2=>vj h (la x h2);have ob:∀x:Nat,bm (aC b x)=true->(x:Int)<b.length->ROk (aC b x):=λx h h2=>vj h (lb x h2);have m1:∀r o:aD,bm r=true->bm o=true->fA r o=mmC r o:=λr o h1 h2=>by unfold mmC;grind
  have m2:∀r o:aD,bm o=false->false=mmC r o:=λr o h=>by unfold mmC;rw[h];simp
  have m3:∀r o:aD,bm r=false->false=mmC r o:=λr o h=>by unfold mmC;rw[h];rfl
  have m4:∀r o:aD,bm r=true->bm o=true->(!j5 r o)=mmC r o:=λr o h1 h2=>by rw[<-m1 r o h1 h2,D9 (CR.of h1) (CR.of h2)]
  have v9:∀r:aD,∀v,v∈r->bm r=true->bd 1000000000 v:=λr v hv h=>(uz ((CR.of h).near v hv)).mono;have yes:∀x y:Nat,mmC (aC a x) (aC b y)=true->(x:Int)<a.length->(y:Int)<b.length->true=aFP a b:=λx y h h1 h2=>
   (jd.2 ⟨_,gH (show x<a.length by omega),jd.2 ⟨_,gH (show y<b.length by omega),h⟩⟩).symm
  have st:∀x y:Nat,aK (λk=>mmC (aC a x) (aC b k)=false) y->¬(y:Int)<b.length->y<=b.length->mmR a b x=false:=λx y h h1 h2=>by
   obtain rfl:y=b.length:=by omega
   exact ym (t:= .R) (l:=b) (q:=λo=>mmC (aC a x) o) h
  have fin:∀x:Nat,aK (λi=>mmR a b i=false) x->¬(x:Int)<a.length->x<=a.length->false=aFP a b:=λx h h1 h2=>by
   obtain rfl:x=a.length:=by omega
   exact(ym (t:= .R) (l:=a) (q:=λr=>b.any λo=>bm r&&(bm o&&fA r o)) h).symm
  with_reducible ((repeat' first|apply br|intro);all_goals repeat cases‹_/\_›)
  all_goals first|rfl|with_reducible solve_by_elim|(with_reducible first|assumption|rfl)|exact cB ‹_› (st _ _ ‹_› ‹_› ‹_›)|grind)
noncomputable def t46:=t43.adk k46
noncomputable def c45:Con:=con (ac (aL .R) (a1 (aL .R))) (λ(a,b)=>[a.length<=1000000,(∀r∈a,r.length<=1000),b.length<=1000000,(∀r∈b,r.length<=1000)]) (λ(a,b)=> .bool (aFP a b))
def k45:c45.Okz 45:=ak t46 (λ(a,b)=>[lp 2 5 a.length (λi=>[aK (λi=>mmR a b i=false) i]) [] bX bX λi=>[cnt 5 6 b.length (aK λk=>mmC (aC a i) (aC b k)=false) λk=>[jb 8 42 (mmC (aC a i) (aC b k))]]]
  ) (λ(_,_)=>⟨_,rfl⟩) λ(a,b) hp=>aZ ((0=(0:Int)/\(0:Nat)<=a.length/\aK (λi=>mmR a b i=false) 0)/\
 (∀x:Nat,aA (x:Int) λA=>aA (aC a x) λC=>x<=a.length/\aK (λi=>mmR a b i=false) x->(A<a.length->(0=(0:Int)/\(0:Nat)<=b.length/\aK (λk=>mmC C (aC b k)=false) 0)/\
   (∀x_1:Nat,aA (x_1:Int) λB=>aA (aC b x_1) λD=>x_1<=b.length/\aK (λk=>mmC C (aC b k)=false) x_1->(B<b.length->(ix A a.length/\C.length<=1000/\(bm C=true->ix B b.length/\D.length<=1000/\(bm D=true->ix A a.length/\ix B b.length/\C.length<=1000/\D.length<=1000/\(∀v:aFH,v∈aC a x->bd 1000000000 v)/\(∀v:aFH,v∈aC b x_1->bd 1000000000 v)/\(!j5 C D)=mmC C D)/\
       (bm D=false->false=mmC C D))/\
      (bm C=false->false=mmC C D))/\
     (∀y:Unit,(mmC C D=true->true=aFP a b)/\
      (mmC C D=false->aH (B+1)/\B+1=((x_1+1:Nat):Int)/\x_1+1<=b.length/\aK (λk=>mmC C (aC b k)=false) (x_1+1)/\b.length-(x_1+1)<b.length-x_1)))/\
    (¬B<b.length->aH (A+1)/\A+1=((x+1:Nat):Int)/\x+1<=a.length/\aK (λi=>mmR a b i=false) (x+1)/\a.length-(x+1)<a.length-x)))/\
  (¬A<a.length->false=aFP a b))) (by kernel_rfl) (by
  change a.length<=1000000/\((∀r∈a,r.length<=1000))/\b.length<=1000000/\((∀r∈b,r.length<=1000))at hp;obtain⟨hla,ha,hlb,hb⟩:=hp;have la:∀x:Nat,(x:Int)<a.length->(aC a x).length<=1000:=λx h=>ha _ (gH (by omega));have lb:∀x:Nat,(x:Int)<b.length->(aC b x).length<=1000:=λx h=>hb _ (gH (by omega));have oa:∀x:Nat,bm (aC a x)=true->(x:Int)<a.length->ROk (aC a x):=λx h h2=>vj h (la x h2);have ob:∀x:Nat,bm (aC b x)=true->(x:Int)<b.length->ROk (aC b x):=λx h h2=>vj h (lb x h2);have m1:∀r o:aD,bm r=true->bm o=true->fA r o=mmC r o:=λr o h1 h2=>by unfold mmC;grind
  have m2:∀r o:aD,bm o=false->false=mmC r o:=λr o h=>by unfold mmC;rw[h];simp
  have m3:∀r o:aD,bm r=false->false=mmC r o:=λr o h=>by unfold mmC;rw[h];rfl
  have m4:∀r o:aD,bm r=true->bm o=true->(!j5 r o)=mmC r o:=λr o h1 h2=>by rw[<-m1 r o h1 h2,D9 (CR.of h1) (CR.of h2)]
  have v9:∀r:aD,∀v,v∈r->bm r=true->bd 1000000000 v:=λr v hv h=>(uz ((CR.of h).near v hv)).mono;have yes:∀x y:Nat,mmC (aC a x) (aC b y)=true->(x:Int)<a.length->(y:Int)<b.length->true=aFP a b:=λx y h h1 h2=>
   (jd.2 ⟨_,gH (show x<a.length by omega),jd.2 ⟨_,gH (show y<b.length by omega),h⟩⟩).symm
  have st:∀x y:Nat,aK (λk=>mmC (aC a x) (aC b k)=false) y->¬(y:Int)<b.length->y<=b.length->mmR a b x=false:=λx y h h1 h2=>by
   obtain rfl:y=b.length:=by omega
   exact ym (t:= .R) (l:=b) (q:=λo=>mmC (aC a x) o) h
  have fin:∀x:Nat,aK (λi=>mmR a b i=false) x->¬(x:Int)<a.length->x<=a.length->false=aFP a b:=λx h h1 h2=>by
   obtain rfl:x=a.length:=by omega
   exact(ym (t:= .R) (l:=a) (q:=λr=>b.any λo=>bm r&&(bm o&&fA r o)) h).symm
  with_reducible ((repeat' first|apply br|intro);all_goals repeat cases‹_/\_›)
  all_goals first|rfl|with_reducible solve_by_elim|(with_reducible first|assumption|rfl)|exact cB ‹_› (st _ _ ‹_› ‹_› ‹_›)|grind)
noncomputable def t45:=t46.adk k45
def rfP(k:Nat)(r:aD)(i:Nat):Bool:=(decide (k=0)&&decide (turn (aFG r ((i+r.length-1) % r.length)) (aFG r i) (aFG r ((i+1) % r.length))<0))||(decide (0<k)&&decide (0<turn (aFG r ((i+r.length-1) % r.length)) (aFG r i) (aFG r ((i+1) % r.length))))
def rfR(k:Nat)(r:aD)(i:Nat):Nat:=((bM i).filter (rfP k r)).length
def rfS(R:List aD):Nat->Nat
 |0=>0
 |k+1=>rfS R k+rfR k (aC R k) (aC R k).length
def qw(s:Shape):Nat:=if bP s=true then rfS (aE s) (aE s).length else 0
noncomputable def c53:Con:=con (a1 aSh) (λs=>[Fit s]) (λs=> .iqz (qw s:Nat))
def k53:c53.Okz 50:=ak t45 (λs=>[lp 5 15 (aE s).length bX [] (λk=>[(3,.iqz (rfS (aE s) k:Nat))]) bX λk=>[lp 8 22 (aC (aE s) k).length bX [] (λi=>[(3,.iqz (rfS (aE s) k+rfR k (aC (aE s) k) i:Nat))]) bX λi=>[jb 12 61 (rfP k (aC (aE s) k) i),jU 13 [(3,.iqz (rfS (aE s) k+rfR k (aC (aE s) k) (i+1):Nat))]]]]
  ) (λ_=>⟨_,rfl⟩) λs hp=>aZ (aA (0:Nat) λC=>aA (aE s) λE=>aA (!bP s) λL=>Fit s/\(L=true->0=(qw s:Int))/\
 (L=false->Fit s/\C<s.outer.length/\(∀r:aD,r∈s.holes->C<r.length)/\(0=(0:Int)/\0=(rfS E 0:Int)/\C<=E.length)/\
  (∀x:Nat,aA (x:Int) λA=>aA (aC E x) λF=>aA (rfS E x:Int) λJ=>aA (F.length:Int) λK=>x<=E.length->(A<E.length->ix A E.length/\(0=(0:Int)/\J=((rfS E x+rfR x F 0:Nat):Int)/\C<=F.length)/\
    (∀x_1:Nat,aA (x_1+1) λB=>aA (x_1:Int) λD=>aA (aFG F (B % F.length)) λH=>aA (aFG F x_1) λI=>aA (D+F.length-1) λM=>aA (cZ M K) λN=>aA (aFG F N.toNat) λO=>aA ((rfS E x+rfR x F B:Nat):Int) λQ=>aA ((rfS E x+rfR x F x_1:Nat):Int) λS=>x_1<=F.length->(D<F.length->(ix D F.length/\aH (D+F.length)/\aH M/\K≠0/\ix N F.length/\aH (D+1)/\K≠0/\ix ((B % F.length:Nat):Int) F.length/\bd 1000000000 O/\bd 1000000000 I/\bd 1000000000 H/\((A=0->(turn O I H<0->true=rfP x F x_1)/\
         (¬turn O I H<0->(0<A->decide (0<turn O I H)=rfP x F x_1)/\
          (¬0<A->false=rfP x F x_1)))/\
        (¬A=0->(0<A->decide (0<turn O I H)=rfP x F x_1)/\
         (¬0<A->false=rfP x F x_1)))/\
       (∀y:Unit,(rfP x F x_1=true->aH (S+1)/\S+1=Q)/\
        (rfP x F x_1=false->S=Q)))/\
      (∀y:Unit,aH (D+1)/\D+1=((x_1+1:Nat):Int)/\Q=Q/\x_1+1<=F.length/\F.length-B<F.length-x_1))/\
     (¬D<F.length->aH (A+1)/\A+1=((x+1:Nat):Int)/\S=rfS E (x+1)/\x+1<=E.length/\E.length-(x+1)<E.length-x)))/\
   (¬A<E.length->J=qw s)))) (by kernel_rfl) (by
  change Fit s at hp;have V:(!bP s)=false->VS s:=λh=>(qC s).1 (nb h);have lR:(aE s).length<=2000:=by have:=hp.2.1;unfold aE;rw[iE];omega
  have e0:(!bP s)=true->0=(qw s:Int):=λh=>by unfold qw;grind
  have o1:(!bP s)=false->0<s.outer.length:=λh=>by have:=(V h).outer.three;omega
  have o2:(!bP s)=false->∀r∈s.holes,0<r.length:=λh r hr=>by have:=((V h).ring (show r∈aE s from cG _ hr)).three;omega
  have rg:(!bP s)=false->∀x:Nat,(x:Int)<(aE s).length->VR (aC (aE s) x):=λh x hx=>(V h).ring (gH (by omega));have l40:(!bP s)=false->∀x:Nat,(x:Int)<(aE s).length->(aC (aE s) x).length<=40:=λh x hx=>(rg h x hx).most;have tm:∀x i:Nat,(i:Int)<(aC (aE s) x).length->cZ ((i:Int)+(aC (aE s) x).length-1) ((aC (aE s) x).length:Int)=(((i+(aC (aE s) x).length-1) % (aC (aE s) x).length:Nat):Int):=λx i h=>by grind
  have x1:∀x i:Nat,(i:Int)<(aC (aE s) x).length->ix (cZ ((i:Int)+(aC (aE s) x).length-1) ((aC (aE s) x).length:Int)) (aC (aE s) x).length:=λx i h=>by rw[tm x i h];exact fC (bz _ (by omega))
  have x2:∀x i:Nat,(i:Int)<(aC (aE s) x).length->ix (((i+1) % (aC (aE s) x).length:Nat):Int) (aC (aE s) x).length:=λx i h=>fC (bz _ (by omega));have bN:(!bP s)=false->∀x:Nat,(x:Int)<(aE s).length->∀i:Nat,i<(aC (aE s) x).length->bd 1000000000 (aFG (aC (aE s) x) i):=λh x hx i hi=>ni (rg h x hx).near hi (by decide);have b1:(!bP s)=false->∀x i:Nat,(i:Int)<(aC (aE s) x).length->(x:Int)<(aE s).length->bd 1000000000 (aFG (aC (aE s) x) (cZ ((i:Int)+(aC (aE s) x).length-1) ((aC (aE s) x).length:Int)).toNat):=λh x i hi hx=>by rw[tm x i hi,jf];exact bN h x hx _ (bz _ (by omega))
  have b2:(!bP s)=false->∀x i:Nat,(i:Int)<(aC (aE s) x).length->(x:Int)<(aE s).length->bd 1000000000 (aFG (aC (aE s) x) i):=λh x i hi hx=>bN h x hx i (by omega);have b3:(!bP s)=false->∀x i:Nat,(i:Int)<(aC (aE s) x).length->(x:Int)<(aE s).length->bd 1000000000 (aFG (aC (aE s) x) ((i+1) % (aC (aE s) x).length)):=λh x i hi hx=>bN h x hx _ (bz _ (by omega));have p1:∀x i:Nat,(i:Int)<(aC (aE s) x).length->(x:Int)=0->turn (aFG (aC (aE s) x) (cZ ((i:Int)+(aC (aE s) x).length-1) ((aC (aE s) x).length:Int)).toNat) (aFG (aC (aE s) x) i) (aFG (aC (aE s) x) ((i+1) % (aC (aE s) x).length))<0->true=rfP x (aC (aE s) x) i:=λx i h h2 h3=>by rw[tm x i h,jf]at h3;unfold rfP;grind
  have p2:∀x i:Nat,(i:Int)<(aC (aE s) x).length->0<(x:Int)->decide (0<turn (aFG (aC (aE s) x) (cZ ((i:Int)+(aC (aE s) x).length-1) ((aC (aE s) x).length:Int)).toNat) (aFG (aC (aE s) x) i) (aFG (aC (aE s) x) ((i+1) % (aC (aE s) x).length)))=rfP x (aC (aE s) x) i:=λx i h h2=>by rw[tm x i h,jf];unfold rfP;rw[decide_eq_false (show¬x=0 by omega),decide_eq_true (show 0<x by omega)];simp
  have p3:∀x i:Nat,(i:Int)<(aC (aE s) x).length->¬turn (aFG (aC (aE s) x) (cZ ((i:Int)+(aC (aE s) x).length-1) ((aC (aE s) x).length:Int)).toNat) (aFG (aC (aE s) x) i) (aFG (aC (aE s) x) ((i+1) % (aC (aE s) x).length))<0->¬0<(x:Int)->false=rfP x (aC (aE s) x) i:=λx i h h3 h2=>by rw[tm x i h,jf]at h3;unfold rfP;grind
  have p4:∀x i:Nat,¬(x:Int)=0->¬0<(x:Int)->false=rfP x (aC (aE s) x) i:=λx i h h2=>by omega
  have q1:∀x i:Nat,rfP x (aC (aE s) x) i=true->rfR x (aC (aE s) x) (i+1)=rfR x (aC (aE s) x) i+1:=λx i h=>by unfold rfR;rw[q8,rB,List.filter_cons_of_pos h,fM];rfl
  have q2:∀x i:Nat,rfP x (aC (aE s) x) i=false->rfR x (aC (aE s) x) (i+1)=rfR x (aC (aE s) x) i:=λx i h=>by unfold rfR;rw[q8,rB,List.filter_cons_of_neg (by rw[h];simp)];simp
  have q3:∀x i:Nat,rfR x (aC (aE s) x) i<=i:=λx i=>by have:=List.length_filter_le (rfP x (aC (aE s) x)) (bM i);rw[Iq]at this;exact this
  have q4:(!bP s)=false->∀x:Nat,x<=(aE s).length->rfS (aE s) x<=40*x:=λh x=>by
   induction x with
   |zero=>intro _;exact bZ _
   |succ x ih=>
    intro hx;have h1:=ih (by omega);have h2:=q3 x (aC (aE s) x).length;have h3:=l40 h x (by omega);show rfS (aE s) x+rfR x (aC (aE s) x) (aC (aE s) x).length<=_;omega
  have w1:(!bP s)=false->∀x i:Nat,(i:Int)<(aC (aE s) x).length->(x:Int)<(aE s).length->aH (((rfS (aE s) x+rfR x (aC (aE s) x) i:Nat):Int)+1):=λh x i hi hx=>by have h1:=q4 h x (by omega);have h2:=q3 x i;have h3:=l40 h x hx;exact bV (by omega)
  have w2:(!bP s)=false->∀x i:Nat,(i:Int)<(aC (aE s) x).length->(x:Int)<(aE s).length->aH ((i:Int)+(aC (aE s) x).length)/\aH ((i:Int)+(aC (aE s) x).length-1)/\aH ((i:Int)+1):=λh x i hi hx=>by have h3:=l40 h x hx;exact⟨bV (by omega),bV (by omega),bV (by omega)⟩
  have w3:∀x:Nat,(x:Int)<(aE s).length->aH ((x:Int)+1):=λx hx=>bV (by omega);have s1:∀x i:Nat,rfP x (aC (aE s) x) i=true->((rfS (aE s) x+rfR x (aC (aE s) x) i:Nat):Int)+1=((rfS (aE s) x+rfR x (aC (aE s) x) (i+1):Nat):Int):=λx i h=>by grind
  have s2:∀x i:Nat,rfP x (aC (aE s) x) i=false->((rfS (aE s) x+rfR x (aC (aE s) x) i:Nat):Int)=((rfS (aE s) x+rfR x (aC (aE s) x) (i+1):Nat):Int):=λx i h=>by rw[q2 x i h]
  have s3:∀x i:Nat,¬(i:Int)<(aC (aE s) x).length->i<=(aC (aE s) x).length->((rfS (aE s) x+rfR x (aC (aE s) x) i:Nat):Int)=rfS (aE s) (x+1):=λx i h h2=>by
   obtain rfl:i=(aC (aE s) x).length:=by omega
   rfl
  have s4:(!bP s)=false->∀x:Nat,¬(x:Int)<(aE s).length->x<=(aE s).length->(rfS (aE s) x:Int)=qw s:=λh x h1 h2=>by
   obtain rfl:x=(aE s).length:=by omega
   unfold qw;grind
  have s5:∀x:Nat,(rfS (aE s) x:Int)=((rfS (aE s) x+rfR x (aC (aE s) x) 0:Nat):Int):=λx=>rfl;clear V rg bN tm q1 q2 q3 q4
  repeat' first|with_reducible apply br|with_reducible intro
  all_goals repeat with_reducible cases‹_/\_›
  all_goals first|rfl|with_reducible solve_by_elim|(with_reducible first|assumption|rfl|exact o2 ‹_› _ ‹_› |exact b1 ‹_› _ _ ‹_› ‹_› |exact b2 ‹_› _ _ ‹_› ‹_› |exact b3 ‹_› _ _ ‹_› ‹_› |exact w1 ‹_› _ _ ‹_› ‹_› |exact(w2 ‹_› _ _ ‹_› ‹_›).1|exact(w2 ‹_› _ _ ‹_› ‹_›).2.1|exact(w2 ‹_› _ _ ‹_› ‹_›).2.2|exact s4 ‹_› _ ‹_› ‹_› |exact s5 _)|omega|(unfold ix;omega)|(unfold aH;omega))
noncomputable def t53:=t45.adk k53
def sqR:aD:=[⟨0,0⟩,⟨3,0⟩,⟨3,3⟩,⟨0,3⟩]
def awR:aD:=[⟨0,0⟩,⟨2,1⟩,⟨4,0⟩,⟨2,4⟩]
instance(lt:Int->Int->Bool)(l:List Int):Decidable (OrdOn lt l):=decidable_of_iff ((∀x∈l,∀y∈l,∀z∈l,lt x y=true->lt y z=true->lt x z=true)/\(∀x∈l,∀y∈l,lt x y=true->lt y x=false)/\(∀x∈l,∀y∈l,lt x y=false->lt y x=false->x=y)) ⟨λh=>⟨h.1,h.2.1,h.2.2⟩,λh=>⟨h.1,h.2,h.3⟩⟩
instance(v:List V)(L:List (List Int))(i j:Nat):Decidable (ArOk v L i j):=decidable_of_iff (i<L.length/\(j:Int)∈aj L i/\(∀x∈aj L i,0<=x/\x.toNat<v.length)/\(aj L i).length<=1000000) ⟨λh=>⟨h.1,h.2.1,h.2.2.1,h.2.2.2⟩,λh=>⟨h.1,h.2,h.3,h.4⟩⟩
instance(s:Shape):Decidable (GOk s):=inferInstanceAs (Decidable (∀k,k<(vOf s).length->0<(aj (oD s) k).length/\(∀x∈aj (oD s) k,0<=x/\x.toNat<(vOf s).length)/\OrdOn (ltA (vOf s) k) (aj (oD s) k)))
instance(s:Shape):Decidable (SOk s):=inferInstanceAs (Decidable (∀k,k<(pG s).length->ArOk (vOf s) (sG s k).1 (aa (pG s) k).1 (aa (pG s) k).2/\ArOk (vOf s) (sG s k).1 (aa (pG s) k).2 (aa (pG s) k).1/\(aa (pG s) k).2≠(aa (pG s) k).1))
def PcB(s:Shape):Prop:=(∀i,i<(soG s).length->∀x∈aj (soG s) i,ArOk (vOf s) (soG s) i x.toNat/\ArOk (vOf s) (soG s) x.toNat i)/\(∀h∈hsG s,ArOk (vOf s) (soG s) h.2 h.1)/\(∀i,i<(vOf s).length->0<=cu (nG s) i)/\
 ∀k,k<(hsG s).length->0<(trc (vOf s) (soG s) (trU (vOf s)) (pcK s k).1 (aa (hsG s) k) []).2.length->(trc (vOf s) (soG s) (trU (vOf s)) (pcK s k).1 (aa (hsG s) k) []).2.length<=1000/\0<(de (trc (vOf s) (soG s) (trU (vOf s)) (pcK s k).1 (aa (hsG s) k) []).2).length
def PcB.ok{s:Shape}(h:PcB s):pj s:=by
 refine⟨λi j hj=> ?_,h.2⟩;have hi:i<(soG s).length:=by
  rcases oZ i (soG s).length with h1|h1
  .exact h1
  .unfold aj at hj;grind
 have:=h.1 i hi _ hj;grind
instance(s:Shape):Decidable (PcB s):=by unfold PcB;infer_instance
def sqS:Shape:=⟨sqR,[]⟩
def awS:Shape:=⟨awR,[]⟩
def Hj:GOk sqS/\SOk sqS/\PcB sqS:=by decide+kernel
def H7:GOk awS/\SOk awS/\PcB awS:=by decide+kernel
def QS:bP sqS=true/\pcG sqS=[sqR] :=by decide+kernel
def Qm:bP awS=true/\pcG awS=[[⟨0,0⟩,⟨2,1⟩,⟨2,4⟩],[⟨4,0⟩,⟨2,4⟩,⟨2,1⟩]] :=by decide+kernel
def H8:lZ awS [[⟨0,0⟩,⟨2,1⟩,⟨2,4⟩],[⟨4,0⟩,⟨2,4⟩,⟨2,1⟩]] =true/\aFP [sqR] [[⟨0,0⟩,⟨2,1⟩,⟨2,4⟩],[⟨4,0⟩,⟨2,4⟩,⟨2,1⟩]] =true/\qw awS=1:=by decide+kernel
def aBi:Fit sqS:=⟨by decide,by decide,λr h=>(cq h).elim⟩
def Hb:Fit awS:=⟨by decide,by decide,λr h=>(cq h).elim⟩
def aB8:eV sqS=0:=by unfold eV;rw[QS.1];rfl
def aCy:eV awS=0:=by unfold eV;rw[Qm.1];rfl
noncomputable def c41:Con:=con (a0) (λ_=>[]) (λ_=> .bool true)
def k41:c41.Okz 41:=ak t53 (λ_=>[(10002,.mk Unit (λ_ _=>some ()) [] bX (λ_=>[(1,.lst .V sqR)]) bX (λ_=>0) bX),(10003,.mk Unit (λ_ _=>some ()) [7] bX (λ_=>[(2,.ptr 7 0)]) (λ_=>[(7,.box 26 [.lst .V awR,.nil])]) (λ_=>0) bX)]
  ) (λ_=>⟨_,rfl⟩) λ_ _=>aZ ([(⟨0,0⟩:V),(⟨3,0⟩:V),(⟨3,3⟩:V),(⟨0,3⟩:V)] =sqR/\
 (∀y:Unit,[(⟨0,0⟩:V),(⟨2,1⟩:V),(⟨4,0⟩:V),(⟨2,4⟩:V)] =awR/\
  (∀y_1:Unit,Fit (⟨sqR,([] :List (List V))⟩:Shape)/\(bP (⟨sqR,([] :List (List V))⟩:Shape)=true->GOk (⟨sqR,([] :List (List V))⟩:Shape)/\SOk (⟨sqR,([] :List (List V))⟩:Shape)/\pj (⟨sqR,([] :List (List V))⟩:Shape))/\Fit (⟨awR,([] :List (List V))⟩:Shape)/\(bP (⟨awR,([] :List (List V))⟩:Shape)=true->GOk (⟨awR,([] :List (List V))⟩:Shape)/\SOk (⟨awR,([] :List (List V))⟩:Shape)/\pj (⟨awR,([] :List (List V))⟩:Shape))/\(eV (⟨sqR,([] :List (List V))⟩:Shape)=0->(eV (⟨awR,([] :List (List V))⟩:Shape)=0->(pcG (⟨sqR,([] :List (List V))⟩:Shape)).length<=1000000/\(∀r:aD,r∈pcG (⟨sqR,([] :List (List V))⟩:Shape)->r.length<=100000)/\((pcG (⟨sqR,([] :List (List V))⟩:Shape)==[sqR])=true->(((pcG (⟨awR,([] :List (List V))⟩:Shape)).length:Int)=2->Fit (⟨awR,([] :List (List V))⟩:Shape)/\(pcG (⟨awR,([] :List (List V))⟩:Shape)).length<=1000/\(∀r:aD,r∈pcG (⟨awR,([] :List (List V))⟩:Shape)->r.length<=1000)/\(lZ (⟨awR,([] :List (List V))⟩:Shape) (pcG (⟨awR,([] :List (List V))⟩:Shape))=true->(pcG (⟨sqR,([] :List (List V))⟩:Shape)).length<=1000000/\(∀r:aD,r∈pcG (⟨sqR,([] :List (List V))⟩:Shape)->r.length<=1000)/\(pcG (⟨awR,([] :List (List V))⟩:Shape)).length<=1000000/\(∀r:aD,r∈pcG (⟨awR,([] :List (List V))⟩:Shape)->r.length<=1000)/\(aFP (pcG (⟨sqR,([] :List (List V))⟩:Shape)) (pcG (⟨awR,([] :List (List V))⟩:Shape))=true->Fit (⟨awR,([] :List (List V))⟩:Shape)/\decide ((qw (⟨awR,([] :List (List V))⟩:Shape):Int)=1)=true)/\
        (aFP (pcG (⟨sqR,([] :List (List V))⟩:Shape)) (pcG (⟨awR,([] :List (List V))⟩:Shape))=false->false=true))/\
       (lZ (⟨awR,([] :List (List V))⟩:Shape) (pcG (⟨awR,([] :List (List V))⟩:Shape))=false->false=true))/\
      (¬((pcG (⟨awR,([] :List (List V))⟩:Shape)).length:Int)=2->false=true))/\
     ((pcG (⟨sqR,([] :List (List V))⟩:Shape)==[sqR])=false->false=true))/\
    (¬eV (⟨awR,([] :List (List V))⟩:Shape)=0->false=true))/\
   (¬eV (⟨sqR,([] :List (List V))⟩:Shape)=0->false=true)))) (by kernel_rfl) (by
  rw[show(⟨sqR,([] :List (List V))⟩:Shape)=sqS from rfl,show(⟨awR,([] :List (List V))⟩:Shape)=awS from rfl,aB8,aCy,QS.2,Qm.2,H8.1,H8.2.1,H8.2.2];have lo:∀n:Nat,4<=n->∀r∈([[⟨0,0⟩,⟨2,1⟩,⟨2,4⟩],[⟨4,0⟩,⟨2,4⟩,⟨2,1⟩]] :List aD),r.length<=n:=λn hn r hr=>by grind
  have lq:∀n:Nat,4<=n->∀r∈[sqR],r.length<=n:=λn hn r hr=>by rw[bn.1 hr];exact hn
  refine⟨rfl,λ_=>⟨rfl,λ_=>⟨aBi,λ_=>⟨Hj.1,Hj.2.1,Hj.2.2.ok⟩,Hb,λ_=>⟨H7.1,H7.2.1,H7.2.2.ok⟩,⟨λ_=>⟨λ_=>⟨by decide,lq _ (by decide),⟨λ_=>⟨λ_=>⟨Hb,by decide,lo _ (by decide),⟨λ_=>⟨by decide,lq _ (by decide),by decide,lo _ (by decide),⟨λ_=>⟨Hb,by decide⟩,λh=>(by cases h)⟩⟩,λh=>(by cases h)⟩⟩,λh=>absurd (by decide) h⟩,λh=>absurd h (by decide)⟩⟩,λh=>absurd rfl h⟩,λh=>absurd rfl h⟩⟩⟩⟩)
section
open Go.ChangeShapes Go.WideShapes Go.ChangeAt Go.RowKit Go.Joins Go.Deep
def Tryz.own:ownKnob bH.godebug=none:=by kernel_rfl
def Tryz.laidOut:laidOutB bH=true:=by kernel_rfl
def aAV:bH.cellsOf 26=2:=by kernel_rfl
def aAU:bH.cellsOf 44=2:=by kernel_rfl
def aAW:bH.cellsOf 23=1:=by kernel_rfl
def aAY:bH.bytesOf 44=16:=by kernel_rfl
def aAZ:bH.bytesOf 23=24:=by kernel_rfl
def LN{C:bG}:∀(l:List aFH) (b o:Nat),(∀i (h:i<l.length),C b (o+i*2) (.int .i64 l[i].x)/\C b (o+i*2+1) (.int .i64 l[i].y))->dA C (fy l) b o
 |[],b,o,_=>by trivial
 |v::l,b,o,h=>by
  have h0:=h 0 (by simp);refine⟨⟨_,by simpa using h0.1,rfl,by rfl⟩,?_⟩;refine⟨⟨_,by simpa using h0.2,rfl,by rfl⟩,?_⟩;refine LN l b (o+1+1) λi hi=> ?_;have:=h (i+1) (by grind);grind
def KN{C:bG}:∀(l:List aD) (b o:Nat),(∀i (h:i<l.length),∃u,C b (o+i) u/\u.oneCell'=true/\aY C (iP l[i]) u)->dA C (l.map iP) b o
 |[],b,o,_=>by trivial
 |r::l,b,o,h=>by
  refine⟨h 0 (by simp),KN l b (o+1) λi hi=> ?_⟩;have:=h (i+1) (by grind);grind
section
variable {H:Type} {enc:TypeId×Value->H} {w:World} {base:Nat} {spare:Nat->Bool} {held:Bool}
def LX{fuel:Nat}{v:Value}{y:DataW H×List MemPlace}(h:DataW.trod enc bH w base spare held fuel 23 [v] =some y):
  ∃r:aD,aY (oP w) (iP r) v/\v.oneCell'=true/\∀B,(∀n∈mg bH 23 y.1,n<=B)->r.length*16<=B:=by
 rcases open_slice_pairs TN Tryz.underlying44 aAU rfl rfl (by kernel_rfl) (by kernel_rfl) h with⟨h1,h2⟩|⟨a,len,cap,m,n,V0,V1,D0,D1,P0,P1,h1,_,hl,_,hm,hx,hc⟩
 .simp only[qA,and_true]at h1;subst h1;refine⟨[],?_,rfl,by grind⟩;exact⟨none,0,rfl,bZ _,λ_=>⟨rfl,rfl⟩,by grind⟩
 .simp only[qA,and_true]at h1;subst h1;have hlm:len<=m:=by rw[hm];split<;>omega
  have hint:∀i,i<m->∃p:Int×Int,V0 i= .int .i64 p.1/\V1 i= .int .i64 p.2:=by intro i hi;obtain⟨_,_,g3,g4⟩:=hc i hi;obtain⟨p,hp,_⟩:=DataW.trod_int xF g3;obtain⟨q,hq,_⟩:=DataW.trod_int xF g4;simp only[qA,and_true]at hp hq;exact⟨(p,q),hp,hq⟩
  obtain⟨f,hf⟩:=choose_lt (α:=Int×Int) (p:=λi p=>V0 i= .int .i64 p.1/\V1 i= .int .i64 p.2) hint;refine⟨(bM len).map λi=>⟨(f i).1,(f i).2⟩,?_,rfl,λB hB=> ?_⟩
  .refine⟨some a,cap,by simp,by grind,(by grind),λad e=> ?_⟩;cases e;refine⟨λhpos=> ?_,LN _ _ _ λi hi=> ?_⟩
   .have h0:=(hc 0 (by grind)).1;simpa[DW]using JH h0
   .simp only[di,Iq]at hi;obtain⟨g1,g2,_⟩:=hc i (by omega);obtain⟨e0,e1⟩:=hf i (by omega);have hs:a.spot=none:=by simpa[DW]using JH (hc 0 (by omega)).1
    obtain⟨b,off,sp⟩:=a;subst hs;unfold oP;rw[w9]at g1 g2;grind
  .have:=hB ((len+(m-len))*16) (by rw[hx];simp[mg,TN,aAY]);grind
def Va{fuel:Nat}{v:Value}{y:DataW H×List MemPlace}(h:DataW.trod enc bH w base spare held fuel 24 [v] =some y):
  ∃l:List aD,aY (oP w) (qS l) v/\v.oneCell'=true/\∀B,(∀n∈mg bH 24 y.1,n<=B)->l.length*24<=B/\∀r∈l,r.length*16<=B:=by
 rcases open_slice1 Dh aAW h with⟨h1,h2⟩|⟨a,len,cap,m,n,V,D,Pl,h1,_,hl,_,hm,hx,hc⟩
 .simp only[qA,and_true]at h1;subst h1;refine⟨[],?_,rfl,by grind⟩;unfold qS aY;grind
 .simp only[qA,and_true]at h1;subst h1;have hlm:len<=m:=by rw[hm];split<;>omega
  have hring:∀i,i<m->∃r:aD,aY (oP w) (iP r) (V i)/\(V i).oneCell'=true/\∀B,(∀n∈mg bH 23 (D i),n<=B)->r.length*16<=B:=λi hi=>LX (hc i hi).2;obtain⟨f,hf⟩:=choose_lt (α:=aD) (p:=λi r=>aY (oP w) (iP r) (V i)/\(V i).oneCell'=true/\∀B,(∀n∈mg bH 23 (D i),n<=B)->r.length*16<=B) hring;refine⟨(bM len).map f,?_,rfl,λB hB=> ?_⟩
  .refine⟨some a,cap,by simp,by grind,(by grind),λad e=> ?_⟩;cases e;refine⟨λhpos=> ?_,KN _ _ _ λi hi=> ?_⟩
   .have h0:=(hc 0 (by grind)).1;simpa[DW]using JH h0
   .simp only[di,Iq]at hi;have g1:=(hc i (by omega)).1;have hs:a.spot=none:=by simpa[DW]using JH (hc 0 (by omega)).1
    obtain⟨b,off,sp⟩:=a;subst hs;rw[w9]at g1;simp only[kJ,sf];exact⟨V i,g1,by grind,by grind⟩
  .have hw:∀x,x∈mg bH 24 (DataW.slice ((bM len).map D) ((bM (m-len)).map λj=>D (len+j)))->x<=B:=by rw[hx]at hB;exact hB
   have hmem:∀{l:List (DataW H)} {d:DataW H} {x:Nat},d∈l->x∈mg bH 23 d->x∈DataW.weightsAll bH 23 l:=by
    intro l;induction l with
    |nil=>grind
    |cons e l ih=>
     simp only[DataW.weightsAll,bl];grind
   refine⟨?_,λr hr=> ?_⟩
   .have:=hw ((len+(m-len))*24) (by simp[mg,Dh,aAZ]);grind
   .obtain⟨i,hi,rfl⟩:=bR.1 hr;have hi:=cD.1 hi;refine(hf i (by omega)).2.2 B λx hx2=>hw x ?_;simp only[mg,Dh,bI,bl];grind
def KV{r:Reach}{b0:Nat}{v:Value}{d:DataW H}{p:List MemPlace}(hv:Value.okWide bH w r b0 26 v)(h:DataW.Trod enc bH w base spare held 26 v d p)(hw:∀n∈mg bH 26 d,n<=reachBytes):
  ∃s:Shape,aY (oP w) (lC s) v/\kY s:=by
 obtain⟨v0,v1,y0,y1,n,rfl,rfl,_,h0,h1⟩:=open_agg2 TP (by kernel_rfl) aAV hv h;obtain⟨ro,g1,g2,g3⟩:=LX h0;obtain⟨rs,g4,g5,g6⟩:=Va h1;have hB:reachBytes<=140737488351232:=of_decide_eq_true (by kernel_rfl);have k1:=g3 reachBytes λx hx=>hw x (by simp only[mg,TP,dX,TQ,bl];exact .inl hx);have k2:=g6 reachBytes λx hx=>hw x (by simp only[mg,TP,dX,TQ,bl];grind);refine⟨⟨ro,rs⟩,?_,by grind,by grind,by grind⟩;refine⟨[v0,v1],rfl,?_,?_⟩
 .refine⟨v0,[v1],rfl,g1,?_⟩;exact⟨v1,[],rfl,g4,by rfl⟩
 .intro u hu;grind
end
section
variable {H:Type} {enc:TypeId×Value->H} {w:World} {base:Nat} {spare:Nat->Bool} {held:Bool}
end
def aBo{f:FuncId}{xs:List SV}{r:SV}{B:List PV}{q:PV}(h:∃A q,avs xs=A.map .p/\r.av= .p q/\Sat bH false f A q)(hB:avs xs=B.map .p)(hq:r.av= .p q):Sat bH false f B q:=by
 obtain⟨A,q',h1,h2,h3⟩:=h;rw[hq]at h2;rw[hB]at h1;have:B=A:=by have:=congrArg bT h1;rw[dV,dV]at this;cases this;rfl
 grind
def aCz(s:Shape):(aSh.enc s).av= .p (lC s):=by show eO [.p (.sl s.outer.length (fy s.outer)),.p (.sl s.holes.length (LT.R.enc s.holes))] =_;rw[uG];rfl
end
def DC(p:V)(e:S):List V:=if e.a=p then [e.b]else if e.b=p then [e.a]else []
def qn(l:List S)(p:V):List V:=l.flatMap (DC p)
def uC(l:List S)(p q:V):Bool:=decide (0<=turn p (fV (qn l p) p q true) (fV (qn l p) p q false))
def oT(s:Shape)(K:List S)(k:Nat):List S:=ao s++K++(dOf s).drop k
def yx(l:List S)(d:S):Bool:= !uC l d.a d.b|| !uC l d.b d.a
def kpR(s:Shape):Nat->List S
 |0=>[]
 |k+1=>if yx (oT s (kpR s k) k) (aW (dOf s) k)=true then kpR s k++[aW (dOf s) k]else kpR s k
def Gd(s:Shape):∀k,k<=(dOf s).length->∀e∈kpR s k,e∈dOf s
 |0,_,e,he=>by cases he
 |k+1,h,e,he=>by
  unfold kpR at he;split at he
  .rcases bl.1 he with he|he
   .exact Gd s k (by omega) e he
   .rw[bn.1 he,jB (by omega)];grind
  .exact Gd s k (by omega) e he
def hU(s:Shape)(k:Nat):List S:=aJ s.outer++(s.holes.take k).flatMap λr=>aJ r.reverse
def OL{r:aD}{e:S}(h:e∈aJ r):e.a∈r/\e.b∈r:=by
 unfold aJ at h;split at h
 .cases h
 .obtain⟨i,hi,rfl⟩:=bR.1 h;have hi:=cD.1 hi;exact⟨dO hi,dO (bz _ (by omega))⟩
def oL(A:List (Nat×Nat))(L:List (List Int)):List (List Int):=A.foldl (λL p=>both L p.1 p.2) L
def AD(A B:List (Nat×Nat))(L:List (List Int)):oL (A++B) L=oL B (oL A L):=List.foldl_append
def Kc(p:Nat×Nat)(A:List (Nat×Nat))(L:List (List Int)):oL (p::A) L=oL A (both L p.1 p.2):=rfl
def Ca(base m:Nat):List (Nat×Nat):=(bM m).map λt=>(base+t,base+(t+1) % m)
def tg(R:List aD):Nat->List (Nat×Nat)
 |0=>[]
 |k+1=>tg R k++Ca (bs R k) (aC R k).length
def Mi(base m:Nat)(L:List (List Int)):∀i,rgO base m i L=oL ((bM i).map λt=>(base+t,base+(t+1) % m)) L
 |0=>rfl
 |i+1=>by
  unfold rgO;rw[Mi base m L i,q8,dM,AD];rfl
def Mf(R:List aD)(L:List (List Int)):∀k,rsO R k L=oL (tg R k) L
 |0=>rfl
 |k+1=>by
  unfold rsO tg;rw[Mf R L k,AD,Mi];rfl
def NZ(v:List V)(D:List S)(L:List (List Int)):∀k,k<=D.length->dgO v D k L=oL ((dgP v D).take k) L
 |0,_=>rfl
 |k+1,h=>by
  have hk:k<(dgP v D).length:=by unfold dgP;rw[di];omega
  have hD:k<D.length:=by omega
  have e:(dgP v D)[k] =(c6 v D[k].a,c6 v D[k].b):=by simp only[dgP,kJ]
  unfold dgO;rw[NZ v D L k (by omega),mc hk,AD,e,jB hD];rfl
def n7(s:Shape):List (Nat×Nat):=tg (aE (aM s)) (aE (aM s)).length++dgP (vOf s) (dOf s)
def Og(s:Shape):oD s=oL (n7 s) (cl (vOf s).length []):=by unfold oD oB n7;rw[NZ _ _ _ _ (bZ _),Mf,AD,List.take_of_length_le (by unfold dgP;grind)]
def Fq{L:List (List Int)}{a b c:Nat}{x:Int}(h:a<L.length):x∈aj (iu L a b) c↔x∈aj L c\/(c=a/\x=b):=by unfold iu;rw[vK];grind
def Fp{L:List (List Int)}{a b c:Nat}{x:Int}(h1:a<L.length)(h2:b<L.length):x∈aj (both L a b) c↔x∈aj L c\/(c=a/\x=b)\/(c=b/\x=a):=by unfold both;rw[Fq (by rw[yC];exact h2),Fq h1,or_assoc]
def NA:∀(A:List (Nat×Nat)) {L:List (List Int)} {c:Nat} {x:Int},(∀p∈A,p.1<L.length/\p.2<L.length)->(x∈aj (oL A L) c↔x∈aj L c\/∃j:Nat,x=j/\((c,j)∈A\/(j,c)∈A))
 |[],L,c,x,_=>by
  show x∈aj L c↔_;simp
 |p::A,L,c,x,h=>by
  obtain⟨h1,h2⟩:=h p cI;rw[Kc,NA A (λq hq=>by rw[BY];grind),Fp h1 h2];grind
def Ky{L:List (List Int)}{a b:Nat}(h:∀c,(aj L c).Nodup)(hb:(b:Int)∉aj L a):∀c,(aj (iu L a b) c).Nodup:=λc=>by unfold iu;rw[vK];grind
def Kb:∀(A:List (Nat×Nat)) {L:List (List Int)},(∀p∈A,p.1<L.length/\p.2<L.length/\p.1≠p.2)->(∀c,(aj L c).Nodup)->(∀p∈A,(p.2:Int)∉aj L p.1/\(p.1:Int)∉aj L p.2)->A.Pairwise (λp q=>p≠q/\p≠(q.2,q.1))->∀c,(aj (oL A L) c).Nodup
 |[],L,_,hn,_,_=>hn
 |p::A,L,h,hn,hm,hp=>by
  obtain⟨h1,h2,h3⟩:=h p cI;obtain⟨m1,m2⟩:=hm p cI;obtain⟨q1,q2⟩:=List.pairwise_cons.1 hp;rw[Kc];refine Kb A (λq hq=>by rw[BY];grind) ?_ (λq hq=> ?_) q2
  .unfold both;refine Ky (Ky hn m1) λg=> ?_;rcases(Fq h1).1 g with g|⟨g,_⟩
   .exact m2 g
   omega
  .have hq2:=hm q (cG _ hq);have hne:=q1 q hq;obtain⟨a,b⟩:=p;obtain⟨c,d⟩:=q;rw[Fp h1 h2,Fp h1 h2];grind
section
def phi(v:List aFH)(p:Nat×Nat):S:=⟨aFG v p.1,aFG v p.2⟩
def Ev{a b:List aFH}{i:Nat}(h:i<a.length):aFG (a++b) i=aFG a i:=by unfold aFG;grind
def LZ{a b:List aFH}(i:Nat):aFG (a++b) (a.length+i)=aFG b i:=by unfold aFG;grind
def x4:∀(R:List aD) (k t:Nat),k<R.length->t<(aC R k).length->aFG R.flatten (bs R k+t)=aFG (aC R k) t
 |r::R,0,t,_,ht=>by
  have e:bs (r::R) 0=0:=rfl;rw[e,kN,mT];exact Ev ht
 |r::R,k+1,t,hk,ht=>by
  have e:bs (r::R) (k+1)=r.length+bs R k:=by unfold bs;rw[List.take_succ_cons,mT,fM]
  rw[e,Nat.add_assoc,mT,LZ];exact x4 R k t (by grind) ht
def Yd{R:List aD}{k:Nat}(hk:k<R.length){p:Nat×Nat}(h:p∈Ca (bs R k) (aC R k).length):p.1<R.flatten.length/\p.2<R.flatten.length:=by have h1:=re hk;have h2:=wL R (k+1);obtain⟨t,ht,rfl⟩:=bR.1 h;have ht:=cD.1 ht;have:=bz (t+1) (show 0<(aC R k).length by omega);omega
def LI{R:List aD}:∀k,k<=R.length->∀p∈tg R k,p.1<R.flatten.length/\p.2<R.flatten.length
 |0,_,p,h=>by cases h
 |k+1,hk,p,h=>by
  rcases bl.1 h with h|h
  .exact LI k (by omega) p h
  .exact Yd (by omega) h
def Ws{R:List aD}{k:Nat}(hk:k<R.length)(h2:2<=(aC R k).length):(Ca (bs R k) (aC R k).length).map (phi R.flatten)=aJ (aC R k):=by unfold Ca aJ;rw[if_neg (by omega),dU];refine mU λt ht=> ?_;have ht:=cD.1 ht;have e1:=x4 R k t hk ht;have e2:=x4 R k ((t+1) % (aC R k).length) hk (bz _ (by omega));show phi R.flatten (bs R k+t,bs R k+(t+1) % (aC R k).length)=bO (aC R k) t;unfold phi;dsimp only;rw[e1,e2];rfl
def KL{R:List aD}(h2:∀r∈R,2<=r.length):∀k,k<=R.length->(tg R k).map (phi R.flatten)=(R.take k).flatMap aJ
 |0,_=>rfl
 |k+1,hk=>by
  unfold tg;rw[dM,KL h2 k (by omega),Ws (by omega) (h2 _ (gH (by omega))),mc (by omega),List.flatMap_append,kz (by omega)];simp
def rQ{v:List aFH}{u:aFH}(h:u∈v):aFG v (c6 v u)=u:=by have hl:=mr h;have:=List.findIdx_getElem (xs:=v) (p:=λx=>decide (u=x)) (w:=hl);unfold aFG;rw[eI,List.getElem?_eq_getElem hl];exact(of_decide_eq_true this).symm
def aAO{v:List aFH}{D:List S}(h:∀d∈D,d.a∈v/\d.b∈v):(dgP v D).map (phi v)=D:=by
 unfold dgP;rw[dU];have:∀d∈D,(phi v∘λd:S=>(c6 v d.a,c6 v d.b)) d=d:=λd hd=>by show phi v (c6 v d.a,c6 v d.b)=d;unfold phi;dsimp only;rw[rQ (h d hd).1,rQ (h d hd).2]
 rw[mU this,List.map_id']
section
variable {s:Shape}
def qK(h:ai s=true):aM s=cO s:=by unfold aM;rw[if_pos (by rw[ku];exact h)]
def oy(h:ai s=true):vOf s=(aE (aM s)).flatten:=by rw[qL h,qK h];rfl
def BK(h:ai s=true):∀r∈aE (aM s),2<=r.length:=by
 intro r hr;rw[qK h]at hr;have V:=vsR h;have key:∀q∈aE s,2<=q.length:=λq hq=>by have:=(V.ring hq).three;omega
 unfold aE cO at hr;rcases bI.1 hr with e|hr
 .rw[e,jg];exact key _ cI
 .have hr2:=(l6 _).mem_iff.1 hr;obtain⟨q,hq,rfl⟩:=bR.1 hr2;rw[jg];exact key _ (cG _ hq)
def Ka(h:ai s=true):(n7 s).map (phi (vOf s))=ao (cO s)++dOf s:=by
 unfold n7;rw[dM,aAO λd hd=>(vo (by rw[ku];exact h)).2 d hd]
 congr 1
 rw[oy h,KL (BK h) _ (bZ _),si,qK h];rfl
def xp(h:ai s=true):∀p∈n7 s,p.1<(vOf s).length/\p.2<(vOf s).length:=by
 intro p hp;unfold n7 at hp;rcases bl.1 hp with hp|hp
 .rw[oy h];exact LI _ (bZ _) p hp
 .exact Hv (by rw[ku];exact h) hp
end
end
section
section
variable {s:Shape}
def u5(h:ai s=true):(vOf s).Perm (bk s):=by rw[qL h];exact oi s
def Aj(h:ai s=true):(vOf s).Nodup:=(u5 h).nodup_iff.2 (vsR h).nodup
def tgR(h:ai s=true):Tg s (dOf s):=by rw[Bp h];exact QH (vsR h) (λx=>(u5 h).mem_iff) (Aj h)
def J2{D:List S}(T:Tg s D){e:S}(he:e∈ao s):swp e∉ao s:=λhf=>by
 unfold ao at he hf;obtain⟨r,hr,her⟩:=dG.1 he;obtain⟨q,hq,heq⟩:=dG.1 hf;by_cases hrq:r=q
 .subst hrq;unfold aE at hr;rcases bI.1 hr with g|g
  .subst g;exact(AZ T her).2 (AZ T heq).1
  .exact(BD T g her).2 (BD T g heq).1
 .exact(xZ T hr hq hrq (v:=e.a) (OL her).1 heq).2 rfl
def XT{r:aD}(h:2<=r.length):(aJ r).map S.a=r:=by unfold aJ;rw[if_neg (by omega),dU];refine List.ext_getElem (by simp) λi h1 h2=> ?_;rw[kJ,sf];exact nth_eq h2
def Fy:∀{l:List aD},(∀r∈l,2<=r.length)->(l.flatMap aJ).map S.a=l.flatten
 |[],_=>rfl
 |r::l,h=>by
  rw[List.flatMap_cons,dM,XT (h r cI),Fy λq hq=>h q (cG _ hq),mT]
def To(h:ai s=true):(ao (cO s)).Nodup:=by
 have e:(ao (cO s)).map S.a=vOf s:=by rw[oy h,<-Fy (BK h),qK h];rfl
 have hn:=Aj h;rw[<-e]at hn;exact Iv (λ{a b} hne (e:a=b)=>hne (by rw[e])) (km.1 hn)
def Vh(h:ai s=true):(n7 s).Pairwise λp q=>p≠q/\p≠(q.2,q.1):=by
 have T:=tgR h;have key:((n7 s).map (phi (vOf s))).Pairwise λe f=>e≠f/\e≠swp f:=by
  rw[Ka h,List.pairwise_append];refine⟨?_,?_,?_⟩
  .refine JG (λ{e f} he hf hne=>⟨hne,λg=> ?_⟩) (To h);rw[xN]at he hf;rw[g]at he;exact J2 T hf he
  .exact T.once.imp λ{a b} h=>h
  .intro e he d hd;rw[xN]at he;exact om T hd he
 rw[km]at key;exact key.imp λ{p q} h=>⟨λe=>h.1 (by rw[e]),λe=>h.2 (by rw[e];rfl)⟩
def qH(h:ai s=true){i j:Nat}(hi:i<(vOf s).length)(hj:j<(vOf s).length)(e:aFG (vOf s) i=aFG (vOf s) j):i=j:=fS (Aj h) hi hj e
def E0(h:ai s=true){i j:Nat}(hi:i<(vOf s).length)(hj:j<(vOf s).length):((i,j)∈n7 s\/(j,i)∈n7 s)↔sides s (dOf s) (aFG (vOf s) i) (aFG (vOf s) j):=by
 have m:∀{a b:Nat},a<(vOf s).length->b<(vOf s).length->((a,b)∈n7 s↔(⟨aFG (vOf s) a,aFG (vOf s) b⟩:S)∈ao s++dOf s):=λ{a b} ha hb=>by
  rw[bl,<-xN,<-bl,<-Ka h,bR];constructor
  .intro g;exact⟨_,g,rfl⟩
  .rintro⟨⟨c,d⟩,g,e⟩;obtain⟨g1,g2⟩:=xp h _ g;have e1:aFG (vOf s) c=aFG (vOf s) a:=congrArg S.a e;have e2:aFG (vOf s) d=aFG (vOf s) b:=congrArg S.b e;have e1:=qH h g1 ha e1;have e2:=qH h g2 hb e2;grind
 rw[m hi hj,m hj hi];rfl
def CB(n c:Nat):aj (cl n ([] :List Int)) c=[] :=by unfold aj;grind
def vl(h:ai s=true){i:Nat}(hi:i<(vOf s).length){x:Int}:x∈aj (oD s) i↔∃j:Nat,x=j/\j<(vOf s).length/\sides s (dOf s) (aFG (vOf s) i) (aFG (vOf s) j):=by
 rw[Og,NA _ (λp hp=>by rw[ze];exact xp h p hp),CB];constructor
 .rintro(g|⟨j,rfl,g⟩)
  .cases g
  .have hj:j<(vOf s).length:=by
    rcases g with g|g
    .exact(xp h _ g).2
    .exact(xp h _ g).1
   exact⟨j,rfl,hj,(E0 h hi hj).1 g⟩
 .rintro⟨j,rfl,hj,g⟩;exact .inr ⟨j,rfl,(E0 h hi hj).2 g⟩
def Bg(h:ai s=true){a b:V}(g:sides s (dOf s) a b):a≠b:=(tgR h).segs.ne g
def Yp(h:ai s=true)(c:Nat):(aj (oD s) c).Nodup:=by rw[Og];refine Kb _ (λp hp=> ?_) (λc=>by rw[CB];grind) (λp hp=>by rw[CB,CB];grind) (Vh h) c;rw[ze];obtain⟨h1,h2⟩:=xp h p hp;refine⟨h1,h2,λe=> ?_⟩;have:=(E0 h h1 h2).1 (.inl hp);rw[e]at this;exact Bg h this rfl
def yQ(v:List V)(p x y:Nat):mQ v p x y<0↔alt (aFJ (aFG v x) (aFG v p)) (aFJ (aFG v y) (aFG v p)):=by
 unfold mQ;dsimp only;generalize aFJ (aFG v x) (aFG v p)=a;generalize aFJ (aFG v y) (aFG v p)=b;have ht:0<turn ⟨0,0⟩ a b↔0<cross a b:=by
  have e:cross (aFJ a ⟨0,0⟩) (aFJ b ⟨0,0⟩)=cross a b:=by unfold cross aFJ;simp
  unfold turn sgn;rw[e];split
  .omega
  .omega
 have hh:∀u:V,ib u=if iB u then 0 else 1:=λu=>by unfold ib iB;omega
 rw[hh,hh];unfold alt;grind
end
end
section
def vtx(v:List V)(x:Int):V:=aFG v x.toNat
def fD(v:List V)(L:List (List Int))(i:Nat):List V:=(aj L i).map (vtx v)
section
variable {s:Shape}
def nF(h:ai s=true):Net (bk s) (sides s (dOf s)):=(tgR h).segs.net
def Mv(h:ai s=true){i:Nat}(hi:i<(vOf s).length):∃j,j<(vOf s).length/\(⟨aFG (vOf s) i,aFG (vOf s) j⟩:S)∈ao s:=by
 have hm:aFG (vOf s) i∈(ao (cO s)).map S.a:=by
  have e:(ao (cO s)).map S.a=vOf s:=by rw[oy h,<-Fy (BK h),qK h];rfl
  rw[e];exact dO hi
 obtain⟨⟨a,b⟩,he,e⟩:=bR.1 hm;have e:a=aFG (vOf s) i:=e;subst e;have hb:b∈vOf s:=by unfold ao at he;obtain⟨r,hr,her⟩:=dG.1 he;rw[qL h];exact lu.2 ⟨r,hr,(OL her).2⟩
 obtain⟨j,hj,e⟩:=eL.1 hb;rw[xN,e]at he;grind
def gok(h:ai s=true):GOk s:=λk hk=>by
 have N:=nF h;have cell:∀x∈aj (oD s) k,∃j:Nat,x=j/\j<(vOf s).length/\sides s (dOf s) (aFG (vOf s) k) (aFG (vOf s) j):=λx hx=>(vl h hk).1 hx;have nzz:∀{j:Nat},sides s (dOf s) (aFG (vOf s) k) (aFG (vOf s) j)->nz (aFJ (aFG (vOf s) j) (aFG (vOf s) k)):=λg=>lD (N.ne g).symm;refine⟨?_,λx hx=> ?_,⟨?_,?_,?_⟩⟩
 .obtain⟨j,hj,he⟩:=Mv h hk;exact List.length_pos_of_mem ((vl h hk).2 ⟨j,rfl,hj,.inl (ig _ he)⟩)
 .grind
 .intro x hx y hy z hz h1 h2;obtain⟨a,rfl,ha,ga⟩:=cell x hx;obtain⟨b,rfl,hb,gb⟩:=cell y hy;obtain⟨c,rfl,hc,gc⟩:=cell z hz;unfold ltA at*;rw[decide_eq_true_eq,yQ,jf,jf]at*;exact Xw (nzz ga) (nzz gb) (nzz gc) h1 h2
 .intro x hx y hy h1;obtain⟨a,rfl,ha,ga⟩:=cell x hx;obtain⟨b,rfl,hb,gb⟩:=cell y hy;unfold ltA at*;rw[decide_eq_true_eq,yQ]at h1;rw[decide_eq_false_iff_not,yQ];exact GD h1
 .intro x hx y hy h1 h2;obtain⟨a,rfl,ha,ga⟩:=cell x hx;obtain⟨b,rfl,hb,gb⟩:=cell y hy;unfold ltA at*;rw[decide_eq_false_iff_not,yQ,jf,jf]at h1 h2;by_cases e:a=b
  .rw[e]
  .exfalso;have hne:aFG (vOf s) a≠aFG (vOf s) b:=λg=>e (qH h ha hb g);exact h2 (aA6 (nzz ga) (nzz gb) (N.fanApart ga gb hne) h1)
def Gc(h:ai s=true){i:Nat}(hi:i<(vOf s).length):(aj (oG s) i).Perm (aj (oD s) i):=by unfold oG;rw[yS _ _ _ _ (by rw[yX];exact hi),if_pos hi];exact uq _ _
def aEd(h:ai s=true){i:Nat}(hi:i<(vOf s).length):aFQ (aFG (vOf s) i) (fD (vOf s) (oG s) i):=by
 have N:=nF h;have P:=Gc h hi;have g:=(gok h i hi).2.2;refine aBQ N (λx hx=> ?_) ?_
 .obtain⟨y,hy,rfl⟩:=bR.1 hx;obtain⟨j,rfl,_,gj⟩:=(vl h hi).1 (P.mem_iff.1 hy);unfold vtx;grind
 .unfold fD;rw[km];have hs:(aj (oG s) i).Pairwise λa b=>ltA (vOf s) i b a=false:=by unfold oG;rw[yS _ _ _ _ (by rw[yX];exact hi),if_pos hi];exact Dv g _ λ_ h=>h
  have hn:(aj (oG s) i).Nodup:=P.nodup_iff.2 (Yp h i);refine JG (λ{a b} ha hb q=> ?_) (List.Pairwise.and hs hn);have ha:=P.mem_iff.1 ha;have hb:=P.mem_iff.1 hb;cases e:ltA (vOf s) i a b with
  |true=>
   unfold ltA at e;rw[decide_eq_true_eq,yQ]at e;exact e
  |false=>exact absurd (g.tot a ha b hb e q.1) q.2
def ZK(h:ai s=true){i:Nat}(hi:i<(vOf s).length){x:V}:x∈fD (vOf s) (oG s) i↔sides s (dOf s) (aFG (vOf s) i) x:=by
 have P:=Gc h hi;unfold fD;rw[bR];constructor
 .rintro⟨y,hy,rfl⟩;obtain⟨j,rfl,_,gj⟩:=(vl h hi).1 (P.mem_iff.1 hy);unfold vtx;grind
 .intro g;have hx:x∈vOf s:=(u5 h).mem_iff.2 ((nF h).mem ((nF h).symm g));obtain⟨j,hj,rfl⟩:=eL.1 hx;exact⟨j,P.mem_iff.2 ((vl h hi).2 ⟨j,rfl,hj,g⟩),by unfold vtx;grind⟩
end
end
section
def XR{l:List S}{p x:V}(h:∀e∈l,e.a≠e.b):x∈qn l p↔eC l p x:=by
 unfold qn eC;rw[dG];constructor
 .rintro⟨⟨a,b⟩,he,hx⟩;unfold DC at hx;grind
 .rintro(g|g)
  .exact⟨_,g,by unfold DC;grind⟩
  .refine⟨_,g,?_⟩;have:=h _ g;unfold DC;grind
def O5{l:List Int}{x:Int}(h:x∈l):∃ha:fR l x<l.length,l[fR l x] =x:=by have ha:=O4 h;refine⟨ha,?_⟩;have:=List.findIdx_getElem (xs:=l) (p:=λu=>decide (x=u)) (w:=ha);exact(of_decide_eq_true this).symm
def J6{v:List V}{L:List (List Int)}{i j:Nat}{p:V}{l:List V}(F:aFQ p (fD v L i))(hl:∀x,x∈l↔x∈fD v L i)(hm:(j:Int)∈aj L i):aFG v (io L i j (-1))=fV l p (aFG v j) true:=by
 obtain⟨ha,e⟩:=O5 hm;have hlen:(fD v L i).length=(aj L i).length:=di ..;have ha2:fR (aj L i) (j:Int)<(fD v L i).length:=by omega
 have e2:(fD v L i)[fR (aj L i) (j:Int)] =aFG v j:=by simp only[fD,kJ,e,vtx,jf]
 have hk:(fR (aj L i) (j:Int)+(fD v L i).length-1) % (fD v L i).length<(fD v L i).length:=bz _ (by omega);have:=F.prev hl ha2 hk rfl;rw[e2]at this;rw[this];unfold io;dsimp only;have e3:((fR (aj L i) (j:Int):Int)+ -1+(aj L i).length).toNat=fR (aj L i) (j:Int)+(aj L i).length-1:=by omega
 rw[e3];simp only[fD,kJ,di,vtx]
 congr 2
 exact pC (by grind)
def U7{v:List V}{L:List (List Int)}{i j:Nat}{p:V}{l:List V}(F:aFQ p (fD v L i))(hl:∀x,x∈l↔x∈fD v L i)(hm:(j:Int)∈aj L i):aFG v (io L i j 1)=fV l p (aFG v j) false:=by
 obtain⟨ha,e⟩:=O5 hm;have hlen:(fD v L i).length=(aj L i).length:=di ..;have ha2:fR (aj L i) (j:Int)<(fD v L i).length:=by omega
 have e2:(fD v L i)[fR (aj L i) (j:Int)] =aFG v j:=by simp only[fD,kJ,e,vtx,jf]
 have hk:(fR (aj L i) (j:Int)+1) % (fD v L i).length<(fD v L i).length:=bz _ (by omega);have:=F.next hl ha2 hk rfl;rw[e2]at this;rw[this];unfold io;dsimp only;have e3:((fR (aj L i) (j:Int):Int)+1+(aj L i).length).toNat % (aj L i).length=(fR (aj L i) (j:Int)+1) % (aj L i).length:=by rw[show((fR (aj L i) (j:Int):Int)+1+(aj L i).length).toNat=fR (aj L i) (j:Int)+1+(aj L i).length by omega,pk]
 rw[e3];simp only[fD,kJ,di,vtx]
 congr 2
 exact pC (by grind)
def aAq{v:List V}{L:List (List Int)}{i j:Nat}{A:List S}(F:aFQ (aFG v i) (fD v L i))(hl:∀x,x∈qn A (aFG v i)↔x∈fD v L i)(hm:(j:Int)∈aj L i):iQ v L i j=uC A (aFG v i) (aFG v j):=by unfold iQ uC;rw[J6 F hl hm,U7 F hl hm]
section
variable {s:Shape}
def aAE(h:ai s=true){i:Nat}(hi:i<(vOf s).length):∃u,(⟨u,aFG (vOf s) i⟩:S)∈ao s:=by
 have hm:aFG (vOf s) i∈bk s:=(u5 h).mem_iff.1 (dO hi);unfold bk at hm;obtain⟨r,hr,hx⟩:=lu.1 hm;obtain⟨t,ht,e⟩:=eL.1 hx;have h3:=((vsR h).ring hr).three;refine⟨aFG r ((t+r.length-1) % r.length),dG.2 ⟨r,hr,?_⟩⟩;unfold aJ;rw[if_neg (by omega)];refine bR.2 ⟨(t+r.length-1) % r.length,cD.2 (bz _ (by omega)),?_⟩;have e2:((t+r.length-1) % r.length+1) % r.length=t:=by rw[lP,show t+r.length-1+1=t+r.length by omega,pk,dh ht]
 show bO r ((t+r.length-1) % r.length)=_;unfold bO nxt;rw[e2,e]
end
end
section
abbrev AK(s:Shape)(k:Nat):List aFI:=oT s (kpR s k) k
def HK(s:Shape)(k:Nat)(e:aFI):Prop:=e∈mO (mP s) (kpR s k++(dOf s).drop k)
def nxK(s:Shape)(k:Nat)(e:aFI):V:=fV (qn (AK s k) e.b) e.b e.a true
structure Stg(s:Shape)(k:Nat):Prop where
 fan:∀i,i<(vOf s).length->aFQ (aFG (vOf s) i) (fD (vOf s) (sG s k).1 i)
 rng:∀i,i<(vOf s).length->∀x∈aj (sG s k).1 i,∃j:Nat,x=j/\j<(vOf s).length
 mem:∀i,i<(vOf s).length->∀x,eC (AK s k) (aFG (vOf s) i) x↔x∈fD (vOf s) (sG s k).1 i
 kept:(sG s k).2.map (phi (vOf s))=kpR s k
 faceQ:∃F,aFR (nxK s k) (HK s k) F/\∃TL,All3 (bk s) (sides s (dOf s)) (c8 s) TL/\qq TL F/\F.length+k=TL.length+(kpR s k).length
def Stg.face{s:Shape}{k:Nat}(S:Stg s k):∃F,aFR (nxK s k) (HK s k) F:=let⟨F,h,_⟩:=S.faceQ;⟨F,h⟩
def Fan.sub{p:V}{L M:List V}(F:aFQ p L)(h:M.Sublist L):aFQ p M where
 nz:=λx hx=>F.nz x (h.subset hx)
 apart:=λx hx y hy=>F.apart x (h.subset hx) y (h.subset hy)
 sorted:=F.sorted.sublist h
def Fan.nil(p:V):aFQ p [] :=⟨λ_ h=>(cq h).elim,λ_ h=>(cq h).elim,List.Pairwise.nil⟩
def Faces.congr{nx:aFI->V}{H G:aFI->Prop}{F:List (List V)}(Fc:aFR nx H F)(h:∀e,H e↔G e):aFR nx G F:=⟨Fc.cx,Fc.once,λe=>(Fc.all e).trans (h e),Fc.next⟩
section
variable {s:Shape}
def NB(s:Shape):∀k,k<=(dOf s).length->∀e∈kpR s k,∃m,∃hm:m<(dOf s).length,m<k/\(dOf s)[m] =e
 |0,_,e,he=>by cases he
 |k+1,h,e,he=>by
  unfold kpR at he;have up:∀e∈kpR s k,∃m,∃hm:m<(dOf s).length,m<k+1/\(dOf s)[m] =e:=λe he=>by obtain⟨m,hm,h1,h2⟩:=NB s k (by omega) e he;grind
  split at he
  .rcases bl.1 he with he|he
   .exact up e he
   .rw[bn.1 he,jB (by omega)];grind
  grind
def QF{k:Nat}(hk:k<=(dOf s).length):∀e∈AK s k,e∈ao s++dOf s:=λe he=>by
 unfold AK oT at he;rcases bl.1 he with he|he
 .rcases bl.1 he with he|he
  .grind
  .exact gq _ (Gd s k hk e he)
 grind
def vY{k:Nat}(hk:k<=(dOf s).length){a b:V}(h:eC (AK s k) a b):sides s (dOf s) a b:=h.imp (QF hk _) (QF hk _)
def aCB(h:ai s=true){k:Nat}(hk:k<=(dOf s).length):∀e∈AK s k,e.a≠e.b:=λe he=>Bg h (vY hk (.inl he))
def Od(h:ai s=true){m k:Nat}(hm:m<(dOf s).length)(hk:k<(dOf s).length)(hne:m≠k):(dOf s)[m]≠(dOf s)[k]/\(dOf s)[m]≠swp (dOf s)[k] :=by
 have T:=(tgR h).once;rw[List.pairwise_iff_getElem]at T;rcases Nat.lt_or_gt_of_ne hne with g|g
 .exact T m k hm hk g
 .have:=T k m hk hm g;exact⟨this.1.symm,λe=>this.2 (by rw[e];rfl)⟩
def Bw(h:ai s=true){k:Nat}(hk:k<=(dOf s).length){e:aFI}(he:HK s k e):eC (AK s k) e.a e.b:=by
 unfold HK mO at he;rw[bl,bl,mq,BV (tgR h)]at he;unfold AK oT eC;rw[jt];rcases he with⟨g,_⟩|g|g
 .exact g.imp (ig _) (ig _)
 .simp_all
 .exact .inr (gq _ g)
def x5(h:ai s=true){k:Nat}(hk:k<=(dOf s).length){p x:V}:x∈qn (AK s k) p↔eC (AK s k) p x:=XR (aCB h hk)
def MJ(h:ai s=true){a b:V}(g:sides s (dOf s) a b):a∈vOf s:=(u5 h).mem_iff.2 ((nF h).mem g)
def Stg.start(h:ai s=true):Stg s 0:=by
 have T:=tgR h;have N:=nF h;have e0:AK s 0=ao s++dOf s:=by unfold AK oT kpR;simp
 refine⟨λi hi=>aEd h hi,λi hi x hx=> ?_,λi hi x=> ?_,rfl,?_⟩
 .obtain⟨j,e,hj,_⟩:=(vl h hi).1 ((Gc h hi).mem_iff.1 hx);grind
 .rw[e0];exact(ZK h hi).symm
 .obtain⟨TL,A⟩:=MH N (c8 s) (vsR h).nodup;have eD:kpR s 0++(dOf s).drop 0=dOf s:=by unfold kpR;simp
  refine⟨_,Faces.congr (aBR T.filled A (DS:=mO (mP s) (dOf s)) ?_ (NW T (BV T)) ?_) λe=>by unfold HK;rw[eD],TL,A,qq.start TL,by unfold kpR;simp⟩
  .refine Kt T (V8 T) λe he=> ?_;rcases((BV T e).1 he).1 with g|g
   .exact .inl g
   .exact .inr g
  .intro a b c t;exact Tri.next N t λx=>by rw[x5 h (kK _),e0];rfl
def Stg.ar(h:ai s=true){k:Nat}(S:Stg s k){i j:Nat}(hi:i<(vOf s).length)(hj:j<(vOf s).length)(g:eC (AK s k) (aFG (vOf s) i) (aFG (vOf s) j)):ArOk (vOf s) (sG s k).1 i j:=by
 refine⟨by rw[yU];exact hi,?_,λx hx=> ?_,?_⟩
 .obtain⟨y,hy,e⟩:=bR.1 ((S.mem i hi _).1 g);obtain⟨m,rfl,hm⟩:=S.rng i hi y hy;unfold vtx at e;rw[jf]at e;rw[<-qH h hm hj e];exact hy
 .obtain⟨m,rfl,hm⟩:=S.rng i hi x hx;omega
 .have hn:=(S.fan i hi).nodup;have e:fD (vOf s) (sG s k).1 i=((aj (sG s k).1 i).map Int.toNat).map (aFG (vOf s)):=by unfold fD;rw[dU];rfl
  rw[e]at hn;have hn2:((aj (sG s k).1 i).map Int.toNat).Nodup:=Iv (λ{a b} hne (e:a=b)=>hne (by rw[e])) (km.1 hn);have:=BO (vOf s).length _ hn2 λx hx=>by obtain⟨y,hy,rfl⟩:=bR.1 hx;obtain⟨m,rfl,hm⟩:=S.rng i hi y hy;omega
  rw[di]at this;have:=mw s;omega
def OX(h:ai s=true){k:Nat}(hk:k<(dOf s).length):(aa (pG s) k).1<(vOf s).length/\(aa (pG s) k).2<(vOf s).length/\aFG (vOf s) (aa (pG s) k).1=(dOf s)[k].a/\aFG (vOf s) (aa (pG s) k).2=(dOf s)[k].b:=by
 have hd:=(vo (s:=s) (by rw[ku];exact h)).2 _ (nR hk);have hp:k<(pG s).length:=by rw[rj];exact hk
 have e:aa (pG s) k=(c6 (vOf s) (dOf s)[k].a,c6 (vOf s) (dOf s)[k].b):=by rw[o8 hp];simp only[pG,dgP,kJ]
 rw[e];exact⟨mr hd.1,mr hd.2,rQ hd.1,rQ hd.2⟩
def Stg.need(h:ai s=true){k:Nat}(hk:k<=(dOf s).length)(S:Stg s k){i j:Nat}(hi:i<(vOf s).length)(hj:j<(vOf s).length)(g:eC (AK s k) (aFG (vOf s) i) (aFG (vOf s) j)):iQ (vOf s) (sG s k).1 i j=uC (AK s k) (aFG (vOf s) i) (aFG (vOf s) j):=
 aAq (S.fan i hi) (λx=>by rw[x5 h hk,S.mem i hi]) (S.ar h hi hj g).mem
end
end
section
def YA{α:Type}{l:List α}{a b c:α}(ha:a∈l)(hb:b∈l)(hc:c∈l)(h1:a≠b)(h2:b≠c)(h3:a≠c):3<=l.length:=by obtain⟨i,hi,rfl⟩:=jT.1 ha;obtain⟨j,hj,rfl⟩:=jT.1 hb;obtain⟨k,hk,rfl⟩:=jT.1 hc;grind
def Jh{l:List Int}{q x:Int}:x∈vQ l q↔x∈l/\x≠q:=by unfold vQ;grind
open Classical in
noncomputable def wU(v:List V)(L:List (List Int))(p:V):List V:=if p∈v then fD v L (c6 v p)else []
section
variable {s:Shape}
def vM(h:ai s=true){k:Nat}(hk:k<=(dOf s).length)(S:Stg s k)(p x:V):eC (AK s k) p x↔x∈wU (vOf s) (sG s k).1 p:=by
 unfold wU;by_cases hp:p∈vOf s
 .rw[if_pos hp,<-S.mem _ (mr hp),rQ hp]
 .rw[if_neg hp];exact⟨λg=>(hp (MJ h (vY hk g))).elim,λg=>(cq g).elim⟩
def ZJ{k:Nat}(S:Stg s k)(p:V):aFQ p (wU (vOf s) (sG s k).1 p):=by
 unfold wU;by_cases hp:p∈vOf s
 .rw[if_pos hp];have:=S.fan _ (mr hp);rw[rQ hp]at this;exact this
 .rw[if_neg hp];exact Fan.nil p
def MO(h:ai s=true){k:Nat}(hk:k<=(dOf s).length)(S:Stg s k){i:Nat}(hi:i<(vOf s).length){x:V}{d:aFI}(hd:d∈dOf s)(hx:eC (AK s k) (aFG (vOf s) i) x)(he:d=⟨aFG (vOf s) i,x⟩\/d=⟨x,aFG (vOf s) i⟩):3<=(wU (vOf s) (sG s k).1 (aFG (vOf s) i)).length:=by
 have T:=tgR h;obtain⟨j,hj,e1⟩:=Mv h hi;obtain⟨u,e2⟩:=aAE h hi;have up:∀e∈ao s,e∈AK s k:=λe he=>by unfold AK oT;grind
 have m1:=(vM h hk S _ _).1 (.inl (up _ e1));have m2:=(vM h hk S _ _).1 (.inr (up _ e2));have m3:=(vM h hk S _ _).1 hx;refine YA m1 m2 m3 (λe=> ?_) (λe=> ?_) (λe=> ?_)
 .rw[<-e]at e2;exact J2 T e1 e2
 .subst e;have g:=om T hd e2;rcases he with he|he
  .exact g.2 (by rw[he];rfl)
  grind
 .have g:=om T hd e1;rw[e]at g;rcases he with he|he
  .grind
  .exact g.2 (by rw[he];rfl)
def tf{k:Nat}(hk:k<(dOf s).length):(dOf s).drop k=(dOf s)[k] ::(dOf s).drop (k+1):=(List.drop_eq_getElem_cons hk)
def aB3(h:ai s=true){k:Nat}(hk:k<(dOf s).length):∀e∈ao s++(kpR s k++(dOf s).drop (k+1)),e≠(dOf s)[k]/\e≠swp (dOf s)[k] :=λe he=>by
 rcases bl.1 he with he|he
 .exact om (tgR h) (nR hk) he
 .rcases bl.1 he with he|he
  .obtain⟨m,hm,h1,rfl⟩:=NB s k (by omega) e he;exact Od h hm hk (by omega)
  .obtain⟨m,hm,rfl⟩:=jT.1 he;rw[List.getElem_drop];rw[List.length_drop]at hm;exact Od h (by omega) hk (by omega)
def Stg.step(h:ai s=true){k:Nat}(hk:k<(dOf s).length)(S:Stg s k):Stg s (k+1):=by
 obtain⟨hi,hj,ea,eb⟩:=OX h hk;have hd:=nR hk;have eN:aW (dOf s) k=(dOf s)[k] :=jB hk;have gd:eC (AK s k) (dOf s)[k].a (dOf s)[k].b:= .inl (by unfold AK oT;rw[tf hk];grind);have gd':eC (AK s k) (dOf s)[k].b (dOf s)[k].a:=gd.symm;have n1:=S.need h (by omega) hi hj (by grind);have n2:=S.need h (by omega) hj hi (by grind);rw[ea,eb]at n1 n2;have kd:kpR s (k+1)=if yx (AK s k) (dOf s)[k] =true then kpR s k++[(dOf s)[k]]else kpR s k:=by rw[<-eN];rfl
 by_cases hkeep:yx (AK s k) (dOf s)[k] =true
 .rw[if_pos hkeep]at kd;have eA:AK s (k+1)=AK s k:=by unfold AK oT;rw[kd,tf hk];simp
  have eH:kpR s (k+1)++(dOf s).drop (k+1)=kpR s k++(dOf s).drop k:=by rw[kd,tf hk];simp
  have eG:=yp (s:=s) (k:=k) (by rw[n1,n2];unfold yx at hkeep;grind)
  refine⟨λi hi=>by rw[eG];exact S.fan i hi,λi hi=>by rw[eG];exact S.rng i hi,λi hi x=>by rw[eG,eA];exact S.mem i hi x,?_,?_⟩
  .rw[eG,kd,dM,S.kept]
   congr 1
   show [phi (vOf s) (aa (pG s) k)] =_;unfold phi;rw[ea,eb]
  .obtain⟨F,Fc,TL,A3,PQ,n⟩:=S.faceQ;have e1:nxK s (k+1)=nxK s k:=by unfold nxK;rw[eA]
   rw[e1];exact⟨F,Faces.congr Fc λe=>by unfold HK;rw[eH],TL,A3,PQ,by rw[kd,fM,uP];omega⟩
 .rw[if_neg hkeep]at kd;have hn:uC (AK s k) (dOf s)[k].a (dOf s)[k].b=true/\uC (AK s k) (dOf s)[k].b (dOf s)[k].a=true:=by unfold yx at hkeep;rw[jQ,zP,zP,not_or,Bool.not_eq_false,Bool.not_eq_false]at hkeep;exact hkeep
  have eG:=HB (s:=s) (k:=k) (by grind) (by grind);have hneV:=Bg h (vY (by omega) gd);have hij:(aa (pG s) k).1≠(aa (pG s) k).2:=λe=>hneV (by grind);have off:=aB3 h hk;have eA:AK s (k+1)=ao s++(kpR s k++(dOf s).drop (k+1)):=by unfold AK oT;rw[kd,jt]
  have eA0:∀e,e∈AK s k↔e∈AK s (k+1)\/e=(dOf s)[k] :=λe=>by rw[eA];unfold AK oT;rw[tf hk];grind
  have sd:∀p x,eC (AK s (k+1)) p x↔eC (AK s k) p x/\¬((p=(dOf s)[k].a/\x=(dOf s)[k].b)\/(p=(dOf s)[k].b/\x=(dOf s)[k].a)):=λp x=>by
   unfold eC;rw[eA0,eA0];rw[<-eA]at off;constructor
   .intro g;refine⟨g.imp .inl .inl,?_⟩;rintro(⟨rfl,rfl⟩|⟨rfl,rfl⟩)
    .rcases g with g|g
     .grind
     .exact(off _ g).2 rfl
    .rcases g with g|g
     .exact(off _ g).2 rfl
     grind
   grind
  have lenG:=yU s k;have at':∀c,aj (sG s (k+1)).1 c=if c=(aa (pG s) k).1 then vQ (aj (sG s k).1 (aa (pG s) k).1) (aa (pG s) k).2 else if c=(aa (pG s) k).2 then vQ (aj (sG s k).1 (aa (pG s) k).2) (aa (pG s) k).1 else aj (sG s k).1 c:=λc=>by
   rw[eG];unfold Ch;dsimp only;rw[vK];by_cases h1:c=(aa (pG s) k).1
   .grind
   .rw[if_neg λg=>h1 g.1,if_neg h1,vK];grind
  have sub':∀c,(aj (sG s (k+1)).1 c).Sublist (aj (sG s k).1 c):=λc=>by
   rw[at'];split
   .rename_i e;rw[e];exact List.filter_sublist
   .split
    .rename_i e;rw[e];exact List.filter_sublist
    grind
  have vin:∀{c m:Nat},c<(vOf s).length->m<(vOf s).length->∀x∈aj (sG s k).1 c,(vtx (vOf s) x=aFG (vOf s) m↔x=(m:Int)):=λ{c m} hc hm x hx=>by obtain⟨t,rfl,ht⟩:=S.rng c hc x hx;unfold vtx;rw[jf];exact⟨λe=>by rw[qH h ht hm e],λe=>by grind⟩
  have S':∀c,c<(vOf s).length->∀x,eC (AK s (k+1)) (aFG (vOf s) c) x↔x∈fD (vOf s) (sG s (k+1)).1 c:=λc hc x=>by
   rw[sd,S.mem c hc,<-ea,<-eb];unfold fD;rw[at'];by_cases h1:c=(aa (pG s) k).1
   .subst h1;rw[if_pos rfl];simp only[bR,Jh];grind
   .rw[if_neg h1];by_cases h2:c=(aa (pG s) k).2
    .subst h2;rw[if_pos rfl];simp only[bR,Jh];grind
    .rw[if_neg h2];constructor
     .grind
     .refine λg=>⟨g,?_⟩;rintro(⟨g,_⟩|⟨g,_⟩)
      .exact h1 (qH h hc hi g)
      .exact h2 (qH h hc hj g)
  refine⟨λc hc=>Fan.sub (S.fan c hc) ((sub' c).map _),λc hc x hx=>S.rng c hc x ((sub' c).subset hx),S',?_,?_⟩
  .rw[eG,kd];exact S.kept
  .obtain⟨F,Fc,TL,A3,PQ,n⟩:=S.faceQ;have hs:∀e,HK s k e->sides s (dOf s) e.a e.b:=λe he=>vY (by omega) (Bw h (by omega) he);have inD:(dOf s)[k]∈kpR s k++(dOf s).drop k:=by rw[tf hk];exact gq _ cI
   have h1:HK s k ⟨(dOf s)[k].a,(dOf s)[k].b⟩:=by unfold HK mO;exact gq _ (ig _ inD)
   have h2:HK s k ⟨(dOf s)[k].b,(dOf s)[k].a⟩:=by unfold HK mO;refine gq _ (gq _ (mq.2 inD))
   have t1:=MO h (by omega) S hi hd (by rw[ea];exact gd) (.inl (by rw[ea]));have t2:=MO h (by omega) S hj hd (by rw[eb];exact gd') (.inr (by rw[eb]));rw[ea]at t1;rw[eb]at t2;obtain⟨F',Fc',FJ⟩:=aFR.dropR (nF h) (l:=qn (AK s k)) (l':=qn (AK s (k+1))) (L:=wU (vOf s) (sG s k).1) Fc (ZJ S) (λp x=>by rw[x5 h (by omega),vM h (by omega) S]) hs
    (λe he=>(vM h (by omega) S _ _).1 (Bw h (by omega) he).symm) (λp x=>by rw[x5 h (by omega),sd,vM h (by omega) S]) h1 h2 t1 t2 (of_decide_eq_true hn.1) (of_decide_eq_true hn.2)
   refine⟨F',Faces.congr Fc' λe=> ?_,TL,A3,PQ.joined FJ,by rw[kd];have:=FJ.len;omega⟩;unfold HK mO;rw[kd,tf hk];simp only[bl,bI,mq];have o1:e∈mP s->e≠(dOf s)[k]/\e≠swp (dOf s)[k] :=λg=>by
    rcases((BV (tgR h) e).1 g).1 with q|q
    .simp_all
    .have:=off _ (ig _ q);exact⟨λe'=>this.2 (by rw[e'];rfl),λe'=>this.1 (by rw[e'];rfl)⟩
   have o2:e∈kpR s k\/e∈(dOf s).drop (k+1)->e≠(dOf s)[k]/\e≠swp (dOf s)[k] :=λg=>off _ (gq _ (bl.2 g));have o3:swp e∈kpR s k\/swp e∈(dOf s).drop (k+1)->e≠(dOf s)[k]/\e≠swp (dOf s)[k] :=λg=>by have:=off _ (gq _ (bl.2 g));exact⟨λe'=>this.2 (by rw[e']),λe'=>this.1 (by rw[e'];rfl)⟩
   constructor
   .rintro⟨g|(g|g|g)|(g|g|g),q1,q2⟩
    .exact .inl g
    .grind
    .simp_all
    .grind
    .grind
    .exact absurd (show e=⟨(dOf s)[k].b,(dOf s)[k].a⟩ by rw[<-g];rfl) q2
    grind
   .rintro(g|(g|g)|(g|g))
    .exact⟨.inl g,o1 g⟩
    .exact⟨.inr (.inl (.inl g)),o2 (.inl g)⟩
    .exact⟨.inr (.inl (.inr (.inr g))),o2 (.inr g)⟩
    .exact⟨.inr (.inr (.inl g)),o3 (.inl g)⟩
    .exact⟨.inr (.inr (.inr (.inr g))),o3 (.inr g)⟩
end
end
section
section
variable {s:Shape}
def rX(h:ai s=true):∀k,k<=(dOf s).length->Stg s k
 |0,_=>Stg.start h
 |k+1,hk=>Stg.step h (by omega) (rX h k (by omega))
def sok(h:ai s=true):SOk s:=λk hk=>by rw[rj]at hk;have S:=rX h k (by omega);obtain⟨hi,hj,ea,eb⟩:=OX h hk;have gd:eC (AK s k) (dOf s)[k].a (dOf s)[k].b:= .inl (by unfold AK oT;rw[tf hk];grind);refine⟨S.ar h hi hj (by grind),S.ar h hj hi (by rw[ea,eb];exact gd.symm),λe=> ?_⟩;exact Bg h (vY (by omega) gd) (by grind)
end
end
section
def BN(l:List Int)(a c:Nat)(x:Int):cu (l.set a x) c=if c=a/\a<l.length then x else cu l c:=by unfold cu;grind
def GS(n base m:Nat)(N:List Int):∀i,i<=m->∀c,¬(base<=c/\c<base+m)->cu (rgN n base m i N) c=cu N c
 |0,_,c,_=>rfl
 |i+1,hi,c,hc=>by
  have ih:=GS n base m N i (by omega) c hc;have:=bz (i+1) (show 0<m by omega);unfold rgN;split
  .rw[BN,if_neg (by omega)];exact ih
  .rw[BN,if_neg (by omega)];exact ih
def Mj(base m:Nat)(N:List Int)(hN:base+m<=N.length):∀i,i<=m->∀t,t<i->cu (rgN 0 base m i N) (base+t)=((base+(t+1) % m:Nat):Int)
 |0,_,t,ht=>by omega
 |i+1,hi,t,ht=>by
  unfold rgN;rw[if_pos rfl,BN];by_cases e:t=i
  .subst e;rw[if_pos ⟨rfl,by rw[yI];omega⟩]
  .rw[if_neg (by omega)];exact Mj base m N hN i (by omega) t (by omega)
def aBE{m t i:Nat}(h:t<i)(hi:i<m):(t+1) % m≠(i+1) % m:=by
 rw[dh (show t+1<m by omega)];by_cases e:i+1=m
 .simp_all
 .rw[dh (by omega)];omega
def OJ{n:Nat}(hn:n≠0)(base m:Nat)(N:List Int)(hN:base+m<=N.length):∀i,i<=m->∀t,t<i->cu (rgN n base m i N) (base+(t+1) % m)=((base+t:Nat):Int)
 |0,_,t,ht=>by omega
 |i+1,hi,t,ht=>by
  have:=bz (i+1) (show 0<m by omega);unfold rgN;rw[if_neg hn,BN];by_cases e:t=i
  .subst e;rw[if_pos ⟨rfl,by rw[yI];omega⟩]
  .have:=aBE (m:=m) (show t<i by omega) (by omega);rw[if_neg (by omega)];exact OJ hn base m N hN i (by omega) t (by omega)
def aA0{R:List aD}{a b:Nat}(h:a<b)(hb:b<=R.length):bs R a+(aC R a).length<=bs R b:=by
 rw[re (by omega)];obtain⟨d,rfl⟩:∃d,b=a+1+d:=⟨b-(a+1),by omega⟩;clear h hb;induction d with
 |zero=>grind
 |succ d ih=>
  refine cL ih ?_;unfold bs;rw[show a+1+(d+1)=a+1+d+1 by omega,List.take_add_one,List.flatten_append,fM];omega
def Pd{R:List aD}{N:List Int}(hN:R.flatten.length<=N.length):∀k,k<=R.length->∀a,a<k->∀t,t<(aC R a).length->
  (a=0->cu (rsN R k N) (bs R a+t)=((bs R a+(t+1) % (aC R a).length:Nat):Int))/\(a≠0->cu (rsN R k N) (bs R a+(t+1) % (aC R a).length)=((bs R a+t:Nat):Int))
 |0,_,a,ha,t,ht=>by omega
 |k+1,hk,a,ha,t,ht=>by
  have hl:bs R k+(aC R k).length<=(rsN R k N).length:=by rw[GQ];have h1:=re (R:=R) (k:=k) (by omega);have h2:=wL R (k+1);omega
  have hm:=bz (t+1) (show 0<(aC R a).length by omega);unfold rsN;by_cases e:a=k
  .subst e;refine⟨λh0=> ?_,λh0=>OJ h0 _ _ _ hl _ (bZ _) t ht⟩;subst h0;exact Mj _ _ _ hl _ (bZ _) t ht
  .have ih:=Pd hN k (by omega) a (by omega) t ht;have hb:=aA0 (R:=R) (a:=a) (b:=k) (by omega) (by omega);exact⟨λh0=>by rw[GS _ _ _ _ _ (bZ _) _ (by omega)];exact ih.1 h0,λh0=>by rw[GS _ _ _ _ _ (bZ _) _ (by omega)];exact ih.2 h0⟩
def Kn:∀(R:List aD) (i:Nat),i<R.flatten.length->∃k,k<R.length/\∃t,t<(aC R k).length/\i=bs R k+t
 |[],i,h=>by simp at h
 |r::R,i,h=>by
  by_cases h1:i<r.length
  .exact⟨0,by simp,i,h1,by show i=0+i;omega⟩
  .rw[mT,fM]at h;obtain⟨k,hk,t,ht,e⟩:=Kn R (i-r.length) (by omega);refine⟨k+1,by grind,t,ht,?_⟩;have e2:bs (r::R) (k+1)=r.length+bs R k:=by unfold bs;rw[List.take_succ_cons,mT,fM]
   omega
section
variable {s:Shape}
def Cd(h:ai s=true){a t:Nat}(ha:a<(aE (aM s)).length)(ht:t<(aC (aE (aM s)) a).length):
  (a=0->cu (nG s) (bs (aE (aM s)) a+t)=((bs (aE (aM s)) a+(t+1) % (aC (aE (aM s)) a).length:Nat):Int))/\(a≠0->cu (nG s) (bs (aE (aM s)) a+(t+1) % (aC (aE (aM s)) a).length)=((bs (aE (aM s)) a+t:Nat):Int)):=
 Pd (by rw[ze,oy h];omega) _ (bZ _) a ha t ht
def Tw(h:ai s=true){a:Nat}(ha:a<(aE (aM s)).length)(h0:a≠0):∃q∈s.holes,aC (aE (aM s)) a=bw q:=by
 rw[qK h]at ha|-;obtain⟨b,rfl⟩:∃b,a=b+1:=⟨a-1,by omega⟩;have hb:b<(cO s).holes.length:=by unfold aE at ha;simpa using ha
 have hm:aC (cO s).holes b∈(cO s).holes:=gH hb;obtain⟨q,hq,e⟩:=bR.1 ((l6 _).mem_iff.1 hm);exact⟨q,hq,e.symm⟩
def LJ(h:ai s=true):aC (aE (aM s)) 0=bw s.outer:=by rw[qK h];rfl
def PC{r:aD}{e:S}(he:e∈aJ r):∃t,t<r.length/\e=⟨aFG r t,aFG r ((t+1) % r.length)⟩:=by
 unfold aJ at he;split at he
 .cases he
 .obtain⟨t,ht,rfl⟩:=bR.1 he;exact⟨t,cD.1 ht,rfl⟩
def Gg{r:aD}(h2:2<=r.length){t:Nat}(ht:t<r.length):(⟨aFG r t,aFG r ((t+1) % r.length)⟩:S)∈aJ r:=by unfold aJ;rw[if_neg (by omega)];exact bR.2 ⟨t,cD.2 ht,rfl⟩
def HJ(h:ai s=true){i:Nat}(hi:i<(vOf s).length):∃j:Nat,cu (nG s) i=j/\j<(vOf s).length/\(⟨aFG (vOf s) i,aFG (vOf s) j⟩:S)∈mP s:=by
 have hi2:=hi;rw[oy h]at hi2;obtain⟨k,hk,t,ht,e⟩:=Kn _ i hi2;have h2:=BK h _ (gH hk);have hl:bs (aE (aM s)) k+(aC (aE (aM s)) k).length<=(vOf s).length:=by have h1:=re hk;have h3:=wL (aE (aM s)) (k+1);rw[oy h];omega
 have fl:∀u,u<(aC (aE (aM s)) k).length->aFG (vOf s) (bs (aE (aM s)) k+u)=aFG (aC (aE (aM s)) k) u:=λu hu=>by rw[oy h];exact x4 _ k u hk hu
 have hm:∀u,u % (aC (aE (aM s)) k).length<(aC (aE (aM s)) k).length:=λu=>bz _ (by omega);by_cases h0:k=0
 .refine⟨_,by rw[e];exact(Cd h hk ht).1 h0,by have:=hm (t+1);omega,?_⟩;rw[e,fl t ht,fl _ (hm _)];have g:=Gg h2 ht;unfold mP;refine ig _ ((sr s.outer _).1 ?_);subst h0;rw[LJ h]at g|-;exact g
 .have ht0:=hm (t+(aC (aE (aM s)) k).length-1);have et:((t+(aC (aE (aM s)) k).length-1) % (aC (aE (aM s)) k).length+1) % (aC (aE (aM s)) k).length=t:=by rw[lP,show t+(aC (aE (aM s)) k).length-1+1=t+(aC (aE (aM s)) k).length by omega,pk,dh ht]
  have g:=(Cd h hk ht0).2 h0;have g2:=Gg h2 ht0;rw[et]at g g2;refine⟨_,by rw[e];exact g,by omega,?_⟩;rw[e,fl t ht,fl _ ht0];obtain⟨q,hq,eq⟩:=Tw h hk h0;unfold mP;refine gq _ (mq.2 (dG.2 ⟨q,hq,(sr q _).1 ?_⟩));rw[<-eq];exact g2
end
end
section
section
variable {s:Shape}
def aBC(h:ai s=true){e:aFI}(he:e∈mP s):∃i j:Nat,i<(vOf s).length/\cu (nG s) i=j/\e=⟨aFG (vOf s) i,aFG (vOf s) j⟩:=by
 have fl:∀{k:Nat},k<(aE (aM s)).length->∀u,u<(aC (aE (aM s)) k).length->aFG (vOf s) (bs (aE (aM s)) k+u)=aFG (aC (aE (aM s)) k) u:=λ{k} hk u hu=>by rw[oy h];exact x4 _ k u hk hu
 have hl:∀{k:Nat},k<(aE (aM s)).length->bs (aE (aM s)) k+(aC (aE (aM s)) k).length<=(vOf s).length:=λ{k} hk=>by have h1:=re hk;have h3:=wL (aE (aM s)) (k+1);rw[oy h];omega
 unfold mP at he;rcases bl.1 he with he|he
 .have he2:=(sr s.outer e).2 he;rw[<-LJ h]at he2;obtain⟨t,ht,e1⟩:=PC he2;have hk:0<(aE (aM s)).length:=by unfold aE;simp
  have hm:=bz (t+1) (show 0<(aC (aE (aM s)) 0).length by omega);refine⟨bs (aE (aM s)) 0+t,_,by grind,(Cd h hk ht).1 rfl,?_⟩;grind
 .rw[mq]at he;obtain⟨q,hq,heq⟩:=dG.1 he;have hb:bw q∈(cO s).holes:=(l6 _).mem_iff.2 (bR.2 ⟨q,hq,rfl⟩);obtain⟨a,ha,ea⟩:∃a,a<(cO s).holes.length/\aC (cO s).holes a=bw q:=by obtain⟨a,ha,e⟩:=jT.1 hb;exact⟨a,ha,by rw[kz ha];exact e⟩
  have hk:a+1<(aE (aM s)).length:=by rw[qK h];unfold aE;rw[iE];omega
  have er:aC (aE (aM s)) (a+1)=bw q:=by rw[qK h];exact ea
  have he2:=(sr q _).2 heq;rw[<-er]at he2;obtain⟨t,ht,e1⟩:=PC he2;have hm:=bz (t+1) (show 0<(aC (aE (aM s)) (a+1)).length by omega);refine⟨bs (aE (aM s)) (a+1)+(t+1) % (aC (aE (aM s)) (a+1)).length,_,by grind,(Cd h hk ht).2 (by omega),?_⟩;rw[fl hk t ht,fl hk _ hm];have e2:e=swp (swp e):=rfl;rw[e2,e1];rfl
def HL(s:Shape):aFI->Prop:=HK s (dOf s).length
def aB0{e:aFI}:HL s e↔e∈mP s\/e∈kpR s (dOf s).length\/swp e∈kpR s (dOf s).length:=by unfold HL HK mO;rw[List.drop_length,ww,bl,bl,mq]
def Zv(h:ai s=true):(spG s).map (phi (vOf s))=kpR s (dOf s).length:=by have S:=(rX h _ (bZ _)).kept;unfold spG;rw[rj];exact S
def yL(h:ai s=true){e:aFI}:e∈(hsG s).map (phi (vOf s))↔HL s e:=by
 rw[aB0];unfold hsG;rw[dM,bl];refine or_congr ?_ ?_
 .unfold nxP;rw[dU];constructor
  .intro g;obtain⟨i,hi,rfl⟩:=bR.1 g;have hi:=cD.1 hi;obtain⟨j,ej,hj,he⟩:=HJ h hi;show phi (vOf s) (i,(cu (nG s) i).toNat)∈_;rw[ej,jf];exact he
  .intro g;obtain⟨i,j,hi,ej,e1⟩:=aBC h g;refine bR.2 ⟨i,cD.2 hi,?_⟩;show phi (vOf s) (i,(cu (nG s) i).toNat)=e;rw[ej,jf,e1];rfl
 .rw[<-Zv h,bR,bR,bR];constructor
  .rintro⟨p,hp,rfl⟩;obtain⟨q,hq,hpq⟩:=dG.1 hp;unfold jG at hpq;rcases bI.1 hpq with e1|hpq
   .grind
   .rw[bn.1 hpq];exact .inr ⟨q,hq,rfl⟩
  .rintro(⟨p,hp,rfl⟩|⟨p,hp,e1⟩)
   .exact⟨p,dG.2 ⟨p,hp,cI⟩,rfl⟩
   .refine⟨(p.2,p.1),dG.2 ⟨p,hp,cG _ cI⟩,?_⟩;have:e=swp (phi (vOf s) p):=by rw[e1];rfl
    rw[this];rfl
end
end
section
def Mp:∀(a:V) (l:List V),cS a l=(bM l.length).map λi=>(⟨aFG (a::l) i,aFG (a::l) (i+1)⟩:aFI)
 |a,[] =>rfl
 |a,x::l=>by
  have ih:=Mp x l;show(⟨a,x⟩:aFI)::cS x l=_;rw[ih,iE,List.range_succ_eq_map,dX,dU];rfl
def PJ{r:List V}(h:0<r.length):cyc r=(bM r.length).map λi=>(⟨aFG r i,aFG r ((i+1) % r.length)⟩:aFI):=by
 cases r with
 |nil=>simp at h
 |cons a l=>
  show cS a (l++[a])=_;rw[Mp,fM,uP,iE];refine mU λi hi=> ?_;have hi:=cD.1 hi;have e1:aFG (a::(l++[a])) i=aFG (a::l) i:=Ev (a:=a::l) (b:=[a]) (by omega);rw[e1];by_cases h2:i+1<l.length+1
  .have e2:aFG (a::(l++[a])) (i+1)=aFG (a::l) (i+1):=Ev (a:=a::l) (b:=[a]) (by omega);rw[e2,dh h2]
  .have e3:i+1=l.length+1:=by omega
   have e2:aFG (a::(l++[a])) ((a::l).length+0)=aFG [a] 0:=LZ (a:=a::l) (b:=[a]) 0;rw[e3,kj];rw[show l.length+1=(a::l).length+0 from rfl,e2];rfl
def VE{r:List V}(hn:r.Nodup){k:Nat}(hk:k<r.length):vz r k=fK r (aFG r k):=by
 have c:=PJ (r:=r) (by omega);have m1:(⟨aFG r ((k+r.length-1) % r.length),aFG r k⟩:aFI)∈cyc r:=by rw[c];refine bR.2 ⟨(k+r.length-1) % r.length,cD.2 (bz _ (by omega)),?_⟩;rw[lP,show k+r.length-1+1=k+r.length by omega,pk,dh hk]
 have m2:(⟨aFG r k,aFG r ((k+1) % r.length)⟩:aFI)∈cyc r:=by rw[c];exact bR.2 ⟨k,cD.2 hk,rfl⟩
 rw[fL,rT];unfold vz;rw[decide_eq_true_eq];constructor
 .grind
 .rintro⟨a,b,ha,hb,h⟩;have e2:=Bq hn hb m2 rfl;have e1:a=aFG r ((k+r.length-1) % r.length):=by
   rw[c]at ha;obtain⟨t,ht,e⟩:=bR.1 ha;have ht:=cD.1 ht;have ea:aFG r t=a:=congrArg aFI.a e;have eb:aFG r ((t+1) % r.length)=aFG r k:=congrArg aFI.b e;have:=fS hn (bz _ (by omega)) hk eb;rw[<-ea,<-this];by_cases h3:t+1<r.length
   .rw[dh h3,show t+1+r.length-1=t+r.length by omega,pk,dh ht]
   .rw[show t+1=r.length by omega,kj,kN,dh (by omega),show t=r.length-1 by omega]
  grind
def Jf{r:List V}(hn:r.Nodup):∀k,k<=r.length->gm r k=(r.take k).filter (fK r)
 |0,_=>rfl
 |k+1,h=>by
  have hk:k<r.length:=by omega
  rw[Ah,Jf hn k (by omega),mc hk,rB,VE hn hk,nth_eq hk];grind
def AE{r:List V}(hn:r.Nodup):de r=r.filter (fK r):=by unfold de;rw[Jf hn _ (bZ _),si]
def gC(r:List V):List V:=bw (de r)
def aAJ{r:List V}(hn:r.Nodup){k l:List V}(e:r=k++l):gC (l++k)=gC r:=by subst e;have hn2:(l++k).Nodup:=List.perm_append_comm.nodup_iff.1 hn;unfold gC;rw[AE hn,AE hn2];exact Xf hn
section
variable {s:Shape}
def yT(s:Shape):soG s=(sG s (dOf s).length).1:=by unfold soG;rw[rj]
def H3(h:ai s=true):∀p∈hsG s,p.1<(vOf s).length/\p.2<(vOf s).length:=λp hp=>by
 unfold hsG at hp;rcases bl.1 hp with hp|hp
 .unfold nxP at hp;obtain⟨i,hi,rfl⟩:=bR.1 hp;have hi:=cD.1 hi;obtain⟨j,ej,hj,_⟩:=HJ h hi;omega
 .obtain⟨q,hq,hpq⟩:=dG.1 hp;have hq2:q∈pG s:=OA _ _ _ _ (bZ _) q hq;have:=Hv (by rw[ku];exact h) hq2;unfold jG at hpq;grind
def Gi(h:ai s=true){p:Nat×Nat}(hp:p∈hsG s):eC (AK s (dOf s).length) (aFG (vOf s) p.1) (aFG (vOf s) p.2):=
 Bw h (bZ _) ((yL h).1 (bR.2 ⟨p,hp,rfl⟩))
def pc1(h:ai s=true)(i j:Nat)(hm:(j:Int)∈aj (soG s) i):ArOk (vOf s) (soG s) i j/\ArOk (vOf s) (soG s) j i:=by
 have S:=rX h _ (bZ _);rw[yT]at hm|-;have hi:i<(vOf s).length:=by
  by_cases hi:i<(vOf s).length
  .exact hi
  .have:aj (sG s (dOf s).length).1 i=[] :=by unfold aj;rw[eI,List.getElem?_eq_none (by rw[yU];omega)];rfl
   grind
 obtain⟨m,e,hm2⟩:=S.rng i hi _ hm;have hj:j<(vOf s).length:=by have:=Int.ofNat.inj e;omega
 have g:eC (AK s (dOf s).length) (aFG (vOf s) i) (aFG (vOf s) j):=(S.mem i hi _).2 (bR.2 ⟨_,hm,by unfold vtx;grind⟩);exact⟨S.ar h hi hj g,S.ar h hj hi g.symm⟩
def pc2(h:ai s=true):∀p∈hsG s,ArOk (vOf s) (soG s) p.2 p.1:=λp hp=>by have S:=rX h _ (bZ _);obtain⟨h1,h2⟩:=H3 h p hp;rw[yT];exact S.ar h h2 h1 (Gi h hp).symm
def pc3(h:ai s=true):∀i,i<(vOf s).length->0<=cu (nG s) i:=λi hi=>by obtain⟨j,ej,_,_⟩:=HJ h hi;omega
def aAf(h:ai s=true){p q:Nat×Nat}(hp:p.1<(vOf s).length/\p.2<(vOf s).length)(hq:q.1<(vOf s).length/\q.2<(vOf s).length)(e:phi (vOf s) p=phi (vOf s) q):p=q:=
 Prod.ext (qH h hp.1 hq.1 (congrArg aFI.a e)) (qH h hp.2 hq.2 (congrArg aFI.b e))
def GJ(h:ai s=true):∀(f:Nat) (U:List (Nat×Nat)) (p:Nat×Nat) (r:List V),(∀q∈U,q.1<(vOf s).length/\q.2<(vOf s).length)->p.1<(vOf s).length->p.2<(vOf s).length->
  eC (AK s (dOf s).length) (aFG (vOf s) p.1) (aFG (vOf s) p.2)->
  tr (nxK s (dOf s).length) f (U.map (phi (vOf s))) (phi (vOf s) p) r=((trc (vOf s) (soG s) f U p r).1.map (phi (vOf s)),(trc (vOf s) (soG s) f U p r).2)/\∀q∈(trc (vOf s) (soG s) f U p r).1,q.1<(vOf s).length/\q.2<(vOf s).length
 |0,U,p,r,hU,_,_,_=>⟨rfl,hU⟩
 |f+1,U,p,r,hU,h1,h2,hs=>by
  have S:=rX h _ (bZ _);have hin:phi (vOf s) p∈U.map (phi (vOf s))↔p∈U:=by
   constructor
   .intro g;obtain⟨q,hq,e⟩:=bR.1 g;rw[<-aAf h (hU q hq) ⟨h1,h2⟩ e];exact hq
   .grind
  by_cases hp:p∈U
  .rw[PT hp,CQ (hin.2 hp)];grind
  .rw[Ns hp,Gy λg=>hp (hin.1 g)];have A:=S.ar h h2 h1 hs.symm;have ar:=A.around (-1);obtain⟨ar1,ar2⟩:=ar;have e1:nxK s (dOf s).length (phi (vOf s) p)=aFG (vOf s) (io (soG s) p.2 p.1 (-1)):=by rw[yT];exact(J6 (S.fan _ h2) (λx=>(x5 h (bZ _)).trans (S.mem _ h2 x)) A.mem).symm
   have e2:(⟨(phi (vOf s) p).b,nxK s (dOf s).length (phi (vOf s) p)⟩:aFI)=phi (vOf s) (nxH (soG s) p):=by rw[e1];rfl
   have hU2:∀q∈U++[p],q.1<(vOf s).length/\q.2<(vOf s).length:=λq hq=>by grind
   have hs2:eC (AK s (dOf s).length) (aFG (vOf s) (nxH (soG s) p).1) (aFG (vOf s) (nxH (soG s) p).2):=by rw[yT];refine(S.mem _ h2 _).2 (bR.2 ⟨_,ar1,?_⟩);unfold vtx;rw[jf];rfl
   have ih:=GJ h f (U++[p]) (nxH (soG s) p) (r++[aFG (vOf s) p.1]) hU2 h2 (by rw[yT];exact ar2) hs2;rw[dM]at ih;rw[e2];exact ih
end
end
section
section
variable {s:Shape}
def vA(h:ai s=true){F:List (List V)}(Fc:aFR (nxK s (dOf s).length) (HL s) F){r:List V}(hr:r∈F):∀e∈cyc r,sides s (dOf s) e.a e.b:=λe he=>
 vY (bZ _) (Bw h (bZ _) ((Fc.all e).1 (dG.2 ⟨r,hr,he⟩)))
def NR(h:ai s=true){F:List (List V)}(Fc:aFR (nxK s (dOf s).length) (HL s) F){r:List V}(hr:r∈F):r.length<=(vOf s).length:=by
 have c:=Fc.cx r hr;have hv:∀u∈r,u∈vOf s:=λu hu=>by
  have hu2:u∈(cyc r).map S.a:=by rw[vO];exact hu
  obtain⟨e,he,rfl⟩:=bR.1 hu2;exact MJ h (vA h Fc hr e he)
 have hn:(r.map (c6 (vOf s))).Nodup:=by unfold List.Nodup;rw[km];refine JG (λ{a b} ha hb hne e=>hne ?_) c.nodup;have e1:=rQ (hv a ha);rw[e,rQ (hv b hb)]at e1;exact e1.symm
 have:=BO (vOf s).length _ hn λx hx=>by obtain⟨u,hu,rfl⟩:=bR.1 hx;exact mr (hv u hu)
 grind
def FF(h:ai s=true){F:List (List V)}(Fc:aFR (nxK s (dOf s).length) (HL s) F):∀r∈F,r.length<=trU (vOf s):=λr hr=>by have h1:=NR h Fc hr;have h2:=(Fc.cx r hr).three;unfold trU;have:(vOf s).length*1<=(vOf s).length*(vOf s).length:=Nat.mul_le_mul_left _ (by omega);omega
def XP{F:List (List V)}(Fc:aFR (nxK s (dOf s).length) (HL s) F):∀r∈F,∀k l,r=k++l->gC (l++k)=gC r:=λr hr _ _ e=>aAJ (Fc.cx r hr).nodup e
def Fh(h:ai s=true):∀k,k<=(hsG s).length->oQ (nxK s (dOf s).length) (trU (vOf s)) gC (((hsG s).take k).map (phi (vOf s))) ([],[])=((pcK s k).1.map (phi (vOf s)),(pcK s k).2)/\∀q∈(pcK s k).1,q.1<(vOf s).length/\q.2<(vOf s).length
 |0,_=>⟨rfl,λq hq=>(cq hq).elim⟩
 |k+1,hk=>by
  obtain⟨ih,hr⟩:=Fh h k (by omega);have hkl:k<(hsG s).length:=by omega
  have hm:(hsG s)[k]∈hsG s:=nR hkl;obtain⟨l1,l2⟩:=H3 h _ hm;obtain⟨sim,hr2⟩:=GJ h (trU (vOf s)) (pcK s k).1 (hsG s)[k] [] hr l1 l2 (Gi h hm);rw[mc hkl,dM,List.map_singleton,Js,ih];dsimp only;rw[sim,vH,o8 hkl];exact⟨rfl,hr2⟩
def X9(h:ai s=true){F:List (List V)}(Fc:aFR (nxK s (dOf s).length) (HL s) F){k:Nat}(hk:k<(hsG s).length)(h0:0<(trc (vOf s) (soG s) (trU (vOf s)) (pcK s k).1 (aa (hsG s) k) []).2.length):
  ∃r∈F,∃a b,r=a++b/\(trc (vOf s) (soG s) (trU (vOf s)) (pcK s k).1 (aa (hsG s) k) []).2=b++a:=by
 obtain⟨ih,hr⟩:=Fh h k (by omega);have hm:(hsG s)[k]∈hsG s:=nR hk;obtain⟨l1,l2⟩:=H3 h _ hm;obtain⟨sim,_⟩:=GJ h (trU (vOf s)) (pcK s k).1 (hsG s)[k] [] hr l1 l2 (Gi h hm);have I:=Mu Fc (FF h Fc) (g:=gC) (((hsG s).take k).map (phi (vOf s))) ([],[]) (uO.nil F) λe he=>by obtain⟨p,hp,rfl⟩:=bR.1 he;exact(yL h).1 (bR.2 ⟨p,List.mem_of_mem_take hp,rfl⟩)
 rw[ih]at I;rw[o8 hk]at h0|-;rcases Nv Fc (FF h Fc) I (e:=phi (vOf s) (hsG s)[k]) ((yL h).1 (bR.2 ⟨_,hm,rfl⟩))with t|⟨r,hrF,a,b,e,t,_⟩
 .grind
 grind
def IM(h:ai s=true):pj s:=by
 refine⟨pc1 h,pc2 h,pc3 h,λk hk h0=> ?_⟩;obtain⟨F,Fc⟩:=(rX h _ (bZ _)).face;obtain⟨r,hr,a,b,e,et⟩:=X9 h Fc hk h0;have c:=Fc.cx r hr;have hl:=NR h Fc hr;have hv:=mw s;have c2:CX (b++a):=by rw[e]at c;exact c.swap
 have hp:(cyc (b++a)).Perm (cyc r):=by rw[e];exact kw a b
 rw[et];refine⟨?_,?_⟩
 .grind
 .rw[AE c2.nodup];exact List.length_pos_iff.2 (c2.corner (nF h) λq hq=>vA h Fc hr q (hp.mem_iff.1 hq))
def Yj(h:ai s=true){F:List (List V)}(Fc:aFR (nxK s (dOf s).length) (HL s) F):(pcK s (hsG s).length).2.Perm (F.map gC):=by have g:=Et Fc (FF h Fc) (XP Fc) ((hsG s).map (phi (vOf s))) ([],[]) [] F (λe he=>(yL h).1 he) (.refl _) (λe=>by simp) (.refl _) λr hr e he=>(yL h).2 ((Fc.all e).1 (dG.2 ⟨r,hr,he⟩));have e:=(Fh h (hsG s).length (bZ _)).1;grind
end
end
section
section
variable {s:Shape}
end
end
section
section
variable {s:Shape} {u:V}
end
end
section
section
variable {s:Shape}
def GX(h:ai s=true):(pcG s).Perm (pcK s (hsG s).length).2:=by unfold pcG;rw[ku,if_pos h];exact rH _
def aBv(h:ai s=true):(pcG s).length<=100000:=by
 rw[(GX h).length_eq];have h1:=GZ s (hsG s).length;have h2:=Bx (vOf s) (pG s) (oG s) (pG s).length;have h3:=PF s;have h4:(vOf s).length<=80:=by rw[qL h];exact FQ (vsR h)
 have h0:=O7 s;rw[rj]at h2;have h5:(spG s).length<=(dOf s).length:=by unfold spG sG;rw[rj];exact h2
 omega
def B8(h:ai s=true):∀r∈pcG s,r.length<=1000:=λr hr=>
 GY (IM h) _ (bZ _) r ((GX h).mem_iff.1 hr)
end
end
section
def trq(v:List V)(q:Nat×Nat×Nat):aD:=c5 (aFG v q.1) (aFG v q.2.1) (aFG v q.2.2)
def Ox(s:Shape)(v:List V)(T:aFM)(i j:Nat)(acc:List aD):∀m,oS s v T i j acc m=acc++(kL s v T i j m).map (trq v)
 |0=>(ww _).symm
 |m+1=>by
  unfold oS qf kL;rw[Ox s v T i j acc m,dM];split<;>simp[trq]
def Oy(s:Shape)(v:List V)(T:aFM)(i:Nat)(acc:List aD):∀m,nH s v T i acc m=acc++(jL s v T i m).map (trq v)
 |0=>(ww _).symm
 |m+1=>by
  unfold nH jL;rw[Oy s v T i acc m,dM];split
  .rw[Ox,jt]
  .simp
def O6(s:Shape)(v:List V)(T:aFM):∀n,ic s v T n=(iL s v T n).map (trq v)
 |0=>rfl
 |n+1=>by
  unfold ic iL;rw[Oy,O6 s v T n,dM]
section
variable {s:Shape}
def Y3(h:ai s=true){i k:Nat}(hi:i<(vOf s).length)(hk:k<(vOf s).length):tT s i k=true↔sides s (dOf s) (aFG (vOf s) i) (aFG (vOf s) k):=by rw[<-QJ h hi hk,Uk];unfold sides eC;rw[bl,bl,bl,bl,or_comm (a:=_∈dOf s),or_comm (a:=_∈dOf s)]
def YF(h:ai s=true):(tOf s).Perm ((iL s (vOf s) (tT s) (vOf s).length).map (trq (vOf s))):=by unfold tOf;rw[if_pos h];unfold He;rw[<-O6];exact rH _
def Fv(h:ai s=true):∃TL,All3 (bk s) (sides s (dOf s)) (c8 s) TL/\tOf s=TL.map T3.ring:=
 X5 (tgR h) (v:=vOf s) (λx=>(u5 h).mem_iff) (Aj h) (aBL λi k hi hk=>Y3 h hi hk) (YF h)
end
end
section
def L7{r:List V}(h:2<=r.length):cyc r=aJ r:=by rw[PJ (by omega)];unfold aJ;rw[if_neg (by omega)];rfl
def M8{r:List V}(h:2<=r.length){q:P3}:LS r q↔∀f∈j0 r,0<ev f q:=by unfold LS j0;rw[L7 h];simp
def MF{a b:aD}(ha:CR a)(hb:CR b):j5 a b=false↔∃q:P3,0<q.d/\LS a q/\LS b q:=by
 have la:=ha.len;have lb:=hb.len;have h2:=JV ha.poly hb.poly;have r1:=AW a b (by omega);have r2:=AW b a (by omega);have e:Geo.Sat (j0 a++j0 b)↔∃q:P3,0<q.d/\LS a q/\LS b q:=by unfold Geo.Sat;simp only[M8 (show 2<=a.length by omega),M8 (show 2<=b.length by omega),bl,or_imp,forall_and]
 rw[<-e,h2];unfold j5;rw[Bool.or_eq_false_iff,pu,pu,ne_eq,ne_eq,r1,r2];grind
def KX{X Z:List aD}(hX:∀r∈X,bm r=true)(hZ:∀r∈Z,bm r=true):ny X Z=true↔Mts X Z:=by
 unfold ny Mts;simp only[jd];constructor
 .rintro⟨r,hr,o,ho,h⟩;simp only[bj,zP]at h;exact⟨r,hr,o,ho,(MF (.of h.1) (.of h.2.1)).1 h.2.2⟩
 .rintro⟨r,hr,o,ho,h⟩;refine⟨r,hr,o,ho,?_⟩;rw[hX r hr,hZ o ho,(MF (.of (hX r hr)) (.of (hZ o ho))).2 h];rfl
def Xi{W:List V}{side:V->V->Prop}(N:Net W side){r:List V}(c:CX r)(hs:∀e∈cyc r,side e.a e.b)(hn:∀v∈r,aX v 2000=true):bm (dz r)=true:=by
 have pm:(dz r).Perm (r.filter (fK r)):=tH _;have l3:3<=(dz r).length:=by rw[pm.length_eq];exact c.corners3 N hs
 have nd:(dz r).Nodup:=pm.nodup_iff.2 (c.nodup.filter _);unfold bm;rw[bj,bj,decide_eq_true_eq,bh,bh];refine⟨l3,λv hv=>hn v (fG.1 (pm.mem_iff.1 hv)).1,λi hi=>bh.2 λn hm=> ?_⟩;have hi:=cD.1 hi;have hm:=cD.1 hm;simp only[jQ,decide_eq_true_eq];by_cases e1:n=i
 .exact .inl (.inl e1)
 by_cases e2:n=(i+1) % (dz r).length
 .exact .inl (.inr e2)
 refine .inr ((qM _).2 ?_);have hj:=bz (i+1) (show 0<(dz r).length by omega);have hij:i≠(i+1) % (dz r).length:=λe=>by
  rcases oZ (i+1) (dz r).length with g|g
  .rw[dh g]at e;omega
  .have:i+1=(dz r).length:=by omega
   rw[this,kj]at e;omega
 have m:=λ{k:Nat} (hk:k<(dz r).length)=>pm.mem_iff.1 (dO hk);have ne:=λ{a b:Nat} (ha:a<(dz r).length) (hb:b<(dz r).length) (h:a≠b) (e:aFG (dz r) a=aFG (dz r) b)=>h (fS nd ha hb e);have lw:LW (dz r) (pt (aFG (dz r) n)):=(c.corners N hs false _).2 λe he=>c.left e he _ (fG.1 (m hm)).1;have g:0<=ev (lin (aFG (dz r) i) (aFG (dz r) ((i+1) % (dz r).length))) (pt (aFG (dz r) n)):=lw ⟨_,_⟩ (by rw[L7 (show 2<=(dz r).length by omega)];exact Gg (by omega) hi);rw[dt]at g;have nz:=c.nocol (m hi) (m hj) (m hm) (ne hi hj hij) (ne hj hm (Ne.symm e2)) (ne hi hm (Ne.symm e1));show 0<cross (aFJ (aFG (dz r) ((i+1) % (dz r).length)) (aFG (dz r) i)) (aFJ (aFG (dz r) n) (aFG (dz r) i));omega
section
variable {s:Shape}
def QV(h:ai s=true):∃F TL,aFR (nxK s (dOf s).length) (HL s) F/\All3 (bk s) (sides s (dOf s)) (c8 s) TL/\qq TL F/\F.length+(dOf s).length=TL.length+(kpR s (dOf s).length).length/\(pcG s).Perm (F.map dz):=by
 obtain⟨F,Fc,TL,A,P,n⟩:=(rX h _ (bZ _)).faceQ;refine⟨F,TL,Fc,A,P,n,?_⟩;have hg:F.map gC=F.map dz:=mU λr hr=>by unfold gC;rw[AE (Fc.cx r hr).nodup];rfl
 rw[<-hg];exact(GX h).trans (Yj h Fc)
def Pf{F:List (List V)}(p:(pcG s).Perm (F.map dz))(r:aD):r∈pcG s↔∃f∈F,dz f=r:=by rw[p.mem_iff,bR]
def XQ(h:ai s=true){f:List V}(hs:∀e∈cyc f,sides s (dOf s) e.a e.b)(c:CX f):∀v∈f,aX v 2000=true:=λv hv=>by obtain⟨_,b,_,hb⟩:=c.around hv;exact i6 (vsR h) ((nF h).mem (hs _ hb))
def OU(h:ai s=true):∀r∈pcG s,bm r=true:=λr hr=>by obtain⟨F,TL,Fc,A,P,_,p⟩:=QV h;obtain⟨f,hf,rfl⟩:=(Pf p r).1 hr;exact Xi (nF h) (Fc.cx f hf) (vA h Fc hf) (XQ h (vA h Fc hf) (Fc.cx f hf))
def ML(h:ai s=true):∀r∈tOf s,bm r=true:=λr hr=>by
 obtain⟨TL,A,e⟩:=Fv h;rw[e]at hr;obtain⟨t,ht,rfl⟩:=bR.1 hr;have T:=A.tri t ht;have N:=nF h;have l:0<cross (aFJ t.b t.a) (aFJ t.c t.a):=by rw[<-dt];exact T.left
 have na:=i6 (vsR h) (N.mem T.ab);have nb:=i6 (vsR h) (N.mem T.bc);have nc:=i6 (vsR h) (N.mem T.ca);have l2:0<cross (aFJ t.c t.b) (aFJ t.a t.b):=by unfold cross aFJ at*;grind
 have l3:0<cross (aFJ t.a t.c) (aFJ t.b t.c):=by unfold cross aFJ at*;grind
 unfold T3.ring bm;simp[q8,na,nb,nc,aFG,nxt,turn,qM,l,l2,l3]
def Mo(h:ai s=true):sI (pcG s) (tOf s):=by
 obtain⟨F,TL,Fc,A,P,_,p⟩:=QV h;have hp:=Pf p;obtain⟨TL',A',e⟩:=Fv h;have N:=nF h;have c:=VA N A P Fc.cx λf hf=>vA h Fc hf;have st:∀q,(∃r∈pcG s,LS r q)↔∃f∈F,LS f q:=λq=>by
  have k:∀f∈F,LS (dz f) q↔LS f q:=λf hf=>(Fc.cx f hf).corners N (vA h Fc hf) true q;constructor
  .rintro⟨r,hr,g⟩;obtain⟨f,hf,rfl⟩:=(hp r).1 hr;exact⟨f,hf,(k f hf).1 g⟩
  .rintro⟨f,hf,g⟩;exact⟨_,(hp _).2 ⟨f,hf,rfl⟩,(k f hf).2 g⟩
 have rot:∀(a b d:V) (q:P3),LS [a,b,d] q->LS [b,d,a] q/\LS [d,a,b] q:=λa b d q g=>by unfold LS cyc at*;simp[cS]at g|-;grind
 have one:∀{X Y:List T3},All3 (bk s) (sides s (dOf s)) (c8 s) X->All3 (bk s) (sides s (dOf s)) (c8 s) Y->∀q,(∃r∈X.map T3.l,LS r q)->∃r∈Y.map T3.l,LS r q:=λAX AY q ⟨r,hr,g⟩=>by
  obtain⟨t,ht,rfl⟩:=bR.1 hr;obtain⟨g1,g2⟩:=rot _ _ _ q g;rcases AY.all _ _ _ (AX.tri t ht)with k|k|k
  .exact⟨_,bR.2 ⟨_,k,rfl⟩,g⟩
  .exact⟨_,bR.2 ⟨_,k,rfl⟩,g1⟩
  .exact⟨_,bR.2 ⟨_,k,rfl⟩,g2⟩
 have e2:tOf s=TL'.map T3.l:=e;intro L;have tt:∀q,(∃r∈TL.map T3.l,LS r q)↔∃r∈tOf s,LS r q:=λq=>by rw[e2];exact⟨one A A' q,one A' A q⟩
 have:=c L;simp only[<-st,tt]at this;exact this
def Vi{t:Shape}(h:ai s=true)(k:ai t=true):ny (pcG s) (pcG t)=ny (tOf s) (tOf t)/\ny (pcG s) (tOf t)=ny (tOf s) (tOf t)/\ny (tOf s) (pcG t)=ny (tOf s) (tOf t):=by
 have a:=Mo h;have b:=Mo k;have m:∀{X X' Z Z':List aD},(∀r∈X,bm r=true)->(∀r∈Z,bm r=true)->(∀r∈X',bm r=true)->(∀r∈Z',bm r=true)->(Mts X Z↔Mts X' Z')->ny X Z=ny X' Z':=λh1 h2 h3 h4 g=>by rw[fL,KX h1 h2,KX h3 h4];exact g
 have e1:∀Z,Mts (pcG s) Z↔Mts (tOf s) Z:=a.mts;have e2:∀X,Mts X (pcG t)↔Mts X (tOf t):=λX=>by rw[Mts.comm,b.mts,Mts.comm]
 have p1:=OU h;have p2:=OU k;have q1:=ML h;have q2:=ML k;exact⟨m p1 p2 q1 q2 ((e1 _).trans (e2 _)),m p1 q2 q1 q2 (e1 _),m q1 p2 q1 q2 (e2 _)⟩
end
end
section
noncomputable def tLM:=(((((((CU.adk Se).adk k91).adk k35).adk k27).adk k58).adk k16).adk k48).adk k41
noncomputable def c47:Con:=con (a1 aSh) (λs=>[kY s]) (λs=> .bool (js s&&ai s))
def k47:c47.Okz 42:=ak tLM (λ_=>[]
  ) (λ_=>⟨_,rfl⟩) λs hp=>aZ (kY s/\(js s=true->Fit s/\ai s=(js s&&ai s))/\
 (js s=false->false=(js s&&ai s))) (by kernel_rfl) (by change kY s at hp;exact⟨hp,λh=>⟨F4 hp h,by rw[h];rfl⟩,λh=>by rw[h];rfl⟩)
section
variable {s:Shape}
end
end
noncomputable def Qv:=(((((CU.adk k46).adk k45).adk k22).adk k48).adk k47).adk k41
def Be(s:Shape):(tOf s).length<=1000000:=by
 unfold tOf;split
 .unfold He;have h1:=EE s (vOf s) (tT s) (vOf s).length;have hv:=mw s;have h4:(vOf s).length*(vOf s).length<=80*80:=nP hv hv;have h5:(vOf s).length*((vOf s).length*(vOf s).length)<=80*(80*80):=nP hv h4;have h2:=(rH (ic s (vOf s) (tT s) (vOf s).length)).length_eq;first|omega|(show(cV (ic s (vOf s) (tT s) (vOf s).length)).length<=1000000;omega)
 .exact kK _
noncomputable def c11:Con:=con (ac aSh (a1 aSh)) (λ(s,t)=>[kY s,kY t]) (λ(_,_)=> .bool true)
def k11:c11.Okz 11:=ak Qv (λ(_,_)=>[]
  ) (λ(_,_)=>⟨_,rfl⟩) λ(s,t) hp=>aZ (aA (tOf t) λA=>aA (tOf s) λB=>aA (pcG s) λC=>aA (pcG t) λD=>aA (js s&&ai s) λE=>aA (js t&&ai t) λF=>aA (aFP C D==aFP B A) λG=>aA (aFP C A==aFP B A) λH=>((!true)=true->false=true)/\
 ((!true)=false->kY s/\((!E)=true->true=true)/\
  ((!E)=false->kY t/\((!F)=true->true=true)/\
   ((!F)=false->Fit s/\(bP s=true->GOk s/\SOk s/\pj s)/\Fit t/\(bP t=true->GOk t/\SOk t/\pj t)/\Fit s/\Fit t/\B.length<=1000000/\(∀r:aD,r∈tOf s->r.length<=1000)/\A.length<=1000000/\(∀r:aD,r∈tOf t->r.length<=1000)/\(eV s=0->(eV t=0->C.length<=1000000/\(∀r:aD,r∈pcG s->r.length<=1000)/\D.length<=1000000/\(∀r:aD,r∈pcG t->r.length<=1000)/\(G=true->C.length<=1000000/\(∀r:aD,r∈pcG s->r.length<=1000)/\A.length<=1000000/\(∀r:aD,r∈tOf t->r.length<=1000)/\(H=true->B.length<=1000000/\(∀r:aD,r∈tOf s->r.length<=1000)/\D.length<=1000000/\(∀r:aD,r∈pcG t->r.length<=1000)/\(aFP B D==aFP B A)=true)/\
       (H=false->false=true))/\
      (G=false->false=true))/\
     (¬eV t=0->false=true))/\
    (¬eV s=0->false=true))))) (by kernel_rfl) (by
  change kY s/\kY t at hp;obtain⟨hs,ht⟩:=hp;have hf:∀{u:Shape},(!(js u&&ai u))=false->js u=true/\ai u=true:=λh=>by rw[Bool.not_eq_false',bj]at h;exact h
  refine⟨λh=>(by cases h),λ_=>⟨hs,λ_=>rfl,λf=>⟨ht,λ_=>rfl,λg=> ?_⟩⟩⟩;obtain⟨f1,v⟩:=hf f;obtain⟨g1,w⟩:=hf g;have F:=F4 hs f1;have G:=F4 ht g1;have z:∀{u:Shape},ai u=true->eV u=0:=λv=>by unfold eV;rw[ku];exact if_pos v
  have tl:∀{u:Shape},ai u=true->∀r∈tOf u,r.length<=1000:=λv r hr=>by obtain⟨TL,_,e⟩:=Fv v;rw[e]at hr;obtain⟨t,_,rfl⟩:=bR.1 hr;exact(by decide:3<=1000)
  have pl:∀{u:Shape},ai u=true->(pcG u).length<=1000000:=λv=>cL (aBv v) (by decide);obtain⟨m1,m2,m3⟩:=Vi v w;rw[<-M5,<-M5]at m1 m2 m3;rw[m1,m2,m3,beq_self_eq_true];exact⟨F,λ_=>⟨gok v,sok v,IM v⟩,G,λ_=>⟨gok w,sok w,IM w⟩,F,G,Be s,tl v,Be t,tl w,λ_=>⟨λ_=>⟨pl v,B8 v,pl w,B8 w,λ_=>⟨pl v,B8 v,Be t,tl w,λ_=>⟨Be s,tl v,pl w,B8 w,rfl⟩,λh=>(by cases h)⟩,λh=>(by cases h)⟩,λh=>absurd (z w) h⟩,λh=>absurd (z v) h⟩)
noncomputable def t11:=Qv.adk k11
end Go.Proofs.YthbofdolalagjaaGreat
