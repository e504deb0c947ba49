/- ConvexMoves returns true for every shape and every vector, no condition (R11 R12 R13 R14 R15 R17 R18 K43 K44 Q11) -/
import Derived.Test.YtdaeofhdgabhjaaGreatCV5
set_option linter.all false
set_option maxRecDepth 100000
set_option maxHeartbeats 8000000
open List renaming mem_append->bq,mem_flatMap->dI,mem_map->bM,length_cons->gY,append_nil->CU,map_append->dQ,map_map->cv,mem_range->bz,mem_cons_self->cE,mem_cons_of_mem->cB,range->bP,map_cons->cT,length_append->fw,map_congr_left->iy,take_succ_eq_append_getElem->kR,getD_eq_getElem?_getD->de,pairwise_map->ia,getElem_mem->mN,length_map->cL,map_nil->j6,Pairwise.nil->rE,take->aW,take_of_length_le->gu,length_take->kP,map->cX,getElem_map->iZ
open Nat renaming mod_lt->bk,le_refl->bQ,mod_eq_of_lt->dj,mod_self->kK,add_mod_right->od,beq->bB,zero_le->i5
open Int renaming toNat_natCast->i7
open Function renaming comp->yT
open And renaming intro->cF
open Decidable renaming of_not_not->nM
open Go.Proofs.Tryz renaming prog->bD,f13->yo
open Go.RowKit
open Go.Proofs.YtdaeofhdgabhjaaGreat.Geo
open Go.Proofs.YtdaeofhdgabhjaaGreat.Geo renaming S->aEp,nth->aEn,Faces->aEA,V->aEo
namespace Go.Proofs.YtdaeofhdgabhjaaGreat
section
section
variable {s:Shape}
def aAq(h:aa s=true){e:aEp}(he:e∈lJ s):∃i j:Nat,i<(vOf s).length/\cu (nG s) i=j/\e=⟨aEn (vOf s) i,aEn (vOf s) j⟩:=by
 have fl:∀{k:Nat},k<(aE (aK s)).length->∀u,u<(aC (aE (aK s)) k).length->aEn (vOf s) (bs (aE (aK s)) k+u)=aEn (aC (aE (aK s)) k) u:=λ{k} hk u hu=>by rw[nT h];exact xF _ k u hk hu
 have hl:∀{k:Nat},k<(aE (aK s)).length->bs (aE (aK s)) k+(aC (aE (aK s)) k).length<=(vOf s).length:=λ{k} hk=>by have h1:=qe hk;have h3:=ut (aE (aK s)) (k+1);rw[nT h];omega
 unfold lJ at he;rcases bq.1 he with he|he
 .have he2:=(rO s.outer e).2 he;rw[<-KH h]at he2;obtain⟨t,ht,e1⟩:=N9 he2;have hk:0<(aE (aK s)).length:=by unfold aE;simp
  have hm:=bk (t+1) (show 0<(aC (aE (aK s)) 0).length by omega);refine⟨bs (aE (aK s)) 0+t,_,by grind,(Bj h hk ht).1 rfl,?_⟩;grind
 .rw[lm]at he;obtain⟨q,hq,heq⟩:=dI.1 he;have hb:co q∈(dC s).holes:=(lV _).mem_iff.2 (bM.2 ⟨q,hq,rfl⟩);obtain⟨a,ha,ea⟩:∃a,a<(dC s).holes.length/\aC (dC s).holes a=co q:=by obtain⟨a,ha,e⟩:=List.mem_iff_getElem.1 hb;exact⟨a,ha,by rw[jM ha];exact e⟩
  have hk:a+1<(aE (aK s)).length:=by rw[mV h];unfold aE;rw[gY];omega
  have er:aC (aE (aK s)) (a+1)=co q:=by rw[mV h];exact ea
  have he2:=(rO q _).2 heq;rw[<-er]at he2;obtain⟨t,ht,e1⟩:=N9 he2;have hm:=bk (t+1) (show 0<(aC (aE (aK s)) (a+1)).length by omega);refine⟨bs (aE (aK s)) (a+1)+(t+1) % (aC (aE (aK s)) (a+1)).length,_,by grind,(Bj h hk ht).2 (by omega),?_⟩;rw[fl hk t ht,fl hk _ hm];have e2:e=swp (swp e):=rfl;rw[e2,e1];rfl
def HL(s:Shape):aEp->Prop:=HK s (dOf s).length
def aAS{e:aEp}:HL s e↔e∈lJ s\/e∈kpR s (dOf s).length\/swp e∈kpR s (dOf s).length:=by unfold HL HK lI;rw[List.drop_length,CU,bq,bq,lm]
def Yi(h:aa s=true):(spG s).map (phi (vOf s))=kpR s (dOf s).length:=by have S:=(pF h _ (bQ _)).kept;unfold spG;rw[qj];exact S
def xQ(h:aa s=true){e:aEp}:e∈(hsG s).map (phi (vOf s))↔HL s e:=by
 rw[aAS];unfold hsG;rw[dQ,bq];refine or_congr ?_ ?_
 .unfold nxP;rw[cv];constructor
  .intro g;obtain⟨i,hi,rfl⟩:=bM.1 g;have hi:=bz.1 hi;obtain⟨j,ej,hj,he⟩:=GK h hi;show phi (vOf s) (i,(cu (nG s) i).toNat)∈_;rw[ej,i7];exact he
  .intro g;obtain⟨i,j,hi,ej,e1⟩:=aAq h g;refine bM.2 ⟨i,bz.2 hi,?_⟩;show phi (vOf s) (i,(cu (nG s) i).toNat)=e;rw[ej,i7,e1];rfl
 .rw[<-Yi h,bM,bM,bM];constructor
  .rintro⟨p,hp,rfl⟩;obtain⟨q,hq,hpq⟩:=dI.1 hp;unfold iU at hpq;rcases List.mem_cons.1 hpq with e1|hpq
   .grind
   .rw[List.mem_singleton.1 hpq];exact .inr ⟨q,hq,rfl⟩
  .rintro(⟨p,hp,rfl⟩|⟨p,hp,e1⟩)
   .exact⟨p,dI.2 ⟨p,hp,cE⟩,rfl⟩
   .refine⟨(p.2,p.1),dI.2 ⟨p,hp,cB _ cE⟩,?_⟩;have:e=swp (phi (vOf s) p):=by rw[e1];rfl
    rw[this];rfl
end
end
section
def Lo:∀(a:V) (l:List V),ct a l=(bP l.length).map λi=>(⟨aEn (a::l) i,aEn (a::l) (i+1)⟩:aEp)
 |a,[] =>rfl
 |a,x::l=>by
  have ih:=Lo x l;show(⟨a,x⟩:aEp)::ct x l=_;rw[ih,gY,List.range_succ_eq_map,cT,cv];rfl
def Zg{r:List V}(h:0<r.length):cyc r=(bP r.length).map λi=>(⟨aEn r i,aEn r ((i+1) % r.length)⟩:aEp):=by
 cases r with
 |nil=>simp at h
 |cons a l=>
  show ct a (l++[a])=_;rw[Lo,fw,List.length_singleton,gY];refine iy λi hi=> ?_;have hi:=bz.1 hi;have e1:aEn (a::(l++[a])) i=aEn (a::l) i:=Dr (a:=a::l) (b:=[a]) (by omega);rw[e1];by_cases h2:i+1<l.length+1
  .have e2:aEn (a::(l++[a])) (i+1)=aEn (a::l) (i+1):=Dr (a:=a::l) (b:=[a]) (by omega);rw[e2,dj h2]
  .have e3:i+1=l.length+1:=by omega
   have e2:aEn (a::(l++[a])) ((a::l).length+0)=aEn [a] 0:=KQ (a:=a::l) (b:=[a]) 0;rw[e3,kK];rw[show l.length+1=(a::l).length+0 from rfl,e2];rfl
def UF{r:List V}(hn:r.Nodup){k:Nat}(hk:k<r.length):pc r k=iI r (aEn r k):=by
 have c:=Zg (r:=r) (by omega);have m1:(⟨aEn r ((k+r.length-1) % r.length),aEn r k⟩:aEp)∈cyc r:=by rw[c];refine bM.2 ⟨(k+r.length-1) % r.length,bz.2 (bk _ (by omega)),?_⟩;rw[Nat.mod_add_mod,show k+r.length-1+1=k+r.length by omega,od,dj hk]
 have m2:(⟨aEn r k,aEn r ((k+1) % r.length)⟩:aEp)∈cyc r:=by rw[c];exact bM.2 ⟨k,bz.2 hk,rfl⟩
 rw[Bool.eq_iff_iff,uD];unfold pc;rw[decide_eq_true_eq];constructor
 .grind
 .rintro⟨a,b,ha,hb,h⟩;have e2:=An hn hb m2 rfl;have e1:a=aEn r ((k+r.length-1) % r.length):=by
   rw[c]at ha;obtain⟨t,ht,e⟩:=bM.1 ha;have ht:=bz.1 ht;have ea:aEn r t=a:=congrArg aEp.a e;have eb:aEn r ((t+1) % r.length)=aEn r k:=congrArg aEp.b e;have:=ll hn (bk _ (by omega)) hk eb;rw[<-ea,<-this];by_cases h3:t+1<r.length
   .rw[dj h3,show t+1+r.length-1=t+r.length by omega,od,dj ht]
   .rw[show t+1=r.length by omega,kK,Nat.zero_add,dj (by omega),show t=r.length-1 by omega]
  grind
def Ip{r:List V}(hn:r.Nodup):∀k,k<=r.length->fh r k=(r.take k).filter (iI r)
 |0,_=>rfl
 |k+1,h=>by
  have hk:k<r.length:=by omega
  rw[wU,Ip hn k (by omega),kR hk,List.filter_append,UF hn hk,nth_eq hk];grind
def y6{r:List V}(hn:r.Nodup):dH r=r.filter (iI r):=by unfold dH;rw[Ip hn _ (bQ _),List.take_length]
def gC(r:List V):List V:=co (dH r)
def ZZ{r:List V}(hn:r.Nodup){k l:List V}(e:r=k++l):gC (l++k)=gC r:=by subst e;have hn2:(l++k).Nodup:=List.perm_append_comm.nodup_iff.1 hn;unfold gC;rw[y6 hn,y6 hn2];exact WV hn
section
variable {s:Shape}
def xd(s:Shape):soG s=(sG s (dOf s).length).1:=by unfold soG;rw[qj]
def Gv(h:aa s=true):∀p∈hsG s,p.1<(vOf s).length/\p.2<(vOf s).length:=λp hp=>by
 unfold hsG at hp;rcases bq.1 hp with hp|hp
 .unfold nxP at hp;obtain⟨i,hi,rfl⟩:=bM.1 hp;have hi:=bz.1 hi;obtain⟨j,ej,hj,_⟩:=GK h hi;omega
 .obtain⟨q,hq,hpq⟩:=dI.1 hp;have hq2:q∈pG s:=M3 _ _ _ _ (bQ _) q hq;have:=Bh (by rw[hZ];exact h) hq2;unfold iU at hpq;grind
def Ff(h:aa s=true){p:Nat×Nat}(hp:p∈hsG s):eR (AK s (dOf s).length) (aEn (vOf s) p.1) (aEn (vOf s) p.2):=
 uO h (bQ _) ((xQ h).1 (bM.2 ⟨p,hp,rfl⟩))
def pc1(h:aa s=true)(i j:Nat)(hm:(j:Int)∈ae (soG s) i):ArOk (vOf s) (soG s) i j/\ArOk (vOf s) (soG s) j i:=by
 have S:=pF h _ (bQ _);rw[xd]at hm|-;have hi:i<(vOf s).length:=by
  by_cases hi:i<(vOf s).length
  .exact hi
  .have:ae (sG s (dOf s).length).1 i=[] :=by unfold ae;rw[de,List.getElem?_eq_none (by rw[uR];omega)];rfl
   grind
 obtain⟨m,e,hm2⟩:=S.rng i hi _ hm;have hj:j<(vOf s).length:=by have:=Int.ofNat.inj e;omega
 have g:eR (AK s (dOf s).length) (aEn (vOf s) i) (aEn (vOf s) j):=(S.mem i hi _).2 (bM.2 ⟨_,hm,by unfold vtx;grind⟩);exact⟨S.ar h hi hj g,S.ar h hj hi g.symm⟩
def pc2(h:aa s=true):∀p∈hsG s,ArOk (vOf s) (soG s) p.2 p.1:=λp hp=>by have S:=pF h _ (bQ _);obtain⟨h1,h2⟩:=Gv h p hp;rw[xd];exact S.ar h h2 h1 (Ff h hp).symm
def pc3(h:aa s=true):∀i,i<(vOf s).length->0<=cu (nG s) i:=λi hi=>by obtain⟨j,ej,_,_⟩:=GK h hi;omega
def Y3(h:aa s=true){p q:Nat×Nat}(hp:p.1<(vOf s).length/\p.2<(vOf s).length)(hq:q.1<(vOf s).length/\q.2<(vOf s).length)(e:phi (vOf s) p=phi (vOf s) q):p=q:=
 Prod.ext (pB h hp.1 hq.1 (congrArg aEp.a e)) (pB h hp.2 hq.2 (congrArg aEp.b e))
def FE(h:aa s=true):∀(f:Nat) (U:List (Nat×Nat)) (p:Nat×Nat) (r:List V),(∀q∈U,q.1<(vOf s).length/\q.2<(vOf s).length)->p.1<(vOf s).length->p.2<(vOf s).length->
  eR (AK s (dOf s).length) (aEn (vOf s) p.1) (aEn (vOf s) p.2)->
  tr (nxK s (dOf s).length) f (U.map (phi (vOf s))) (phi (vOf s) p) r=((trc (vOf s) (soG s) f U p r).1.map (phi (vOf s)),(trc (vOf s) (soG s) f U p r).2)/\∀q∈(trc (vOf s) (soG s) f U p r).1,q.1<(vOf s).length/\q.2<(vOf s).length
 |0,U,p,r,hU,_,_,_=>⟨rfl,hU⟩
 |f+1,U,p,r,hU,h1,h2,hs=>by
  have S:=pF h _ (bQ _);have hin:phi (vOf s) p∈U.map (phi (vOf s))↔p∈U:=by
   constructor
   .intro g;obtain⟨q,hq,e⟩:=bM.1 g;rw[<-Y3 h (hU q hq) ⟨h1,h2⟩ e];exact hq
   .grind
  by_cases hp:p∈U
  .rw[OS hp,BW (hin.2 hp)];grind
  .rw[Ms hp,F4 λg=>hp (hin.1 g)];have A:=S.ar h h2 h1 hs.symm;have ar:=A.around (-1);obtain⟨ar1,ar2⟩:=ar;have e1:nxK s (dOf s).length (phi (vOf s) p)=aEn (vOf s) (iB (soG s) p.2 p.1 (-1)):=by rw[xd];exact(JC (S.fan _ h2) (λx=>(xG h (bQ _)).trans (S.mem _ h2 x)) A.mem).symm
   have e2:(⟨(phi (vOf s) p).b,nxK s (dOf s).length (phi (vOf s) p)⟩:aEp)=phi (vOf s) (nxH (soG s) p):=by rw[e1];rfl
   have hU2:∀q∈U++[p],q.1<(vOf s).length/\q.2<(vOf s).length:=λq hq=>by grind
   have hs2:eR (AK s (dOf s).length) (aEn (vOf s) (nxH (soG s) p).1) (aEn (vOf s) (nxH (soG s) p).2):=by rw[xd];refine(S.mem _ h2 _).2 (bM.2 ⟨_,ar1,?_⟩);unfold vtx;rw[i7];rfl
   have ih:=FE h f (U++[p]) (nxH (soG s) p) (r++[aEn (vOf s) p.1]) hU2 h2 (by rw[xd];exact ar2) hs2;rw[dQ]at ih;rw[e2];exact ih
end
end
section
section
variable {s:Shape}
def Kn(h:aa s=true){F:List (List V)}(Fc:aEA (nxK s (dOf s).length) (HL s) F){r:List V}(hr:r∈F):∀e∈cyc r,sides s (dOf s) e.a e.b:=λe he=>
 qg (bQ _) (uO h (bQ _) ((Fc.all e).1 (dI.2 ⟨r,hr,he⟩)))
def MQ(h:aa s=true){F:List (List V)}(Fc:aEA (nxK s (dOf s).length) (HL s) F){r:List V}(hr:r∈F):r.length<=(vOf s).length:=by
 have c:=Fc.cx r hr;have hv:∀u∈r,u∈vOf s:=λu hu=>by
  have hu2:u∈(cyc r).map S.a:=by rw[rn];exact hu
  obtain⟨e,he,rfl⟩:=bM.1 hu2;exact LC h (Kn h Fc hr e he)
 have hn:(r.map (ci (vOf s))).Nodup:=by unfold List.Nodup;rw[ia];refine List.Pairwise.imp_of_mem (λ{a b} ha hb hne e=>hne ?_) c.nodup;have e1:=qU (hv a ha);rw[e,qU (hv b hb)]at e1;exact e1.symm
 have:=AG (vOf s).length _ hn λx hx=>by obtain⟨u,hu,rfl⟩:=bM.1 hx;exact lr (hv u hu)
 grind
def ED(h:aa s=true){F:List (List V)}(Fc:aEA (nxK s (dOf s).length) (HL s) F):∀r∈F,r.length<=trU (vOf s):=λr hr=>by have h1:=MQ h Fc hr;have h2:=(Fc.cx r hr).three;unfold trU;have:(vOf s).length*1<=(vOf s).length*(vOf s).length:=Nat.mul_le_mul_left _ (by omega);omega
def WG{F:List (List V)}(Fc:aEA (nxK s (dOf s).length) (HL s) F):∀r∈F,∀k l,r=k++l->gC (l++k)=gC r:=λr hr _ _ e=>ZZ (Fc.cx r hr).nodup e
def Ee(h:aa s=true):∀k,k<=(hsG s).length->m7 (nxK s (dOf s).length) (trU (vOf s)) gC (((hsG s).take k).map (phi (vOf s))) ([],[])=((pcK s k).1.map (phi (vOf s)),(pcK s k).2)/\∀q∈(pcK s k).1,q.1<(vOf s).length/\q.2<(vOf s).length
 |0,_=>⟨rfl,λq hq=>(List.not_mem_nil hq).elim⟩
 |k+1,hk=>by
  obtain⟨ih,hr⟩:=Ee h k (by omega);have hkl:k<(hsG s).length:=by omega
  have hm:(hsG s)[k]∈hsG s:=mN hkl;obtain⟨l1,l2⟩:=Gv h _ hm;obtain⟨sim,hr2⟩:=FE h (trU (vOf s)) (pcK s k).1 (hsG s)[k] [] hr l1 l2 (Ff h hm);rw[kR hkl,dQ,List.map_singleton,I0,ih];dsimp only;rw[sim,tk,mZ hkl];exact⟨rfl,hr2⟩
def Wv(h:aa s=true){F:List (List V)}(Fc:aEA (nxK s (dOf s).length) (HL s) F){k:Nat}(hk:k<(hsG s).length)(h0:0<(trc (vOf s) (soG s) (trU (vOf s)) (pcK s k).1 (aX (hsG s) k) []).2.length):
  ∃r∈F,∃a b,r=a++b/\(trc (vOf s) (soG s) (trU (vOf s)) (pcK s k).1 (aX (hsG s) k) []).2=b++a:=by
 obtain⟨ih,hr⟩:=Ee h k (by omega);have hm:(hsG s)[k]∈hsG s:=mN hk;obtain⟨l1,l2⟩:=Gv h _ hm;obtain⟨sim,_⟩:=FE h (trU (vOf s)) (pcK s k).1 (hsG s)[k] [] hr l1 l2 (Ff h hm);have I:=Ls Fc (ED h Fc) (g:=gC) (((hsG s).take k).map (phi (vOf s))) ([],[]) (sr.nil F) λe he=>by obtain⟨p,hp,rfl⟩:=bM.1 he;exact(xQ h).1 (bM.2 ⟨p,List.mem_of_mem_take hp,rfl⟩)
 rw[ih]at I;rw[mZ hk]at h0|-;rcases Mu Fc (ED h Fc) I (e:=phi (vOf s) (hsG s)[k]) ((xQ h).1 (bM.2 ⟨_,hm,rfl⟩))with t|⟨r,hrF,a,b,e,t,_⟩
 .grind
 grind
def HO(h:aa s=true):nA s:=by
 refine⟨pc1 h,pc2 h,pc3 h,λk hk h0=> ?_⟩;obtain⟨F,Fc⟩:=(pF h _ (bQ _)).face;obtain⟨r,hr,a,b,e,et⟩:=Wv h Fc hk h0;have c:=Fc.cx r hr;have hl:=MQ h Fc hr;have hv:=pP s;have c2:CX (b++a):=by rw[e]at c;exact c.swap
 have hp:(cyc (b++a)).Perm (cyc r):=by rw[e];exact lh a b
 rw[et];refine⟨?_,?_⟩
 .grind
 .rw[y6 c2.nodup];exact List.length_pos_iff.2 (c2.corner (oR h) λq hq=>Kn h Fc hr q (hp.mem_iff.1 hq))
def Ln(h:aa s=true){F:List (List V)}(Fc:aEA (nxK s (dOf s).length) (HL s) F):(pcK s (hsG s).length).2.Perm (F.map gC):=by have g:=Dp Fc (ED h Fc) (WG Fc) ((hsG s).map (phi (vOf s))) ([],[]) [] F (λe he=>(xQ h).1 he) (.refl _) (λe=>by simp) (.refl _) λr hr e he=>(xQ h).2 ((Fc.all e).1 (dI.2 ⟨r,hr,he⟩));have e:=(Ee h (hsG s).length (bQ _)).1;grind
end
end
def wM{r:aD}(hn:r.Nodup):(aJ r).Nodup:=by
 by_cases h2:r.length<2
 .unfold aJ;grind
 .rw[<-Kq (r:=r) (by omega)]at hn;exact List.Pairwise.imp (λ{a b} hne (e:a=b)=>hne (by rw[e])) (ia.1 hn)
section
section
variable {s:Shape}
end
end
section
section
variable {s:Shape} {u:V}
def xD(h:aa s=true)(hn:iq (mvH u s)):aa (mvH u s)=true:=by rw[<-hZ];exact(kS _).2 ((vsR h).mv hn)
def qm(h:aa s=true)(hn:iq (mvH u s)):vOf (mvH u s)=(vOf s).map (mv u):=by rw[lj (xD h hn),lj h,E1 (vsR h)];exact wY
def Kv(h:aa s=true):dOf s=(c7 s (vOf s)).map (cS (vOf s)):=by rw[Am h,lj h];exact(xR (vsR h) (λx hx=>(mR s).subset hx) ((mR s).nodup_iff.2 (vsR h).nodup)).1.symm
def Ov(h:aa s=true)(hn:iq (mvH u s)):dOf (mvH u s)=(dOf s).map (mvE u):=by rw[Kv (xD h hn),Kv h,lj (xD h hn),lj h];exact YI (vsR h) hn
def Nx(l:List V)(a:V):ci (l.map (mv u)) (mv u a)=ci l a:=by unfold ci;rw[List.findIdx_map];congr 1;funext x;simp[Gq]
def mY{l:List V}{i:Nat}(h:i<l.length):aEn (l.map (mv u)) i=mv u (aEn l i):=jR h
def Pg(h:aa s=true)(hn:iq (mvH u s)):pG (mvH u s)=pG s:=by unfold pG dgP;rw[qm h hn,Ov h hn,cv];exact iy λd _=>by simp only[yT,mvE,Nx]
def Px(R:List aD)(k:Nat):bs (R.map (mvR u)) k=bs R k:=by
 unfold bs;rw[<-List.map_take,List.length_flatten,List.length_flatten,cv]
 congr 1
 exact iy λr _=>iE r
def JW(R:List aD)(k:Nat):(aC (R.map (mvR u)) k).length=(aC R k).length:=by unfold aC;rw[de,de,List.getElem?_map];cases R[k]? <;>simp[iE]
def Oa(R:List aD):∀(k:Nat) (L:List (List Int)),rsO (R.map (mvR u)) k L=rsO R k L
 |0,_=>rfl
 |k+1,L=>by unfold rsO;rw[Px,JW,Oa R k L]
def Oc(R:List aD):∀(k:Nat) (L:List Int),rsN (R.map (mvR u)) k L=rsN R k L
 |0,_=>rfl
 |k+1,L=>by unfold rsN;rw[Px,JW,Oc R k L]
def Pf(h:aa s=true)(hn:iq (mvH u s)):rX (mvH u s)=(rX s).map (mvR u):=by unfold rX;rw[mV (xD h hn),mV h,E1 (vsR h)];unfold aE mvH;rw[cT]
def aA4(h:aa s=true)(hn:iq (mvH u s)):oB (mvH u s)=oB s:=by have e:=Pf h hn;unfold rX at e;unfold oB;rw[e,qm h hn,cL,cL,Oa]
def aA5(h:aa s=true)(hn:iq (mvH u s)):nG (mvH u s)=nG s:=by have e:=Pf h hn;unfold rX at e;unfold nG;rw[e,qm h hn,cL,cL,Oc]
def ZB{D:List aEp}{k:Nat}(h:k<D.length):az (D.map (mvE u)) k=mvE u (az D k):=by unfold az;simp[de,h]
def PC(v:List V)(D:List aEp)(L:List (List Int)):∀k,k<=D.length->dgO (v.map (mv u)) (D.map (mvE u)) k L=dgO v D k L
 |0,_=>rfl
 |k+1,hk=>by
  unfold dgO;rw[PC v D L k (by omega),ZB (by omega)];simp only[mvE,Nx]
def aA3(h:aa s=true)(hn:iq (mvH u s)):oD (mvH u s)=oD s:=by unfold oD;rw[qm h hn,Ov h hn,aA4 h hn,cL,PC _ _ _ _ (bQ _)]
def aAR{v:List V}{p x y:Nat}(hp:p<v.length)(hx:x<v.length)(hy:y<v.length):j4 (v.map (mv u)) p x y=j4 v p x y:=by unfold j4;rw[mY hp,mY hx,mY hy,qh,qh]
def Ji{lt lt':Int->Int->Bool}{x:Int}:∀l:List Int,(∀y∈l,lt y x=lt' y x)->p9 lt x l=p9 lt' x l
 |[],_=>rfl
 |y::r,h=>by
  unfold p9;rw[h y cE,Ji r λz hz=>h z (cB _ hz)]
def Iu{lt lt':Int->Int->Bool}:∀l:List Int,(∀x∈l,∀y∈l,lt x y=lt' x y)->kZ lt l=kZ lt' l
 |[],_=>rfl
 |x::l,h=>by
  unfold kZ;rw[Iu l λa ha b hb=>h a (cB _ ha) b (cB _ hb)];exact Ji _ λy hy=>h y (cB _ ((rU lt' l).mem_iff.1 hy)) x cE
def Xg{L M:List (List Int)}(hl:L.length=M.length)(h:∀c,c<L.length->ae L c=ae M c):L=M:=by apply List.ext_getElem hl;intro i h1 h2;have:=h i h1;unfold ae at this;simpa[h1,h2]using this
def aA2(h:aa s=true)(hn:iq (mvH u s)):oG (mvH u s)=oG s:=by
 unfold oG;rw[qm h hn,aA3 h hn,cL];refine Xg (by rw[rq,rq]) λc hc=> ?_;rw[rq]at hc;rw[sD _ _ _ _ hc,sD _ _ _ _ hc];split
 .rename_i h1;refine Iu _ λx hx y hy=> ?_;have hx:=(gok h c h1).2.1 x hx;have hy:=(gok h c h1).2.1 y hy;unfold ltA;rw[aAR h1 hx.2 hy.2]
 .rfl
def Nj{v:List V}{L:List (List Int)}{i j:Nat}(h:ArOk v L i j)(hi:i<v.length):fo (v.map (mv u)) L i j=fo v L i j:=by unfold fo;rw[mY hi,mY (h.around (-1)).2,mY (h.around 1).2,uI]
def OW(h:aa s=true):∀k,k<=(pG s).length->stS ((vOf s).map (mv u)) (pG s) k (oG s)=sG s k
 |0,_=>rfl
 |k+1,hk=>by
  obtain⟨h1,h2,_⟩:=sok h k (by omega);obtain⟨b1,b2⟩:=Bh (by rw[hZ];exact h) (Lz (l:=pG s) (i:=k) (by omega));unfold sG;unfold stS;rw[OW h k (by omega)];dsimp only;rw[Nj h1 b1,Nj h2 b2];rfl
def Pe(h:aa s=true)(hn:iq (mvH u s)):soG (mvH u s)=soG s/\spG (mvH u s)=spG s:=by
 unfold soG spG;have:sG (mvH u s) (pG (mvH u s)).length=sG s (pG s).length:=by rw[Pg h hn];show stS _ _ _ _=_;rw[qm h hn,Pg h hn,aA2 h hn,OW h _ (bQ _)]
 rw[this];exact⟨rfl,rfl⟩
def aAs(h:aa s=true)(hn:iq (mvH u s)):hsG (mvH u s)=hsG s:=by unfold hsG nxP;rw[(Pe h hn).2,qm h hn,aA5 h hn,cL]
def YK(r:List V):dH (r.map (mv u))=(dH r).map (mv u):=by
 unfold dH fh;rw[cL,cv];have e:(bP r.length).filter (pc (r.map (mv u)))=(bP r.length).filter (pc r):=by refine List.filter_congr λk hk=> ?_;have hk:=bz.1 hk;unfold pc;rw[cL,mY (bk _ (by omega)),mY hk,mY (bk _ (by omega)),uI]
 rw[e];refine iy λk hk=> ?_;exact mY (bz.1 (List.mem_filter.1 hk).1)
def OR{v:List V}{L:List (List Int)}(hL:L.length=v.length)(hP:∀i j:Nat,(j:Int)∈ae L i->ArOk v L i j/\ArOk v L j i):∀(f:Nat) (S:List (Nat×Nat)) (e:Nat×Nat) (r:List V),e.1<v.length->ArOk v L e.2 e.1->
  trc (v.map (mv u)) L f S e (r.map (mv u))=((trc v L f S e r).1,(trc v L f S e r).2.map (mv u))
 |0,_,_,_,_,_=>rfl
 |f+1,S,e,r,h1,h2=>by
  unfold trc;split
  .rfl
  .have hi:e.2<v.length:=hL▸h2.iL;rw[mY h1,<-OR hL hP f (S++[e]) (nxH L e) (r++[aEn v e.1]) hi (hP _ _ (h2.around (-1)).1).2,dQ];rfl
def Og(h:aa s=true):∀k,k<=(hsG s).length->pcs ((vOf s).map (mv u)) (soG s) (hsG s) k=((pcK s k).1,(pcK s k).2.map (mvR u))
 |0,_=>rfl
 |k+1,hk=>by
  obtain⟨p1,p2,_,_⟩:=HO h;have hm:=Lz (l:=hsG s) (i:=k) (by omega);have h2:=p2 _ hm;have hL:(soG s).length=(vOf s).length:=uR s _;have h1:(aX (hsG s) k).1<(vOf s).length:=hL▸(p1 _ _ h2.mem).2.iL;have e:=OR (u:=u) hL p1 (trU (vOf s)) (pcK s k).1 (aX (hsG s) k) [] h1 h2;have e0:trU ((vOf s).map (mv u))=trU (vOf s):=by unfold trU;rw[cL]
  unfold pcK;unfold pcs;rw[Og h k (by omega),e0];rw[j6]at e;unfold pcK at e|-;dsimp only;rw[e,cL,YK];split
  .rw[dQ]
   congr 2
   rw[cT,j6]
   congr 1
   exact E2 _
  .rfl
def Jz:∀l m:aD,cQ (mvR u l) (mvR u m)=cQ l m
 |[],[] =>rfl
 |[],_::_=>rfl
 |_::_,[] =>rfl
 |x::l,y::m=>by
  have:=Jz l m;unfold mvR at*;rw[cT,cT];unfold cQ;rw[OH,this]
def XB(l:List aD):pf (l.map (mvR u))=(pf l).map (mvR u):=by refine(Ig ((wO l).map _) ?_).symm;rw[ia];refine(Cr l [] rE).imp λ{a b} h=> ?_;unfold iF at*;rw[Jz];exact h
def aAr(h:aa s=true)(hn:iq (mvH u s)):pcG (mvH u s)=(pcG s).map (mvR u):=by unfold pcG;rw[hZ,hZ,if_pos h,if_pos (xD h hn)];unfold pcK;rw[qm h hn,(Pe h hn).1,aAs h hn,Og h _ (bQ _)];exact XB _
end
end
section
section
variable {s:Shape}
def Ae(h:aa s=true):(pcG s).Perm (pcK s (hsG s).length).2:=by unfold pcG;rw[hZ,if_pos h];exact wO _
def Vo(h:aa s=true):(pcG s).Pairwise λa b=>cQ a b<0:=by
 obtain⟨F,Fc⟩:=(pF h _ (bQ _)).face;have hg:F.map gC=F.map sk:=iy λr hr=>by unfold gC;rw[y6 (Fc.cx r hr).nodup];rfl
 have hn:(pcG s).Nodup:=by rw[(Ae h).nodup_iff,(Ln h Fc).nodup_iff,hg];exact Fc.corners (oR h) λe he=>qg (bQ _) (uO h (bQ _) he)
 have hs:(pcG s).Pairwise iF:=by unfold pcG;rw[hZ,if_pos h];exact Cr _ [] rE
 refine(List.Pairwise.and hs hn).imp λ{a b} ⟨h1,h2⟩=> ?_;have:cQ a b≠0:=λe=>h2 (wG _ _ e);unfold iF at h1;omega
def aAj(h:aa s=true):(pcG s).length<=100000:=by
 rw[(Ae h).length_eq];have h1:=FV s (hsG s).length;have h2:=Az (vOf s) (pG s) (oG s) (pG s).length;have h3:=Zf s;have h4:(vOf s).length<=80:=by rw[lj h];exact EP (vsR h)
 have h0:=N4 s;rw[qj]at h2;have h5:(spG s).length<=(dOf s).length:=by unfold spG sG;rw[qj];exact h2
 omega
def aAi(h:aa s=true):∀r∈pcG s,r.length<=1000:=λr hr=>
 FU (HO h) _ (bQ _) r ((Ae h).mem_iff.1 hr)
def Y4(h:aa s=true):∀r∈pcG s,∀v∈r,v∈bl s:=λr hr v hv=>by obtain⟨F,Fc⟩:=(pF h _ (bQ _)).face;obtain⟨q,hq,rfl⟩:=bM.1 ((Ln h Fc).mem_iff.1 ((Ae h).mem_iff.1 hr));unfold gC at hv;rw[(tV _).mem_iff]at hv;have hv:=EH q _ (bQ _) v hv;rw[<-rn q]at hv;obtain⟨e,he,rfl⟩:=bM.1 hv;exact(oR h).mem (qg (bQ _) (uO h (bQ _) ((Fc.all e).1 (dI.2 ⟨q,hq,he⟩))))
end
end
section
noncomputable def tLM:=(((((((BZ.adk Rg).adk k91).adk k35).adk k27).adk k58).adk k16).adk k48).adk k41
def mvC(r:aD)(u:aEo):Int:=if dB r=true then(if ag u 4000=true then(if near (mvR u r)=true then 0 else 2)else 2)else 11
def mvL(r:aD)(u:aEo):aD:=if mvC r u=0 then mvR u r else []
def msC(s:Shape)(u:aEo):Int:=if aa s=true then mvC s.outer u else 11
def msS(s:Shape)(u:aEo):Shape:=if msC s u=0 then⟨mvR u s.outer,s.holes.map λh=>mvL h u⟩else⟨[],[]⟩
noncomputable def c40:Con:=con (ac aV (a1 aV)) (λ(a,b)=>[bd 4000000000000000000 a,bd 4000000000000000000 b]) (λ(a,b)=>aV.enc (mv b a)
 )
def k40:c40.Okz 40:=bH tLM (λ(_,_)=>[]) (λ(_,_)=>⟨_,rfl⟩) λ(a,b) hp=>bC (aH (a.x+b.x)/\aH (a.y+b.y)/\a.x+b.x=(mv b a).x/\a.y+b.y=(mv b a).y) (by kernel_rfl) (by change bd 4000000000000000000 a/\bd 4000000000000000000 b at hp;obtain⟨⟨⟨h1,h2⟩,h3,h4⟩,⟨h5,h6⟩,h7,h8⟩:=hp;exact⟨bT (by omega),bT (by omega),rfl,rfl⟩)
noncomputable def t40:=tLM.adk k40
noncomputable def aEh:Con:=con (ac (aL .V) (a1 aV)) (λ(r,_)=>[r.length<=100000]) (λ(r,u)=> .tup [.lst .V (mvL r u),.iqz (mvC r u)])
def aCS:aEh.Okz 105:=uc (oK t40.o) (raw:=λr i=>(bB r 0&&bB i 1)||(bB r 2&&bB i 0)||(bB r 4&&bB i 0)||(bB r 11&&bB i 0)) (λ(r,u)=>[lp 7 7 r.length (λ_=>[]) [900] (λk=>[(6,.own 900 .V k)]) (λk=>[(900,.row 44 .V ((mvR u r).take k))])]
  ) (λ(_,_)=>⟨_,rfl⟩) λ(r,u) hp=>bC (aA (mvR u r) λB=>aA (!dB r) λF=>aA ([] :List aEo) λG=>aA (!ag u 4000) λH=>r.length<=100000/\(F=true->mvL r u=G/\11=mvC r u)/\
 (F=false->(0:Int)<=4000/\(4000:Int)<=1000000000000/\(H=true->mvL r u=G/\2=mvC r u)/\
  (H=false->(0=(0:Int)/\(0:Nat)=0/\aW 0 B=G/\(0:Nat)<=r.length)/\
   (∀x:Nat,aA (x:Int) λA=>aA (aEn r x) λC=>aA (mv u C) λD=>aA (aW x B) λE=>x<=r.length->(A<r.length->ix A r.length/\bd 4000000000000000000 C/\bd 4000000000000000000 u/\x=E.length/\E.length+[D].length<=1000000/\aH (A+1)/\A+1=((x+1:Nat):Int)/\(aW x B++[D]).length=x+1/\aW x B++[D] =aW (x+1) B/\x+1<=r.length/\r.length-(x+1)<r.length-x)/\
    (¬A<r.length->x=E.length/\E.length<=100000/\((!near E)=true->mvL r u=G/\2=mvC r u)/\
     ((!near E)=false->x=E.length/\aW x B=mvL r u/\0=mvC r u)))))) (by kernel_rfl) (by
  change r.length<=100000 at hp;have c1:(!dB r)=true->mvC r u=11:=λh=>by unfold mvC;rw[nb' h];rfl
  have c2:(!dB r)=false->(!ag u 4000)=true->mvC r u=2:=λh h2=>by unfold mvC;rw[nb h,nb' h2];rfl
  have c3:∀x:Nat,¬(x:Int)<r.length->x<=r.length->aW x (mvR u r)=mvR u r:=λx h1 h2=>gu (by rw[iE];omega);have c4:(!dB r)=false->(!ag u 4000)=false->∀x:Nat,¬(x:Int)<r.length->x<=r.length->(!near (aW x (mvR u r)))=true->mvC r u=2:=λh h2 x h3 h4 h5=>by rw[c3 x h3 h4]at h5;unfold mvC;rw[nb h,nb h2,nb' h5];rfl
  have c5:(!dB r)=false->(!ag u 4000)=false->∀x:Nat,¬(x:Int)<r.length->x<=r.length->(!near (aW x (mvR u r)))=false->mvC r u=0:=λh h2 x h3 h4 h5=>by rw[c3 x h3 h4]at h5;unfold mvC;rw[nb h,nb h2,nb h5];rfl
  have l0:∀k:Int,mvC r u=k->k≠0->mvL r u=[] :=λk h h2=>by unfold mvL;rw[if_neg (by rw[h];exact h2)]
  have l1:mvC r u=0->mvL r u=mvR u r:=λh=>if_pos h;have V:(!dB r)=false->VR r:=λh=>(gv r).1 (by rw[qP];exact nb h);have b1:(!dB r)=false->∀x:Nat,(x:Int)<r.length->bd 4000000000000000000 (aEn r x):=λh x hx=>m6 (m:=10000) (Zy (V h) (dD (show x<r.length by omega))) (by decide);have b2:(!ag u 4000)=false->bd 4000000000000000000 u:=λh=>m6 (m:=4000) (nb h) (by decide);have m:(!dB r)=false->r.length<=40:=λh=>(V h).most;have tl:∀x:Nat,x<=r.length->(aW x (mvR u r)).length=x:=λx h=>by rw[kP,iE];omega
  have ta:∀x:Nat,(x:Int)<r.length->aW x (mvR u r)++[mv u (aEn r x)] =aW (x+1) (mvR u r):=λx h=>by rw[kR (by rw[iE];omega),<-nth_eq (by rw[iE];omega),jR (by omega)]
  have tn':∀x:Nat,x<=r.length->(aW x (mvR u r)++[mv u (aEn r x)]).length=x+1:=λx h=>by rw[fw,tl x h];rfl
  clear V
  repeat' first|with_reducible apply cF|with_reducible intro
  all_goals first|assumption|rfl|(with_reducible exact b1 ‹_› _ ‹_›)|(with_reducible exact b2 ‹_›)|exact(tl _ ‹_›).symm|(rw[tl _ ‹_›];omega)|(rw[tl _ ‹_›];have:=m ‹_›;simp;omega)|exact ta _ ‹_› |exact tn' _ ‹_› |exact l0 _ (c1 ‹_›) (by decide)|exact(c1 ‹_›).symm|exact l0 _ (c2 ‹_› ‹_›) (by decide)|exact(c2 ‹_› ‹_›).symm|exact l0 _ (c4 ‹_› ‹_› _ ‹_› ‹_› ‹_›) (by decide)|exact(c4 ‹_› ‹_› _ ‹_› ‹_› ‹_›).symm|exact(c5 ‹_› ‹_› _ ‹_› ‹_› ‹_›).symm|exact(c3 _ ‹_› ‹_›).trans (l1 (c5 ‹_› ‹_› _ ‹_› ‹_› ‹_›)).symm|omega|(unfold ix;omega)|(unfold aH;omega))
noncomputable def RQ:=t40.adk aCS
noncomputable def c39:Con:=con (ac aSh (a1 aV)) (λ(s,_)=>[Fit s]) (λ(s,u)=> .tup [aSh.enc (msS s u),.iqz (msC s u)])
def k39:c39.Okz 39:=bH RQ (λ(s,u)=>[lp 9 9 s.holes.length bg [900] bg (λk=>[(7,.box 26 [.lst .V (mvL s.outer u),.own 900 .R k]),(900,.row 23 .R ((s.holes.map λh=>mvL h u).take k))])]
  ) (λ(_,_)=>⟨_,rfl⟩) λ(s,u) hp=>bC (aA (msS s u) λA=>aA ([] :List (List aEo)) λD=>aA (!aa s) λE=>aA ([] :List aEo) λF=>Fit s/\(E=true->A.outer=F/\A.holes=D/\11=msC s u)/\
 (E=false->s.outer.length<=100000/\(¬mvC s.outer u=0->A.outer=F/\A.holes=D/\mvC s.outer u=msC s u)/\
  (¬(¬mvC s.outer u=0)->(0=(0:Int)/\mvL s.outer u=mvL s.outer u/\(0:Nat)=0/\aW 0 (cX (λh=>mvL h u) s.holes)=D/\(0:Nat)<=s.holes.length)/\
   (∀x:Nat,aA (x:Int) λB=>aA (aC s.holes x) λG=>x<=s.holes.length->(B<s.holes.length->ix B s.holes.length/\G.length<=100000/\x=(aW x (cX (λh=>mvL h u) s.holes)).length/\(aW x (cX (λh=>mvL h u) s.holes)).length+[mvL G u].length<=1000000/\aH (B+1)/\B+1=((x+1:Nat):Int)/\mvL s.outer u=mvL s.outer u/\(aW x (cX (λh=>mvL h u) s.holes)++[mvL G u]).length=x+1/\aW x (cX (λh=>mvL h u) s.holes)++[mvL G u] =aW (x+1) (cX (λh=>mvL h u) s.holes)/\x+1<=s.holes.length/\s.holes.length-(x+1)<s.holes.length-x)/\
    (¬B<s.holes.length->x=(aW x (cX (λh=>mvL h u) s.holes)).length/\mvL s.outer u=A.outer/\aW x (cX (λh=>mvL h u) s.holes)=A.holes/\0=msC s u))))) (by kernel_rfl) (by
  change Fit s at hp;have c1:(!aa s)=true->msC s u=11:=λh=>by unfold msC;rw[nb' h];rfl
  have c2:(!aa s)=false->msC s u=mvC s.outer u:=λh=>by unfold msC;rw[nb h];rfl
  have o0:∀k:Int,msC s u=k->k≠0->msS s u=⟨[],[]⟩:=λk h h2=>by unfold msS;rw[if_neg (by rw[h];exact h2)]
  have o1:msC s u=0->msS s u=⟨mvR u s.outer,s.holes.map λh=>mvL h u⟩:=λh=>if_pos h;have a1:(!aa s)=true->(msS s u).outer=[] :=λh=>by rw[o0 _ (c1 h) (by decide)]
  have a2:(!aa s)=true->(msS s u).holes=[] :=λh=>by rw[o0 _ (c1 h) (by decide)]
  have a3:(!aa s)=false->¬mvC s.outer u=0->(msS s u).outer=[] :=λh h2=>by rw[o0 _ (c2 h) h2]
  have a4:(!aa s)=false->¬mvC s.outer u=0->(msS s u).holes=[] :=λh h2=>by rw[o0 _ (c2 h) h2]
  have z:(!aa s)=false->¬¬mvC s.outer u=0->msC s u=0:=λh h2=>(c2 h).trans (nM h2);have a5:(!aa s)=false->¬¬mvC s.outer u=0->mvL s.outer u=(msS s u).outer:=λh h2=>by rw[o1 (z h h2)];exact if_pos (nM h2)
  have a6:(!aa s)=false->¬¬mvC s.outer u=0->∀x:Nat,¬(x:Int)<s.holes.length->aW x (cX (λh=>mvL h u) s.holes)=(msS s u).holes:=λh h2 x hx=>by rw[o1 (z h h2),gu (by rw[cL];omega)]
  have hr:s.outer.length<=100000:=by have:=hp.1;omega
  have hh:=hp.2.1;have hq:∀x:Nat,(x:Int)<s.holes.length->(aC s.holes x).length<=100000:=λx h=>by have:=hp.2.2 _ (gG (show x<s.holes.length by omega));omega
  have tl:∀x:Nat,x<=s.holes.length->(aW x (cX (λh=>mvL h u) s.holes)).length=x:=λx h=>by rw[kP,cL];omega
  have ta:∀x:Nat,(x:Int)<s.holes.length->aW x (cX (λh=>mvL h u) s.holes)++[mvL (aC s.holes x) u] =aW (x+1) (cX (λh=>mvL h u) s.holes):=λx h=>by rw[kR (by rw[cL];omega),iZ,jM (by omega)]
  have tn':∀x:Nat,x<=s.holes.length->(aW x (cX (λh=>mvL h u) s.holes)++[mvL (aC s.holes x) u]).length=x+1:=λx h=>by rw[fw,tl x h];rfl
  repeat' first|with_reducible apply cF|with_reducible intro
  all_goals first|assumption|with_reducible rfl|(with_reducible exact a1 ‹_›)|(with_reducible exact a2 ‹_›)|(with_reducible exact a3 ‹_› ‹_›)|(with_reducible exact a4 ‹_› ‹_›)|(with_reducible exact a5 ‹_› ‹_›)|(with_reducible exact a6 ‹_› ‹_› _ ‹_›)|exact(c1 ‹_›).symm|exact(c2 ‹_›).symm|exact(z ‹_› ‹_›).symm|exact hq _ ‹_› |exact(tl _ ‹_›).symm|(rw[tl _ ‹_›];simp;omega)|exact ta _ ‹_› |exact tn' _ ‹_› |omega|(unfold ix;omega)|(unfold aH;omega)|rfl)
noncomputable def t39:=RQ.adk k39
noncomputable def c47:Con:=con (a1 aSh) (λs=>[mA s]) (λs=> .bool (jy s&&aa s))
def k47:c47.Okz 47:=bH t39 (λ_=>[]
  ) (λ_=>⟨_,rfl⟩) λs hp=>bC (aA (jy s&&aa s) λA=>mA s/\(jy s=true->Fit s/\aa s=A)/\
 (jy s=false->false=A)) (by kernel_rfl) (by change mA s at hp;exact⟨hp,λh=>⟨MO hp h,by rw[h];rfl⟩,λh=>by rw[h];rfl⟩)
section
variable {s:Shape}
def GM(h:aa s=true){u:aEo}(hc:msC s u=0):msS s u=mvH u s/\iq (mvH u s)/\ag u 4000=true:=by
 have hV:=vsR h;have h1:ag u 4000=true/\near (mvR u s.outer)=true:=by unfold msC at hc;rw[if_pos h]at hc;unfold mvC at hc;cases e1:dB s.outer<;>cases e2:ag u 4000<;>cases e3:near (mvR u s.outer)<;>rw[e1,e2,e3]at hc<;>simp at hc|-
 have hn:=S4 hV h1.2;refine⟨?_,hn,h1.1⟩;unfold msS mvH;rw[if_pos hc]
 congr 1
 apply iy;intro r hr;unfold mvL mvC;rw[<-qP,(gv r).2 (hV.vp.hole r hr).1,h1.1,hn.2 _ (bM.2 ⟨r,hr,rfl⟩)];rfl
def Xi(h:aa s=true){u:aEo}(hc:msC s u=0):aa (msS s u)=true:=by obtain⟨e,hn,_⟩:=GM h hc;rw[e,<-hZ];exact(kS _).2 ((vsR h).mv hn)
def aAv(h:aa s=true)(hf:Fit s){u:aEo}(hc:msC s u=0):Fit (msS s u):=by rw[(GM h hc).1];refine⟨by show(mvR u s.outer).length<=1000;rw[iE];exact hf.1,by show(s.holes.map _).length<=900;rw[cL];exact hf.2.1,λr hr=> ?_⟩;obtain⟨q,hq,rfl⟩:=bM.1 hr;rw[iE];exact hf.2.2 q hq
end
end
noncomputable def QB:=(((((BZ.adk k40).adk k39).adk k27).adk k47).adk k48).adk k41
noncomputable def c13:Con:=con (ac aSh (a1 aV)) (λ(s,u)=>[mA s,VOk u]) (λ(_,_)=> .bool true)
def k13:c13.Okz 13:=bH QB (λ(s,_)=>[lp 7 26 (pcG s).length bg [] bg bg,lp 19 75 (pcG s).length bg [] bg bg (λi=>[lp 24 94 (aC (pcG s) i).length bg [] bg bg])]
  ) (λ(_,_)=>⟨_,rfl⟩) λ(s,u) hp=>bC (aA (pcG s) λA=>aA (msS s u) λB=>aA (pcG B) λC=>aA (0:Int) λF=>aA (0:Nat) λG=>aA (A.length:Int) λO=>aA (jy s&&aa s) λS=>((!true)=true->false=true)/\
 ((!true)=false->mA s/\((!S)=true->true=true)/\
  ((!S)=false->Fit s/\(bJ s=true->GOk s/\SOk s/\nA s)/\(0=F/\G<=A.length)/\
   (∀x:Nat,aA (x:Int) λD=>aA (D-1) λE=>aA (aC A x) λJ=>aA (aC A E.toNat) λQ=>aA ((x+1:Nat):Int) λR=>x<=A.length->(D<A.length->(0<D->aH E/\ix E A.length/\ix D A.length/\Q.length<=1000000/\J.length<=1000000/\(0<=cQ Q J->false=true)/\
      (¬0<=cQ Q J->aH (D+1)/\D+1=R/\x+1<=A.length/\A.length-(x+1)<A.length-x))/\
     (¬0<D->aH (D+1)/\D+1=R/\x+1<=A.length/\A.length-(x+1)<A.length-x))/\
    (¬D<A.length->Fit s/\(¬msC s u=0->decide (eV s=0)=true)/\
     (¬(¬msC s u=0)->Fit B/\(bJ B=true->GOk B/\SOk B/\nA B)/\(¬eV s=0->false=true)/\
      (¬(¬eV s=0)->(¬eV B=0->false=true)/\
       (¬(¬eV B=0)->(¬O=C.length->false=true)/\
        (¬(¬O=C.length)->(0=F/\G<=A.length)/\
         (∀x_1:Nat,aA (x_1:Int) λH=>aA (aC A x_1) λK=>aA (aC C x_1) λM=>aA (K.length:Int) λP=>x_1<=A.length->(H<A.length->ix H A.length/\ix H C.length/\(¬P=M.length->false=true)/\
           (¬(¬P=M.length)->ix H A.length/\(0=F/\G<=K.length)/\
            (∀x_2:Nat,aA (x_2:Int) λI=>aA (aEn K x_2) λL=>aA (aEn M x_2) λN=>x_2<=K.length->(I<K.length->ix H C.length/\ix I M.length/\ix H A.length/\ix I K.length/\bd 4000000000000000000 L/\bd 4000000000000000000 u/\(¬N=(mv u L)->false=true)/\
              (¬(¬N=(mv u L))->aH (I+1)/\I+1=((x_2+1:Nat):Int)/\x_2+1<=K.length/\K.length-(x_2+1)<K.length-x_2))/\
             (¬I<K.length->aH (H+1)/\H+1=((x_1+1:Nat):Int)/\x_1+1<=A.length/\A.length-(x_1+1)<A.length-x_1))))/\
          (¬H<A.length->true=true))))))))))) (by kernel_rfl) (by
  change mA s/\VOk u at hp;obtain⟨hb,hu⟩:=hp;have hf:(!(jy s&&aa s))=false->jy s=true/\aa s=true:=λh=>by rw[Bool.not_eq_false',Bool.and_eq_true]at h;exact h
  have e0:∀{t:Shape},aa t=true->eV t=0:=λh=>by unfold eV;rw[hZ];exact if_pos h
  refine⟨λh=>(by cases h),λ_=>⟨hb,λ_=>rfl,λf=> ?_⟩⟩;obtain⟨f1,v⟩:=hf f;have F:=MO hb f1;have ok:∀{t:Shape},aa t=true->bJ t=true->GOk t/\SOk t/\nA t:=λh _=>⟨gok h,sok h,HO h⟩;have pl:=aAj v;have pw:=aAi v;have pr:∀i,i<(pcG s).length->(aC (pcG s) i).length<=1000:=λi hi=>pw _ (gG hi);refine⟨F,ok v,⟨rfl,i5 _⟩,λx hx=>⟨λh1=>⟨λh2=> ?_,λ_=>⟨bT (by omega),by omega,by omega,by omega⟩⟩,λ_=>⟨F,λh=>by rw[e0 v];rfl,λhm=> ?_⟩⟩⟩
  .have e1:((x:Int)-1).toNat=x-1:=by omega
   have k:=List.pairwise_iff_getElem.1 (Vo v) (x-1) x (by omega) (by omega) (by omega);rw[<-jM (by omega),<-jM (by omega)]at k;rw[e1];exact⟨bT (by omega),by unfold ix;omega,by unfold ix;omega,by have:=pr (x-1) (by omega);omega,by have:=pr x (by omega);omega,λh=>by omega,λ_=>⟨bT (by omega),by omega,by omega,by omega⟩⟩
  .have hm:=nM hm;obtain⟨me,mn,mu⟩:=GM v hm;have w:=Xi v hm;have pe:pcG (msS s u)=(pcG s).map (mvR u):=by rw[me];exact aAr v mn
   have ple:(pcG (msS s u)).length=(pcG s).length:=by rw[pe,cL]
   have pn:∀i,i<(pcG s).length->aC (pcG (msS s u)) i=mvR u (aC (pcG s) i):=λi hi=>by rw[pe,jM (by rw[cL];exact hi),iZ,jM hi]
   have pq:∀i,i<(pcG s).length->(aC (pcG (msS s u)) i).length=(aC (pcG s) i).length:=λi hi=>by rw[pn i hi,iE]
   have bu:bd 4000000000000000000 u:=m6 (m:=4000) mu (by decide);have bv:∀i,i<(pcG s).length->∀j,j<(aC (pcG s) i).length->bd 4000000000000000000 (aEn (aC (pcG s) i) j):=λi hi j hj=>m6 (m:=2000) (i9 (vsR v) (Y4 v _ (gG hi) _ (dD hj))) (by decide);rw[e0 v,e0 w,ple];refine⟨aAv v F hm,ok w,λh=>absurd rfl h,λ_=>⟨λh=>absurd rfl h,λ_=>⟨λh=>absurd rfl h,λ_=>⟨⟨rfl,i5 _⟩,λi hi=>⟨λh1=> ?_,λ_=>rfl⟩⟩⟩⟩⟩;have hi:i<(pcG s).length:=by omega
   have li:=pr i hi;rw[pq i hi];refine⟨dr hi,dr hi,λh=>absurd rfl h,λ_=>⟨dr hi,⟨rfl,i5 _⟩,λj hj=>⟨λh2=> ?_,λ_=>⟨bT (by omega),by omega,by omega,by omega⟩⟩⟩⟩;have hj:j<(aC (pcG s) i).length:=by omega
   refine⟨dr hi,dr hj,dr hi,dr hj,bv i hi j hj,bu,λh=>absurd ?_ h,λ_=>⟨bT (by omega),by omega,by omega,by omega⟩⟩;rw[pn i hi];exact jR hj)
noncomputable def t13:=QB.adk k13
section
open Go.ChangeShapes Go.WideShapes Go.ChangeAt Go.RowKit Go.Joins Go.Deep
def Uf(s:Shape)(v:V)(hs:mA s)(hv:VOk v):Sat bD false 13 [kC s,Bt v] (.bool true):=
 aAc (k13 [aSh.enc s,aV.enc v] (s,v) rfl ((jK (l:=c13.pre (s,v))).1 ⟨hs,hv⟩)) (by simp only[avs,aBq,aAO];rfl) rfl
def S7(os:Os)(started:os.Started)(H:Type)(enc:TypeId×Value->H):
  ReturnsInHanded {} Tryz.checked os 13 .any (Rows.convexMovesSpec.pre6 enc bD yo Rows.convexMovesRow.domain false) (Rows.convexMovesSpec.post enc bD yo false true false false):=by
 refine returnsInHanded_of_change_sized (C:=Tryz.checked) Tryz.own started (by kernel_rfl) Tryz.func13
  (ChangeSpec.witness6 (enc:=enc) (C:=Tryz.checked) false ⟨#[], #[(.agg #[.slice none 0 0,.slice none 0 0]),(.agg #[.int .i64 0,.int .i64 0])],[]⟩ 8 (by kernel_rfl) (by kernel_rfl) (by kernel_rfl) (by kernel_rfl)) ?_
 intro W base args ds gs before hval0 hW hcnd hsz0 _;have hval:∀(j:Nat) t v,yo.params[j]? =some t->args[j]? =some v->Value.okWide bD W .any base t v:=hval0;have hsz:(DataW.weightsEach bD (yo.params.toList++Rows.convexMovesSpec.plain.varTypes bD) (ds++gs)).all (· <=reachBytes)=true:=hsz0;have hW':=hW;obtain⟨p,q,hA0,hV,rfl,hfz,hnd⟩:=hW;have hA:DataW.TrodAll enc bD W 0 (λ_=>true) true yo.params.toList args.toList ds p:=hA0;rw[Tryz.params13]at hA hval hsz;obtain⟨v0,v1,d0,d1,p0,p1,rfl,rfl,rfl,h0,h1⟩:=trodAll_two hA;obtain⟨rfl,rfl⟩:=trodVars_none hV;have hw0:∀n∈DataW.weights bD 26 d0,n<=reachBytes:=λn hn=>by have:=List.all_eq_true.1 hsz n (DataW.weights_mem_each (j:=0) (t:=26) rfl rfl n hn);simpa using this
 obtain⟨s,r0,b0⟩:=UV (hval 0 26 v0 rfl rfl) h0 hw0;obtain⟨v,r1,b1⟩:=Xa (hval 1 44 v1 rfl rfl) h1;clear hA0 hval0;simp only[CU]at hW';have hcall:=(Uf s v b0 b1).2 (l9 W) W [v0,v1] (λ_ _ _ h=>h) (by unfold af;exact⟨v0,[v1],rfl,r0,by unfold af;exact⟨v1,[],rfl,r1,by unfold af;rfl⟩⟩);refine hcall.mono λe W' ⟨v,he,hr,hB⟩=> ?_;unfold aU at hr;subst he hr;have hlt0:∀x∈p0,x.block<W.heap.size:=λx hx=>by simpa using hW'.lt x (by simp[hx])
 have hlt1:∀x∈p1,x.block<W.heap.size:=λx hx=>by simpa using hW'.lt x (by simp[hx])
 refine⟨_,rfl,_,_,_,[],(p0++p1),[],hW',?_,?_,rfl,hB.frame _,λh=>by cases h⟩
 .exact trodAll_mk1 (shut_bool Tryz.underlying4 true)
 .exact trodAll_mk2 (Below.trod Tryz.laidOut (by kernel_rfl) (of_decide_eq_true (by kernel_rfl)) h0 hB hlt0) (Below.trod Tryz.laidOut (by kernel_rfl) (of_decide_eq_true (by kernel_rfl)) h1 hB hlt1)
theorem cmoves_holds:Rows.ConvexMovesSaid:=
 OpenClaim.holds_of_wide 13 yo rfl rfl rfl rfl rfl rfl rfl ⟨rfl,rfl,rfl,rfl,rfl⟩ rfl rfl rfl rfl rfl (by kernel_rfl) Tryz.func13 (by kernel_rfl)
  (of_decide_eq_true (by kernel_rfl)) (by unfold Func.isWrapper;first|(rw[if_pos (by decide+kernel)];kernel_rfl)|(rw[if_neg (by decide+kernel)];exact⟨rfl,rfl⟩))
  (λos started H enc _=>S7 os started H enc)
end
end Go.Proofs.YtdaeofhdgabhjaaGreat
