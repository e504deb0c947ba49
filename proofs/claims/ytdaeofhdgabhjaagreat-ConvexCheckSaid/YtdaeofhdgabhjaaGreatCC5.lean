/- What the statements about triangulations stand on: contracts of functions, plain laws. Part 5 of 6, no condition of its own. (N0 N00 L2 K27 K28 K29 K30 H1 H2 H3 H4 K18 H9 J15 K31 M0 K32 K33 K34) -/
import Derived.Test.YtdaeofhdgabhjaaGreatCC4
import Derived.WalkKit
import Derived.Below
import Derived.Calls
namespace Go.Proofs.YtdaeofhdgabhjaaGreat
open Go.RowKit
theorem Aj{α:Type}:∀(a:Ask α) (w:World),w.drawn<=(w.ask a).2.drawn
 | .done a,w=>Nat.le_refl _
 | .ask what range k,w=>by
   unfold World.ask;dsimp only;split
   ·exact Aj _ w
   ·exact Nat.le_trans (Nat.le_succ w.drawn) (Aj (k _) {w with drawn:=w.drawn+1})
theorem Ht(w:World)(c:Sys):w.drawn<=(w.sys c).2.drawn:=by
 have h:=Aj (Kernel.perform c w.os) w;unfold World.sys;split
 ·exact Nat.le_refl _
 ·rename_i heq;rw[heq]at h;exact h
theorem Bt{p:Program}{w w':World}{at_:Addr}{u:TypeId}{k:Addr}{v:Value}{b:Bool}{l:List Addr}(h:w.viewStore p at_ u k v b= .ok (w',l)):w'.drawn=w.drawn:=by
 unfold World.viewStore at h;simp only[bind,Except.bind,pure,Except.pure]at h
 repeat' split at h
 all_goals first|(cases h;done)|skip
 all_goals (try cases h;try rfl)
def Result.drew{α:Type}(w:World):Result α->Prop
 | .ok _ w'=>w.drawn<=w'.drawn
 | .halt _ w'=>w.drawn<=w'.drawn
theorem uX{α:Type}(p:Program):∀(s:Sem α) (w:World),Result.drew w (s.run p w):=by
 intro s;induction s with
 |pure a=>intro w;exact Nat.le_refl _
 |load m a k ih=>
  intro w;unfold Sem.run;split
  ·exact ih _ w
  ·split
   ·exact ih _ w
   ·exact Nat.le_refl _
 |store m a v k ih=>
  intro w;have key:∀w1:World,w1.drawn=w.drawn->Result.drew w (k.run p w1):=by
   intro w1 h;have:=ih w1;revert this;generalize Sem.run p _ _=r;intro h2;cases r<;>(show w.drawn<=_;rw[<-h];exact h2)
  have h0:∀h,Result.drew (α:=α) w (.halt h w):=fun _=>Nat.le_refl _
  cases v<;>simp only[Sem.run];all_goals first|exact h0 _|skip
  all_goals
   split
   ·split
    ·exact h0 _
    ·exact key _ rfl
   ·split
    ·rename_i h1;refine key _ ?_;unfold World.farStore at h1;split at h1
     ·split at h1
      ·rename_i h2;cases h1;exact Bt h2
      ·cases h1
     ·cases h1
    ·exact h0 _
 |new o k ih=>intro w;unfold Sem.run;exact ih _ _
 |shape r k ih=>intro w;unfold Sem.run;exact ih _ _
 |freeze a n k ih=>
  intro w;unfold Sem.run;have e:(w.freeze a n).drawn=w.drawn:=by unfold World.freeze;first|rfl|(split<;>rfl)
  have:=ih (w.freeze a n);revert this;generalize Sem.run p _ _=r;intro h2;cases r<;>(show w.drawn<=_;rw[<-e];exact h2)
 |frozen a k ih=>intro w;unfold Sem.run;exact ih _ _
 |getObj r k ih=>
  intro w;unfold Sem.run;split
  ·exact Nat.le_refl _
  ·exact ih _ _
  ·exact Nat.le_refl _
 |setObj r o k ih=>
  intro w;unfold Sem.run;split
  ·exact Nat.le_refl _
  ·exact ih _
  ·exact Nat.le_refl _
 |choose q k ih=>
  intro w;unfold Sem.run;split
  ·exact ih _ w
  ·have:=ih (q.cut (w.tape w.drawn q)) {w with drawn:=w.drawn+1}
   revert this;generalize Sem.run p _ _=r;intro h;cases r<;>exact Nat.le_trans (Nat.le_succ _) h
 |sys c k ih=>
  intro w;unfold Sem.run;have:=ih (w.sys c).1 (w.sys c).2;have h2:=Ht w c;revert this;generalize Sem.run p _ _=r;intro h;cases r<;>exact Nat.le_trans h2 h
 |program k ih=>intro w;unfold Sem.run;exact ih _ _
 |mark m k ih=>intro w;unfold Sem.run;exact ih _
 |halt h=>intro w;exact Nat.le_refl _
end Go.Proofs.YtdaeofhdgabhjaaGreat
namespace Go.Proofs.YtdaeofhdgabhjaaGreat
open Go.RowKit
variable {p:Program}
theorem fY{α:Type}{s:Sem α}{w w':World}{a:α}(h:s.run p w= .ok a w'):w.drawn<=w'.drawn:=by
 have:=uX p s w;rw[h]at this;exact this
theorem jS{α:Type}{s:Sem α}{w w':World}{e:Halt}(h:s.run p w= .halt e w'):w.drawn<=w'.drawn:=by
 have:=uX p s w;rw[h]at this;exact this
theorem tF{α:Type}:∀(s:Sem α) (w:World) (es:Array Event),(s.runT p w es).1=s.run p w:=by
 intro s;induction s with
 |pure a=>intro w es;rfl
 |load m a k ih=>
  intro w es;simp only[Sem.run,Sem.runT];split
  ·exact ih _ _ _
  ·split
   ·exact ih _ _ _
   ·rfl
 |store m a v k ih=>
  intro w es;cases v<;>simp only[Sem.run,Sem.runT];all_goals
   split
   ·split
    ·rfl
    ·exact ih _ _
   ·split
    ·exact ih _ _
    ·rfl
 |new o k ih=>intro w es;simp only[Sem.run,Sem.runT];exact ih _ _ _
 |shape r k ih=>intro w es;simp only[Sem.run,Sem.runT];exact ih _ _ _
 |freeze a n k ih=>intro w es;simp only[Sem.run,Sem.runT];exact ih _ _
 |frozen a k ih=>intro w es;simp only[Sem.run,Sem.runT];exact ih _ _ _
 |getObj r k ih=>
  intro w es;simp only[Sem.run,Sem.runT];split
  ·rfl
  ·exact ih _ _ _
  ·rfl
 |setObj r o k ih=>
  intro w es;simp only[Sem.run,Sem.runT];split
  ·rfl
  ·exact ih _ _
  ·rfl
 |choose q k ih=>
  intro w es;simp only[Sem.run,Sem.runT];split
  ·exact ih _ _ _
  ·exact ih _ _ _
 |sys c k ih=>intro w es;simp only[Sem.run,Sem.runT];exact ih _ _ _
 |program k ih=>intro w es;simp only[Sem.run,Sem.runT];exact ih _ _ _
 |mark m k ih=>intro w es;simp only[Sem.run,Sem.runT];exact ih _ _
 |halt h=>intro w es;rfl
theorem aDb{α:Type}{s:Sem α}{w w':World}{a:α}{es es':Array Event}(h:s.runT p w es=(.ok a w',es')):w.drawn<=w'.drawn:=by
 have:=tF (p:=p) s w es;rw[h]at this;exact fY this.symm
theorem zJ{α:Type}{s:Sem α}{w w':World}{e:Halt}{es es':Array Event}(h:s.runT p w es=(.halt e w',es')):w.drawn<=w'.drawn:=by
 have:=tF (p:=p) s w es;rw[h]at this;exact jS this.symm
theorem qV{α:Type}{s:Sem α}{w w':World}{a:α}{es:Array Event}(h:(s.runT p w es).1= .ok a w'):w.drawn<=w'.drawn:=fY ((tF s w es).symm.trans h)
theorem iV{α:Type}{s:Sem α}{w w':World}{e:Halt}{es:Array Event}(h:(s.runT p w es).1= .halt e w'):w.drawn<=w'.drawn:=jS ((tF s w es).symm.trans h)
def wd:GStep->Nat
 | .go _ w _=>w.drawn
 | .comm _ _ _ _ w _=>w.drawn
 | .spawn _ _ w _=>w.drawn
 | .count _ w _=>w.drawn
 | .timer _ _ w _=>w.drawn
 | .alone _ _ w _=>w.drawn
 | .newcoro _ _ _ w _=>w.drawn
 | .coroswitch _ _ _ w _=>w.drawn
 | .collect _ w _=>w.drawn
 | .watch _ w _=>w.drawn
 | .ended _ w _=>w.drawn
theorem mJ(es:Array Event)(s:GStep):wd (s.after es)=wd s:=by cases s<;>rfl
theorem Ka{c:Prop} [Decidable c]{a b:GStep}{n:Nat}(h1:n<=wd a)(h2:n<=wd b):n<=wd (if c then a else b):=by
 split
 ·exact h1
 ·exact h2
theorem uK(fr:Frame)(v:Value)(w:World):w.drawn<=wd (endPrinting p fr v w):=by
 unfold endPrinting;dsimp only;split<;>exact Nat.le_refl _
theorem Bl(fr:Frame)(cs:List Frame)(d:Option Dying)(m:String)(w:World):w.drawn<=wd (endFatal p fr cs d m w):=by
 unfold endFatal;dsimp only;split
 ·exact fY (by assumption)
 ·exact jS (by assumption)
 ·exact jS (by assumption)
theorem Tv(fd:Nat)(t:ByteArray)(o:Outcome)(w:World):w.drawn<=wd (endWith w fd t o):=by
 have h:=Ht w (.write fd t);unfold endWith;dsimp only;split
 ·rename_i e;rw[e]at h;split<;>exact h
 ·rename_i e;rw[e]at h;exact h
 ·rename_i e;rw[e]at h;exact h
theorem Sb(fr:Frame)(d:Dying)(f:Fatal)(w:World):w.drawn<=wd (writeOn p fr d f w):=by
 unfold writeOn;dsimp only;split
 ·exact Nat.le_refl _
 ·split
  ·exact aDb (by assumption)
  ·exact zJ (by assumption)
  ·exact zJ (by assumption)
  ·exact zJ (by assumption)
theorem aGZ(fr:Frame)(d:Dying)(w:World):w.drawn<=wd (die p fr d w):=by
 unfold die;split
 ·exact Sb _ _ _ _
 ·split
  ·split
   ·exact Nat.le_refl _
   ·exact Tv _ _ _ _
  ·dsimp only;split
   ·exact Nat.le_refl _
   ·split
    ·exact fY (by assumption)
    ·exact jS (by assumption)
   ·rw[mJ];split
    ·rename_i heq;exact qV heq
    ·rename_i heq;exact qV heq
    ·rename_i heq;exact iV heq
    ·rename_i heq;exact Nat.le_trans (iV heq) (uK _ _ _)
    ·exact Nat.le_refl _
   ·exact Nat.le_refl _
theorem aCn(fr:Frame)(cs:List Frame)(d:Option Dying)(g:Nat)(w:World):w.drawn<=wd (early p fr cs d g w):=by
 unfold early;dsimp only
 repeat' split
 all_goals first|exact Nat.le_refl _|(have h:=fY ‹Sem.run p (choose (Question.early g)) w=Result.ok _ _›;exact h)|exact jS ‹Sem.run p (choose (Question.early g)) w=Result.halt _ _›
theorem uA(main:Bool)(fr:Frame)(cs:List Frame)(d:Option Dying)(v:Value)(w:World):wd (doReturn p main fr cs d v w)=w.drawn:=by
 unfold doReturn
 repeat' split
 all_goals rfl
theorem Bz(fr:Frame)(cs:List Frame)(d:Option Dying)(f:Deferred)(w:World):w.drawn<=wd (callDeferred p fr cs d f w):=by
 unfold callDeferred;dsimp only;refine Ka ?_ ?_
 ·exact Nat.le_refl _
 ·rw[mJ];split;all_goals first
   |exact qV ‹_›
   |exact iV ‹_›
   |exact Nat.le_trans (iV ‹(Sem.runT p (invoke f.target f.args) w #[]).1=Result.halt _ _›) (Bl _ _ _ _ _)
   |(split<;>exact qV ‹(Sem.runT p (invoke f.target f.args) w #[]).1=Result.ok _ _›)
theorem Xi(main:Bool)(fr:Frame)(cs:List Frame)(d:Option Dying)(w:World):w.drawn<=wd (unwind p main fr cs d w):=by
 unfold unwind;split
 ·dsimp only;rw[mJ];split
  ·exact qV ‹_›
  ·exact iV ‹_›
 ·exact Bz _ _ _ _ _
 ·split
  ·exact Nat.le_refl _
  ·split
   ·exact Nat.le_refl _
   ·split
    ·exact Nat.le_refl _
    ·split
     ·split
      ·exact Nat.le_refl _
      ·split
       ·exact fY ‹_›
       ·exact jS ‹_›
       ·exact jS ‹_›
     ·split
      ·exact uK _ _ _
      ·exact Nat.le_refl _
  ·split
   ·exact Nat.le_of_eq (uA _ _ _ _ _ _).symm
   ·dsimp only;rw[mJ];split
    ·exact Nat.le_trans (qV ‹_›) (Nat.le_of_eq (uA _ _ _ _ _ _).symm)
    ·exact iV ‹_›
    ·exact iV ‹_›
theorem yI(listen:Bool)(fr:Frame)(cs:List Frame)(d:Option Dying)(s:Sem Next)(w:World):w.drawn<=wd (stepG.apply p listen fr cs d s w):=by
 unfold stepG.apply;dsimp only;have hr:Result.drew w (if listen=true then s.runT p w #[]else(s.run p w, #[])).1:=by
  split
  ·rw[tF];exact uX _ _ _
  ·exact uX _ _ _
 rw[mJ];generalize (if listen=true then s.runT p w #[]else(s.run p w, #[])).1=r at hr|-
 cases r with
 |ok a w'=>
  have hr:w.drawn<=w'.drawn:=hr;cases a;all_goals (try exact hr)
  all_goals (dsimp only;repeat' split)
  all_goals exact hr
 |halt e w'=>
  have hr:w.drawn<=w'.drawn:=hr;cases e with
  |unsupported u=>cases u<;>first|exact hr|exact Nat.le_trans hr (aCn _ _ _ _ _)
  |fatal m=>exact Nat.le_trans hr (Bl _ _ _ _ _)
  |_=>exact hr
theorem aDj(listen:Bool)(fr:Frame)(cs:List Frame)(d:Option Dying)(w:World):w.drawn<=wd (stepG.oper p listen fr cs d w):=by
 unfold stepG.oper;split
 ·exact Nat.le_refl _
 ·split<;>exact yI _ _ _ _ _ _
theorem aDD(main:Bool)(listen:Bool)(fr:Frame)(cs:List Frame)(d:Option Dying)(w:World):w.drawn<=wd (stepG.exec p main listen fr cs d w):=by
 have hleave:∀jump:Option Code,w.drawn<=wd (match fr.roundOf with
   |none=>if jump matches none|some .ret then GStep.go {frame:={fr with mode:= .returning},callers:=cs,status:= .running,dying:=d} w else .ended (.stuck "exit, goto: no such block or label" (fr.pos p)) w
   |some l=>GStep.after (seen p fr.fn ((Instr.endRound l jump).runT p w #[]).2)<|match((Instr.endRound l jump).runT p w #[]).1 with
    | .ok v w=>doReturn p main fr cs d v w
    | .halt _ w=> .ended (.stuck "range over a function: no such loop" (fr.pos p)) w):=by
  intro jump;split
  ·refine Ka ?_ ?_<;>exact Nat.le_refl _
  ·rw[mJ];split
   ·exact Nat.le_trans (qV ‹_›) (Nat.le_of_eq (uA _ _ _ _ _ _).symm)
   ·exact iV ‹_›
 unfold stepG.exec;dsimp only;split;all_goals (try exact Nat.le_refl _)
 all_goals (try exact hleave _)
 all_goals (try exact yI _ _ _ _ _ _)
 all_goals (try exact hleave none)
 all_goals (try exact hleave (some .ret))
 ·split<;>exact Nat.le_refl _
 ·cases exitTo _ _
  ·exact hleave (some (.exit _))
  ·exact Nat.le_refl _
 ·cases gotoIn _ _
  ·exact hleave (some (.goto _))
  ·exact Nat.le_refl _
 ·rw[mJ];split
  ·exact Nat.le_trans (qV ‹_›) (yI _ _ _ _ _ _)
  ·exact iV ‹_›
 ·rw[mJ];split
  ·exact qV ‹_›
  ·exact iV ‹_›
  ·exact iV ‹_›
 ·cases Extern.next _
  ·exact Nat.le_refl _
  ·exact yI _ _ _ _ _ _
 ·refine Ka (Nat.le_refl _) ?_;split
  ·exact fY ‹_›
  ·exact jS ‹_›
 ·exact Ka (aDj _ _ _ _ _) (Nat.le_refl _)
theorem aBr(main:Bool)(g:Goroutine)(w:World)(listen:Bool):w.drawn<=wd (stepG p main g w listen):=by
 unfold stepG;split;split
 ·exact aGZ _ _ _
 ·exact aDD _ _ _ _ _ _
 ·exact Xi _ _ _ _ _
def sd(n:Nat):Stepped->Prop
 | .next m=>n<=m.world.drawn
 | .ended _ _=>True
theorem Wi(gs:Array Goroutine)(rest:Rest)(w:World):sd w.drawn (look p gs rest w):=by
 unfold look;split
 ·dsimp only
  repeat' split
  all_goals first|exact trivial|skip
  all_goals (have h:=fY (p:=p) (w:=w) (by assumption);exact h)
 ·exact trivial
theorem Sd{rest:Rest}{cases:Array CommCase}{w w':World}(h:waitingAt rest cases w=some w'):w.drawn<=w'.drawn:=by
 unfold waitingAt at h;split at h
 ·split at h<;>cases h;exact Nat.le_refl _
 ·cases h;exact Nat.le_refl _
theorem aDH(rest:Rest)(gs:Array Goroutine)(i:Nat)(g:Goroutine)(cases:Array CommCase)(b:Bool)(shape:CommShape)(w:World):sd w.drawn (communicate p rest gs i g cases b shape w).1:=by
 unfold communicate;dsimp only
 repeat' split
 all_goals first
  |exact trivial
  |exact Nat.le_refl _
  |exact Sd ‹_›
  |(have h:=fY (p:=p) (w:=w) (by assumption)
    first
     |exact h
     |(have h2:=jS (p:=p) ‹Sem.run p (runtimePanic (RuntimeError.plain "send on closed channel")) _=Result.halt _ _›;exact Nat.le_trans h h2)
     |(have h2:=fY (p:=p) ‹Sem.run p (choose (Question.extern "which waiting goroutine is the partner" _)) _=Result.ok _ _›;exact Nat.le_trans h h2))
theorem aCo(w:World)(c:Nat):(drain w c).2.drawn=w.drawn:=by
 unfold drain;split<;>rfl
theorem Ib(m:Machine)(k:Nat)(t:Timer)(a b:Nat):(retime m k t a b).2.world.drawn=m.world.drawn:=by
 unfold retime;cases t.chan with
 |none=>rfl
 |some c=>exact aCo _ _
theorem Yk{m m':Machine}{v:Addr}(h:timerOp.opened m v=some m'):m'.world.drawn=m.world.drawn:=by
 unfold timerOp.opened at h;split at h
 ·split at h<;>cases h;rfl
 ·cases h;rfl
theorem Od{m m':Machine}{var:Addr}{f:Nat->Timer->Value×Machine}{v:Value}{n:Nat}(hf:∀k t,(f k t).2.world.drawn=n)(h:timerOp.named m var f= .ok (v,m')):m'.world.drawn=n:=by
 unfold timerOp.named at h;split at h
 ·rename_i k _;have:=hf k (m.rest.timers.getD k default);cases h':f k (m.rest.timers.getD k default)with
  |mk a b=>rw[h']at h this;cases h;exact this
 ·cases h
theorem Sh{m m':Machine}{op:TimerOp}{v:Value}(h:timerOp m op= .ok (v,m')):m'.world.drawn=m.world.drawn:=by
 unfold timerOp at h;split at h
 ·split at h
  ·cases h;rfl
  ·split at h
   ·split at h
    ·cases h
    ·cases h;rfl
   ·cases h
 ·exact Od (fun k t=>Ib _ _ _ _ _) h
 ·split at h
  ·rename_i ho;exact(Od (fun k t=>Ib _ _ _ _ _) h).trans (Yk ho)
  ·cases h
 ·cases h;rfl
theorem aDa(m:Machine)(i:Nat)(listen:Bool):sd m.world.drawn (runT p m i listen).1:=by
 unfold runT;dsimp only;generalize (m.gs.swapAt! i {(default:Goroutine)with status:= .finished})=q
 obtain⟨g,gs⟩:=q;dsimp only;have hs:=aBr (p:=p) (i==0) g m.world listen;generalize stepG p (i==0) g m.world listen=s at hs|-;cases s with
 |ended o w es=>exact trivial
 |comm g cases b shape w es=>
  dsimp only;have:=aDH (p:=p) m.rest gs i g cases b shape w;have hs:m.world.drawn<=w.drawn:=hs;revert this;generalize (communicate p m.rest gs i g cases b shape w).1=r;intro h;cases r with
  |next m'=>exact Nat.le_trans hs h
  |ended _ _=>exact trivial
 |go g w es=>exact hs
 |spawn g c w es=>exact hs
 |count g w es=>
  dsimp only;split
  ·exact trivial
  ·exact hs
 |alone g on w es=>exact hs
 |collect g w es=>
  have:=Wi (p:=p) (gs.setIfInBounds i g) m.rest w;have hs:m.world.drawn<=w.drawn:=hs;dsimp only;revert this;generalize look p (gs.setIfInBounds i g) m.rest w=r;intro h;cases r with
  |next m'=>exact Nat.le_trans hs h
  |ended _ _=>exact trivial
 |watch g w es=>exact hs
 |newcoro g c d w es=>exact hs
 |coroswitch g c exit w es=>
  dsimp only;split
  ·exact hs
  ·exact hs
  ·exact trivial
 |timer g op w es=>
  dsimp only;split
  ·rename_i h;exact Nat.le_trans hs (Nat.le_of_eq (Sh h).symm)
  ·exact hs
  ·exact trivial
  ·exact trivial
def md(n:Nat):Move->Prop
 | .goroutine m _=>n<=m.world.drawn
 | .machine s _=>sd n s
theorem aBC(m:Machine)(k:Nat):sd m.world.drawn (serve p m k):=by
 unfold serve;split
 ·exact trivial
 ·exact Nat.le_refl _
 ·dsimp only;split
  ·exact trivial
  ·exact Nat.le_refl _
theorem aAz{a b:Nat}{x:Move}(h:a<=b)(hx:md b x):md a x:=by
 cases x with
 |goroutine m i=>exact Nat.le_trans h hx
 |machine s ops=>cases s with
  |next m=>exact Nat.le_trans h hx
  |ended _ _=>exact trivial
theorem Ej(m:Machine):md m.world.drawn (askOn p m):=by
 unfold askOn;dsimp only
 repeat' split
 all_goals first
  |exact trivial
  |(have h:=fY (p:=p) (w:=m.world) (by assumption)
    first
     |exact h
     |exact aAz h (aBC (p:=p) _ _)
     |exact Nat.le_trans h (fY (p:=p) (by assumption))
     |exact Nat.le_trans h (Nat.le_trans (fY (p:=p) (by assumption)) (fY (p:=p) (by assumption)))
     |exact Nat.le_trans h (Nat.le_trans (fY (p:=p) (by assumption)) (Nat.le_trans (fY (p:=p) (by assumption)) (fY (p:=p) (by assumption))))
     |(have h2:=fY (p:=p) ‹Sem.run p (choose (Question.extern "clock.wait" _)) _=Result.ok _ _›;first
        |exact Nat.le_trans h h2
        |(have h3:=fY (p:=p) ‹Sem.run p (choose (Question.sched _)) _=Result.ok _ _›;first
           |exact Nat.le_trans h (Nat.le_trans h2 h3)
           |(have h4:=fY (p:=p) ‹Sem.run p (choose (Question.extern "sched.slice" _)) _=Result.ok _ _›;exact Nat.le_trans h (Nat.le_trans h2 (Nat.le_trans h3 h4))))))
  |skip
theorem aBh(m:Machine):md m.world.drawn (ask p m):=by
 unfold ask;split
 ·split
  ·exact trivial
  ·rename_i w1 h1;have h2:=Wi (p:=p) m.gs m.rest w1;have h1:=fY h1;split
   ·rename_i h3;rw[h3]at h2;exact aAz (Nat.le_trans h1 h2) (Ej _)
   ·cases hl:look p m.gs m.rest w1 with
    |next m'=>rw[hl]at h2;exact Nat.le_trans h1 h2
    |ended _ _=>exact trivial
  ·rename_i h1;exact aAz (fY h1) (Ej _)
 ·exact Ej m
theorem aDo(m:Machine):md m.world.drawn (move p m):=by
 unfold move;split
 ·split
  ·exact Nat.le_refl _
  ·exact trivial
 ·split
  ·split
   ·exact Nat.le_refl _
   ·exact aBh _
  ·exact aBh _
theorem Si{m m':Machine}(h:step p m= .next m'):m.world.drawn<=m'.world.drawn:=by
 have hm:=aDo (p:=p) m;unfold step stepT at h;cases hv:move p m with
 |goroutine m1 i=>
  rw[hv]at hm h;have:=aDa (p:=p) m1 i true;dsimp only at h;rw[h]at this;exact Nat.le_trans hm this
 |machine s ops=>
  rw[hv]at hm h;dsimp only at h;rw[h]at hm;exact hm
theorem wP:∀(n:Nat) {m m':Machine},runN p n m= .next m'->m.world.drawn<=m'.world.drawn
 |0,m,m',h=>by cases h;exact Nat.le_refl _
 |n+1,m,m',h=>by
  unfold runN at h;split at h
  ·rename_i m1 h1;exact Nat.le_trans (Si h1) (wP n h)
  ·rename_i h1 h2;exact absurd h (h2 _)
theorem Qn{f:FuncId}{args:Array Value}{w:World}{R:Ending->World->Prop}(h:Calls p f args w R)(hn:∀w',¬R .outgrown w'):Calls p f args w fun e w'=>R e w'/\w.drawn<=w'.drawn:=by
 intro cs;obtain⟨e,w',fr,h1,h2,h3⟩:=h cs;refine⟨e,w',fr,⟨h1,?_⟩,h2,h3⟩;cases e with
 |returned v=>obtain⟨n,hn⟩:=h2;exact wP n hn
 |panicked c=>obtain⟨n,hn⟩:=h2;exact wP n hn
 |outgrown=>exact absurd h1 (hn w')
end Go.Proofs.YtdaeofhdgabhjaaGreat
namespace Go.Proofs.YtdaeofhdgabhjaaGreat
open Go.RowKit Go.Sort Go.Shelf Go.Lib
def Xb(lt:Int->Int->Bool)(x:Int):List Int->List Int
 |[] =>[x]
 |y::r=>if lt y x=true then y::Xb lt x r else x::y::r
def sL(lt:Int->Int->Bool):List Int->List Int
 |[] =>[]
 |x::l=>Xb lt x (sL lt l)
theorem zS(lt:Int->Int->Bool)(x:Int):∀l:List Int,(Xb lt x l).Perm (x::l)
 |[] =>List.Perm.refl _
 |y::r=>by
  unfold Xb;split
  ·exact((zS lt x r).cons y).trans (List.Perm.swap x y r)
  ·exact List.Perm.refl _
theorem oP(lt:Int->Int->Bool):∀l:List Int,(sL lt l).Perm l
 |[] =>List.Perm.refl _
 |x::l=>(zS lt x _).trans ((oP lt l).cons x)
structure OrdOn(lt:Int->Int->Bool)(l:List Int):Prop where
 trans:∀x∈l,∀y∈l,∀z∈l,lt x y=true->lt y z=true->lt x z=true
 asym:∀x∈l,∀y∈l,lt x y=true->lt y x=false
 tot:∀x∈l,∀y∈l,lt x y=false->lt y x=false->x=y
theorem OrdOn.neg{lt:Int->Int->Bool}{l:List Int}(h:OrdOn lt l){x y z:Int}(hx:x∈l)(hy:y∈l)(hz:z∈l)(h1:lt x y=false)(h2:lt y z=false):lt x z=false:=by
 cases h3:lt x z with
 |false=>rfl
 |true=>
  cases h4:lt y x with
  |false=>have:=h.tot x hx y hy h1 h4;subst this;rw[h2]at h3;cases h3
  |true=>rw[h.trans y hy x hx z hz h4 h3]at h2;cases h2
theorem Bh{lt:Int->Int->Bool}{S:List Int}(h:OrdOn lt S){x:Int}(hx:x∈S):∀l:List Int,(∀y∈l,y∈S)->l.Pairwise (fun a b=>lt b a=false)->(Xb lt x l).Pairwise fun a b=>lt b a=false
 |[],_,_=>List.pairwise_singleton _ _
 |y::r,hl,hs=>by
  have hy:=hl y List.mem_cons_self;obtain⟨h1,h2⟩:=List.pairwise_cons.1 hs;unfold Xb;split
  ·rename_i hlt;refine List.pairwise_cons.2 ⟨fun b hb=> ?_,Bh h hx r (fun z hz=>hl z (List.mem_cons_of_mem _ hz)) h2⟩
   rcases List.mem_cons.1 ((zS lt x r).mem_iff.1 hb)with rfl|hb
   ·exact h.asym _ hy _ hx hlt
   ·exact h1 b hb
  ·rename_i hlt;have hlt:lt y x=false:=by simpa using hlt
   refine List.pairwise_cons.2 ⟨fun b hb=> ?_,hs⟩
   rcases List.mem_cons.1 hb with rfl|hb
   ·exact hlt
   ·exact h.neg (hl b (List.mem_cons_of_mem _ hb)) hy hx (h1 b hb) hlt
theorem yK{lt:Int->Int->Bool}{S:List Int}(h:OrdOn lt S):∀l:List Int,(∀y∈l,y∈S)->(sL lt l).Pairwise fun a b=>lt b a=false
 |[],_=>List.Pairwise.nil
 |x::l,hl=>Bh h (hl x List.mem_cons_self) _ (fun y hy=>hl y (List.mem_cons_of_mem _ ((oP lt l).mem_iff.1 hy))) (yK h l fun y hy=>hl y (List.mem_cons_of_mem _ hy))
theorem Lw{lt:Int->Int->Bool}{l k:List Int}(h:OrdOn lt l)(hp:k.Perm l)(hs:k.Pairwise fun a b=>lt b a=false):k=sL lt l:=
 List.Perm.eq_of_pairwise (fun a b h1 h2 h3 h4=>h.tot a (hp.mem_iff.1 h1) b ((oP lt l).mem_iff.1 h2) h4 h3) hs (yK h l fun _ h=>h) (hp.trans (oP lt l).symm)
def ltA(v:List Geo.V)(p:Nat)(x y:Int):Bool:=decide (Cm v p x.toNat y.toNat<0)
theorem Pe{C:bR}{_w:World}{p:Nat}{v:List Geo.V}{vs:List Value}(h:bZ C [.fn (.func 222) [] [.pro [.pro [.sl v.length (LT.V.enc v),.junk,.junk] 0] 0,.pro [.int .i64 (p:Int)] 0]] vs):
  ∃cb:List Value,vs=[.func (.func 222) #[] cb.toArray]/\bZ C [.pro [.pro [.sl v.length (LT.V.enc v),.junk,.junk] 0] 0,.pro [.int .i64 (p:Int)] 0] cb:=by
 unfold bZ at h;obtain⟨u,r,rfl,h1,h2⟩:=h;unfold bZ at h2;subst h2;unfold aZ at h1;obtain⟨a,b,rfl,h3,h4⟩:=h1;unfold bZ at h3;subst h3;exact⟨b,rfl,h4⟩
theorem Xw(l:List Int)(v:List Geo.V)(p:Nat)(hn:l.length<=1000000)(hl:∀x∈l,0<=x/\x.toNat<v.length)(hp:p<v.length)(hv:v.length<=1000000)(hb:∀u∈v,bd 500000000 u)(hO:OrdOn (ltA v p) l):
  Br Tryz.prog 221 (some l.length) [.fn (.func 222) [] [.pro [.pro [.sl v.length (LT.V.enc v),.junk,.junk] 0] 0,.pro [.int .i64 (p:Int)] 0]] 3 1 (LT.I.enc l) (LT.I.enc (sL (ltA v p) l)):=by
 have hlen:=(oP (ltA v p) l).length_eq;refine⟨by kernel_rfl,by rw[vT,vT,List.length_map,List.length_map,hlen],?_,?_⟩
 ·intro C w b c arr vs hC hL hnc hA;obtain⟨cb,rfl,hcb⟩:=Pe (_w:=w) hA;have hnc:=hnc _ rfl;obtain⟨hH,hsz⟩:=Io hL;by_cases hl0:l=[]
  ·subst hl0;have h:=AnyF.slices_SortFunc_none (P:=Tryz.prog) (ρ:=Tryz.sort221_ren) {Tryz.sort221 with} (some ⟨b,0,none⟩) c (.func (.func 222) #[] cb.toArray) w
   change Calls Tryz.prog 221 _ _ _ at h;refine h.mono ?_;rintro e w' ⟨rfl,rfl⟩;exact⟨arr,rfl,hL,⟨rfl,rfl,rfl,Nat.le_refl _,fun _ _ _=>rfl⟩⟩
  obtain⟨x0,hx0⟩:=List.exists_mem_of_ne_nil _ hl0;have:Inhabited {x:Int//x∈l}:=⟨⟨x0,hx0⟩⟩;obtain⟨d,hd⟩:∃d:Array {x:Int//x∈l},d=l.attach.toArray:=⟨_,rfl⟩;have hds:d.size=l.length:=by rw[hd];simp
  have hdm:d.toList.map (·.1)=l:=by rw[hd];simp
  have hblk:b<w.heap.size:=(Array.getElem?_eq_some_iff.1 hL.blk).1;have hswo:SWO (ltOf fun x y:{x:Int//x∈l}=>Cm v p x.1.toNat y.1.toNat):=by
   have e:∀x y:{x:Int//x∈l},ltOf (fun x y:{x:Int//x∈l}=>Cm v p x.1.toNat y.1.toNat) x y=ltA v p x.1 y.1:=fun x y=>rfl
   refine⟨fun x=> ?_,fun x y z h1 h2=> ?_,fun x y z h1 h2=> ?_⟩
   ·rw[e];cases h:ltA v p x.1 x.1 with
    |false=>rfl
    |true=>have:=hO.asym _ x.2 _ x.2 h;rw[h]at this;cases this
   ·rw[e]at*;exact hO.trans _ x.2 _ y.2 _ z.2 h1 h2
   ·rw[e]at*;exact hO.neg x.2 y.2 z.2 h1 h2
  have hHd:Holds (fun x:{x:Int//x∈l}=>Value.int .i64 x.1) w b 0 d:=by
   intro j hj;have hj':j<l.length:=by omega
   have:=hH j (by simpa using hj')
   have e:(l.toArray)[j]! =d[j]!.1:=by
    rw[getElem!_pos _ j (by simpa using hj'),getElem!_pos d j hj]
    subst hd;simp
   rw[e]at this;exact this
  have h:=Any.slices_SortFunc (P:=Tryz.prog) (ρ:=Tryz.sort221_ren) Tryz.sort221 (fun x:{x:Int//x∈l}=>Value.int .i64 x.1) (fun _=>rfl) (fun x y=>Cm v p x.1.toNat y.1.toNat) hswo 222 cb.toArray b 0 c d w (fun args w=>eB (by kernel_rfl) args w) (by
   intro m os dk hdk x y;have hx:=hl x.1 x.2;have hy:=hl y.1 y.2;obtain⟨A,r,hA2,hr,hS⟩:=aJf [.int .i64 (x.1.toNat:Int),.int .i64 (y.1.toNat:Int),aG.enc v,aQ.enc p] (x.1.toNat,y.1.toNat,v,p) rfl (gE.1 ⟨hx.2,hy.2,hp,hv,hb⟩);have hA3:A=[.int .i64 (x.1.toNat:Int),.int .i64 (y.1.toNat:Int),.pro [.pro [.sl v.length (LT.V.enc v),.junk,.junk] 0] 0,.pro [.int .i64 (p:Int)] 0] :=by
    have h5:avs [SV.int .i64 (x.1.toNat:Int),.int .i64 (y.1.toNat:Int),aG.enc v,aQ.enc p] =([.int .i64 (x.1.toNat:Int),.int .i64 (y.1.toNat:Int),.pro [.pro [.sl v.length (LT.V.enc v),.junk,.junk] 0] 0,.pro [.int .i64 (p:Int)] 0] :List PV).map .p:=rfl;rw[h5]at hA2;have:=congrArg cR hA2;rw[cB,cB]at this;cases this;rfl
   have hr2:r= .int .i64 (Cm v p x.1.toNat y.1.toNat):=by
    have h6:(SV.int .i64 (Cm v p x.1.toNat y.1.toNat)).av= .p r:=hr;cases h6;rfl
   subst hA3;subst hr2;have ex:((x.1.toNat:Nat):Int)=x.1:=Int.toNat_of_nonneg hx.1;have ey:((y.1.toNat:Nat):Int)=y.1:=Int.toNat_of_nonneg hy.1;rw[ex,ey]at hS;have h1:=hS.2 C (sortWorld (fun x:{x:Int//x∈l}=>Value.int .i64 x.1) w b 0 m dk os) (.int .i64 x.1:: .int .i64 y.1::cb) (fun b' o u h=> ?_) ?_
   ·have h2:=Qn h1 (by rintro w' ⟨v,h,_⟩;cases h)
    rw[show(#[Value.int .i64 x.1,Value.int .i64 y.1] ++cb.toArray)=(Value.int .i64 x.1:: .int .i64 y.1::cb).toArray by simp]
    refine h2.mono ?_;rintro e w' ⟨⟨u,rfl,hu,hbel⟩,hdr⟩;unfold aZ at hu;subst hu;exact⟨rfl,(Lay.mk hbel hdr).grow⟩
   ·obtain⟨h2,h3⟩:=hC _ _ _ h;unfold sortWorld;rw[cell?_grow _ _ _ (by show b'<(putRow _ _ _ _ _).heap.size;rw[size_putRow];exact World.block_lt_of_cell? w ⟨b',o,none⟩ h2),cell?_putRow_other _ _ b 0 _ _ (Or.inl h3)]
    exact h2
   ·unfold bZ;refine⟨_,_,rfl,by unfold aZ;rfl,?_⟩
    unfold bZ;exact⟨_,_,rfl,by unfold aZ;rfl,hcb⟩) hHd hblk (by omega)
  change Calls Tryz.prog 221 _ _ _ at h;rw[hds]at h;refine h.mono ?_;rintro e w' ⟨rfl,d',n,os,hp,hs,rfl⟩;obtain⟨p1,_,p3⟩:=hp;have hG:=nA (enc:=fun x:{x:Int//x∈l}=>Value.int .i64 x.1) (w:=w) (g:=b) (n:=n) (d:=d') (os:=os)
  have hperm:d'.toList.Perm d.toList:=by
   have e1:(d'.extract 0 l.length).toList=d'.toList:=by rw[<-hds,<-p1];simp
   have e2:(d.extract 0 l.length).toList=d.toList:=by rw[<-hds];simp
   rwa[e1,e2]at p3
  have hpr:(d'.toList.map (·.1)).Perm l:=by
   have:=hperm.map (·.1)
   rwa[hdm]at this
  have hso:d'.toList.map (·.1)=sL (ltA v p) l:=by
   refine Lw hO hpr ?_;rw[List.pairwise_map,List.pairwise_iff_getElem];intro i j hi hj hij;have hj':j<d'.size:=by simpa using hj
   have:=hs i j (Nat.zero_le _) hij (by rw[<-hds,<-p1];exact hj')
   rw[getElem!_pos d' i (by omega),getElem!_pos d' j hj']at this
   show ltOf (fun x y:{x:Int//x∈l}=>Cm v p x.1.toNat y.1.toNat) (d'.toList[j]) (d'.toList[i])=false
   simpa using this
  refine⟨_,rfl,⟨rT hL.blk,fun h=>absurd h (by decide),fun _=> ?_,?_⟩,hG⟩
  ·obtain⟨h1,h2,h3⟩:=hL.row (by decide)
   refine⟨by unfold putCells;simpa using h1,?_,h3⟩
   rw[vT,List.length_map,hlen];unfold putCells;simpa using hsz
  ·intro i x hi;rw[<-hso,vT,List.map_map,List.getElem?_map]at hi;cases hx:d'.toList[i]? with
   |none=>rw[hx]at hi;cases hi
   |some y=>
    rw[hx]at hi;cases hi;have hi':i<d'.size:=by have:=(List.getElem?_eq_some_iff.1 hx).1;simpa using this
    have hds':d'.size=l.length:=by rw[p1,hds]
    refine⟨.int .i64 y.1,?_,rfl,by unfold aZ;rfl⟩
    unfold putCells;simp only[Nat.zero_le,Nat.zero_add,true_and,Nat.sub_zero];rw[Array.getElem?_mapIdx,Array.getElem?_eq_getElem (by omega),Option.map_some,if_pos hi',getElem!_pos d' i hi']
    have:=(List.getElem?_eq_some_iff.1 hx).2;simp only[Array.getElem_toList]at this;rw[this]
 ·intro h0 C w vs hC hA;obtain⟨cb,rfl,_⟩:=Pe (_w:=w) hA;have hl0:l=[] :=List.length_eq_zero_iff.1 (by simpa using h0)
  subst hl0;have h:=AnyF.slices_SortFunc_none (P:=Tryz.prog) (ρ:=Tryz.sort221_ren) {Tryz.sort221 with} none 0 (.func (.func 222) #[] cb.toArray) w
  change Calls Tryz.prog 221 _ _ _ at h;refine h.mono ?_;rintro e w' ⟨rfl,rfl⟩;exact⟨rfl,Below.refl _ _⟩
def aGd:List SV->Option (List Int×List Geo.V×Nat)
 |[.lst .I l,.fnp 222 [] [.pro [.pro [.lst .V v,.junk,.junk] 0] 0,.pro [.int .i64 (.ofNat p)] 0]] =>some (l,v,p)
 |_=>none
theorem Ze{l:List Int}{rest:List SV}{x:List Int×List Geo.V×Nat}(h:aGd (.lst .I l::rest)=some x):∃v p,rest=[.fnp 222 [] [.pro [.pro [.lst .V v,.junk,.junk] 0] 0,.pro [.int .i64 (p:Nat)] 0]]/\x=(l,v,p):=by
 unfold aGd at h;split at h
 ·rename_i e;cases e;cases h;exact⟨_,_,rfl,rfl⟩
 ·cases h
noncomputable def aJr:Con:=⟨List Int×List Geo.V×Nat,aGd,fun(l,v,p)=>[l.length<=1000000,(∀x∈l,0<=x/\x.toNat<v.length),p<v.length,v.length<=1000000,(∀u∈v,bd 500000000 u),OrdOn (ltA v p) l],.mutR .I 3 fun(l,v,p)=>sL (ltA v p) l⟩
theorem aLL:aJr.Ok Tryz.prog 221:=by
 intro l rest x hd hp;obtain⟨v,p,rfl,rfl⟩:=Ze hd;obtain⟨h1,h2,h3,h4,h5,h6⟩:=gE.2 hp;exact⟨[.fn (.func 222) [] [.pro [.pro [.sl v.length (LT.V.enc v),.junk,.junk] 0] 0,.pro [.int .i64 (p:Int)] 0]],rfl,Xw l v p h1 h2 h3 h4 h5 h6⟩
noncomputable def tD:Tab:=cC [(203,aJB),(221,aJr)] aHO
theorem tDo:tD.Ok Tryz.prog:=aK aKS ⟨aLV,aLL,trivial⟩
end Go.Proofs.YtdaeofhdgabhjaaGreat
namespace Go.Proofs.YtdaeofhdgabhjaaGreat
open Go.RowKit
set_option maxRecDepth 100000
noncomputable section
def dF(l:List Geo.V)(v:Geo.V):Nat:=l.findIdx fun u=>decide (v=u)
def rW(l:List Int)(q:Int):Nat:=l.findIdx fun u=>decide (q=u)
theorem fIx{t:LT}{l:List t.ty}{q:t.ty->Bool}{k:Nat}(hk:k<l.length)(h:q (t.nth l k)=true)(hu:aU (fun j=>q (t.nth l j)=false) k):l.findIdx q=k:=by
 refine(List.findIdx_eq hk).2 ⟨by rw[<-LT.nth_eq t l hk];exact h,fun j hj=> ?_⟩
 have this:q (t.nth l j)=false:=hu j hj;rw[LT.nth_eq t l (by omega)]at this
 exact this
theorem aA9{t:LT}{l:List t.ty}{q:t.ty->Bool}{v:t.ty}(hv:v∈l)(h:q v=true)(hu:aU (fun j=>q (t.nth l j)=false) l.length):False:=by
 obtain⟨j,hj,rfl⟩:=List.mem_iff_getElem.1 hv;have this:q (t.nth l j)=false:=hu j hj;rw[LT.nth_eq t l hj,h]at this;cases this
theorem aDx{l:List Int}{q:Int}(h:q∈l):rW l q<l.length:=List.findIdx_lt_length_of_exists ⟨q,h,decide_eq_true rfl⟩
theorem uO{l:List Geo.V}{q:Geo.V}(h:q∈l):dF l q<l.length:=List.findIdx_lt_length_of_exists ⟨q,h,decide_eq_true rfl⟩
def aGr:Ar (List Geo.V×List (List Int)×List Int) where
 enc g:= .pro [.lst .V g.1,.lst .Q g.2.1,.lst .I g.2.2] 0
 dec s:=match s with
  | .pro [a,b,c] 0=>(match Gn .V a,Gn .Q b,Gn .I c with|some x,some y,some z=>some (x,y,z)|_,_,_=>none)
  |_=>none
 ok s a h:=by
  split at h
  ·split at h<;>cases h;rename_i h1 h2 h3;have e1:=pC h1;have e2:=pC h2;have e3:=pC h3;simp only[SV.av,avs,e1,e2,e3]
  ·cases h
 pl _:=⟨_,rfl⟩
def fV(L:List (List Int))(i j:Nat)(st:Int):Nat:=
 let l:=dC L i
 (iI l (((rW l j:Int)+st+l.length).toNat % l.length)).toNat
def aFH:Con:=con (ac (aL .V) (a1 aV)) (fun(l,v)=>[l.length<=1000000,v∈l]) (fun(l,v)=> .int .i64 (dF l v:Nat))
theorem aK4:aFH.Ok Tryz.prog 150:=aX (bK tDo) (raw:=bO) (fun(l,v)=>[cnt 2 8 l.length (aU fun j=>decide (v=Geo.nth l j)=false)]
  ) (fun(_,_)=>⟨_,rfl⟩) fun(l,v) hp=>bL (q:=(0=(0:Int)/\(0:Nat)<=l.length/\aU (fun j=>decide (v=Geo.nth l j)=false) 0)/\
 (∀x:Nat,x<=l.length/\aU (fun j=>decide (v=Geo.nth l j)=false) x->((x:Int)<l.length->ix (x:Int) l.length/\(v=(Geo.nth l x)->(x:Int)=dF l v)/\
   (¬v=(Geo.nth l x)->aJ ((x:Int)+1)/\(x:Int)+1=((x+1:Nat):Int)/\x+1<=l.length/\aU (fun j=>decide (v=Geo.nth l j)=false) (x+1)/\l.length-(x+1)<l.length-x))/\
  (¬(x:Int)<l.length-> -1=(dF l v:Int)))) (by kernel_rfl) (by
  change l.length<=1000000/\v∈l at hp;obtain⟨hl,hv⟩:=hp;have e1:∀x:Nat,(x:Int)<l.length->v=Geo.nth l x->aU (fun j=>decide (v=Geo.nth l j)=false) x->(x:Int)=dF l v:=fun x h1 h2 h3=>by
   rw[show dF l v=x from fIx (t:= .V) (by omega) (decide_eq_true h2) h3]
  have e2:∀x:Nat,¬(x:Int)<l.length->x<=l.length->aU (fun j=>decide (v=Geo.nth l j)=false) x-> -1=(dF l v:Int):=fun x h1 h2 h3=>by
   obtain rfl:x=l.length:=by omega
   exact(aA9 (t:= .V) (q:=fun u=>decide (v=u)) hv (decide_eq_true rfl) h3).elim
  repeat' first|with_reducible apply And.intro|with_reducible intro
  all_goals repeat with_reducible cases‹_/\_›
  all_goals first|assumption|rfl|exact trivial|exact nb ‹_› |exact nb' ‹_› |omega|exact cQ (by omega)|(unfold ix;omega)|(unfold aJ;omega)|exact bC _|exact aE ‹_› ‹_› |(refine aE ‹_› ?_;simp_all;done)|exact e1 _ ‹_› ‹_› ‹_› |exact e2 _ ‹_› ‹_› ‹_› |grind)
def aEP:Tab:=cC [(150,aFH)] tD
theorem aAO:aEP.Ok Tryz.prog:=aK tDo ⟨aK4,trivial⟩
def aJO:Con:=con (ac (aL .I) (a1 aI)) (fun(l,q)=>[l.length<=1000000,q∈l]) (fun(l,q)=> .int .i64 (rW l q:Nat))
theorem aL8:aJO.Ok Tryz.prog 176:=aX (bK aAO) (raw:=bO) (fun(l,q)=>[cnt 2 8 l.length (aU fun j=>decide (q=iI l j)=false)]
  ) (fun(_,_)=>⟨_,rfl⟩) fun(l,q) hp=>bL (q:=(0=(0:Int)/\(0:Nat)<=l.length/\aU (fun j=>decide (q=iI l j)=false) 0)/\
 (∀x:Nat,x<=l.length/\aU (fun j=>decide (q=iI l j)=false) x->((x:Int)<l.length->ix (x:Int) l.length/\(q=iI l x->(x:Int)=rW l q)/\
   (¬q=iI l x->aJ ((x:Int)+1)/\(x:Int)+1=((x+1:Nat):Int)/\x+1<=l.length/\aU (fun j=>decide (q=iI l j)=false) (x+1)/\l.length-(x+1)<l.length-x))/\
  (¬(x:Int)<l.length-> -1=(rW l q:Int)))) (by kernel_rfl) (by
  change l.length<=1000000/\q∈l at hp;obtain⟨hl,hv⟩:=hp;have e1:∀x:Nat,(x:Int)<l.length->q=iI l x->aU (fun j=>decide (q=iI l j)=false) x->(x:Int)=rW l q:=fun x h1 h2 h3=>by
   rw[show rW l q=x from fIx (t:= .I) (by omega) (decide_eq_true h2) h3]
  have e2:∀x:Nat,¬(x:Int)<l.length->x<=l.length->aU (fun j=>decide (q=iI l j)=false) x-> -1=(rW l q:Int):=fun x h1 h2 h3=>by
   obtain rfl:x=l.length:=by omega
   exact(aA9 (t:= .I) (q:=fun u=>decide (q=u)) hv (decide_eq_true rfl) h3).elim
  repeat' first|with_reducible apply And.intro|with_reducible intro
  all_goals repeat with_reducible cases‹_/\_›
  all_goals first|assumption|rfl|exact trivial|exact nb ‹_› |exact nb' ‹_› |omega|exact cQ (by omega)|(unfold ix;omega)|(unfold aJ;omega)|exact bC _|exact aE ‹_› ‹_› |(refine aE ‹_› ?_;simp_all;done)|exact e1 _ ‹_› ‹_› ‹_› |exact e2 _ ‹_› ‹_› ‹_› |grind)
def aIb:Tab:=cC [(176,aJO)] aEP
theorem aEq:aIb.Ok Tryz.prog:=aK aAO ⟨aL8,trivial⟩
def aKv:Con:=con (ac aGr (ac aN (ac aN (a1 aI)))) (fun(g,i,j,st)=>[g.1.length<=1000000,g.2.1.length<=1000000,i<g.2.1.length,(j:Int)∈dC g.2.1 i,(dC g.2.1 i).length<=1000000,(∀x∈dC g.2.1 i,0<=x),st=1\/st= -1]) (fun(g,i,j,st)=> .int .i64 (fV g.2.1 i j st:Nat)
 )
theorem aMP:aKv.Ok Tryz.prog 116:=aX (bK aEq) (raw:=bO) (fun(_,_,_,_)=>[]) (fun(_,_,_,_)=>⟨_,rfl⟩) fun(g,i,j,st) hp=>bL (q:=ix (i:Int) g.2.1.length/\(dC g.2.1 i).length<=1000000/\(j:Int)∈dC g.2.1 i/\aJ ((rW (dC g.2.1 i) (j:Int):Int)+st)/\aJ ((rW (dC g.2.1 i) (j:Int):Int)+st+(dC g.2.1 i).length)/\((dC g.2.1 i).length:Int)≠0/\ix (Int.tmod ((rW (dC g.2.1 i) (j:Int):Int)+st+(dC g.2.1 i).length) ((dC g.2.1 i).length:Int)) (dC g.2.1 i).length/\iI (dC g.2.1 i) (Int.tmod ((rW (dC g.2.1 i) (j:Int):Int)+st+(dC g.2.1 i).length) ((dC g.2.1 i).length:Int)).toNat=fV g.2.1 i j st) (by kernel_rfl) (by
 change g.1.length<=1000000/\g.2.1.length<=1000000/\i<g.2.1.length/\(j:Int)∈dC g.2.1 i/\(dC g.2.1 i).length<=1000000/\((∀x∈dC g.2.1 i,0<=x))/\(st=1\/st= -1)at hp;obtain⟨h1,h2,h3,h4,h5,h6,h7⟩:=hp;unfold fV;generalize dC g.2.1 i=l at*;have h8:=aDx h4;have e0:0<=(rW l (j:Int):Int)+st+l.length:=by omega
 have e1:Int.tmod ((rW l (j:Int):Int)+st+l.length) (l.length:Int)=(((((rW l (j:Int):Int)+st+l.length).toNat % l.length:Nat)):Int):=by
  rw[Int.tmod_eq_emod_of_nonneg e0,<-Int.toNat_of_nonneg e0];rfl
 have e2:((rW l (j:Int):Int)+st+l.length).toNat % l.length<l.length:=Nat.mod_lt _ (by omega)
 refine⟨eE h3,h5,h4,cP (by omega),cP (by omega),by omega,by rw[e1];exact eE e2,?_⟩
 rw[e1];have h9:=h6 _ (show iI l (((rW l (j:Int):Int)+st+l.length).toNat % l.length)∈l by rw[show iI l _=_ from pD e2];exact List.getElem_mem _)
 show iI l _=((iI l _).toNat:Int);rw[Int.toNat_of_nonneg h9];rfl)
def aIV:Tab:=cC [(116,aKv)] aIb
theorem aFb:aIV.Ok Tryz.prog:=aK aEq ⟨aMP,trivial⟩
end
end Go.Proofs.YtdaeofhdgabhjaaGreat
namespace Go.Proofs.YtdaeofhdgabhjaaGreat
open Go.RowKit
noncomputable section
open Geo (aC)
def gL(L:List (List Int))(a b:Nat):List (List Int):=L.set a (dC L a++[(b:Int)])
def both(L:List (List Int))(a b:Nat):List (List Int):=gL (gL L a b) b a
def rgO(base m:Nat):Nat->List (List Int)->List (List Int)
 |0,L=>L
 |i+1,L=>both (rgO base m i L) (base+i) (base+(i+1) % m)
def rgN(n base m:Nat):Nat->List Int->List Int
 |0,N=>N
 |i+1,N=>if n=0 then(rgN n base m i N).set (base+i) ((base+(i+1) % m:Nat):Int)else(rgN n base m i N).set (base+(i+1) % m) ((base+i:Nat):Int)
def bs(R:List Geo.aM)(k:Nat):Nat:=(R.take k).flatten.length
def rsO(R:List Geo.aM):Nat->List (List Int)->List (List Int)
 |0,L=>L
 |k+1,L=>rgO (bs R k) (aC R k).length (aC R k).length (rsO R k L)
def rsN(R:List Geo.aM):Nat->List Int->List Int
 |0,N=>N
 |k+1,N=>rgN k (bs R k) (aC R k).length (aC R k).length (rsN R k N)
def dgO(v:List Geo.V)(D:List Geo.S):Nat->List (List Int)->List (List Int)
 |0,L=>L
 |k+1,L=>both (dgO v D k L) (dF v (bB D k).a) (dF v (bB D k).b)
def dgP(v:List Geo.V)(D:List Geo.S):List (Nat×Nat):=D.map fun d=>(dF v d.a,dF v d.b)
def stO(v:List Geo.V):Nat->List (List Int)->List (List Int)
 |0,L=>L
 |k+1,L=>(stO v k L).set k (sL (ltA v k) (dC (stO v k L) k))
def oX(s:Geo.Shape)(k:Nat):List (List Int):=rsO (Geo.aA (aH s)) k (List.replicate (vOf s).length [])
def nX(s:Geo.Shape)(k:Nat):List Int:=rsN (Geo.aA (aH s)) k (List.replicate (vOf s).length 0)
def oB(s:Geo.Shape):List (List Int):=rsO (Geo.aA (aH s)) (Geo.aA (aH s)).length (List.replicate (vOf s).length [])
def oD(s:Geo.Shape):List (List Int):=dgO (vOf s) (dOf s) (dOf s).length (oB s)
def oG(s:Geo.Shape):List (List Int):=stO (vOf s) (vOf s).length (oD s)
def nG(s:Geo.Shape):List Int:=rsN (Geo.aA (aH s)) (Geo.aA (aH s)).length (List.replicate (vOf s).length 0)
def pG(s:Geo.Shape):List (Nat×Nat):=dgP (vOf s) (dOf s)
theorem Nz(L:List (List Int))(a c:Nat)(x:List Int):dC (L.set a x) c=if c=a/\a<L.length then x else dC L c:=by
 unfold dC;rw[List.getD_eq_getElem?_getD,List.getD_eq_getElem?_getD,List.getElem?_set];by_cases h:a=c
 ·subst h;by_cases h2:a<L.length
  ·rw[if_pos rfl,if_pos h2,if_pos ⟨rfl,h2⟩];rfl
  ·rw[if_pos rfl,if_neg h2,if_neg fun h=>h2 h.2,List.getElem?_eq_none (by omega)]
 ·rw[if_neg h,if_neg fun h2=>h h2.1.symm]
theorem yJ(L:List (List Int))(a b:Nat):(gL L a b).length=L.length:=List.length_set ..
theorem Pg(L:List (List Int))(a b:Nat):(both L a b).length=L.length:=by unfold both;rw[yJ,yJ]
theorem Ks(base m:Nat)(L:List (List Int)):∀i,(rgO base m i L).length=L.length
 |0=>rfl
 |i+1=>(Pg _ _ _).trans (Ks base m L i)
theorem Kt(n base m:Nat)(N:List Int):∀i,(rgN n base m i N).length=N.length
 |0=>rfl
 |i+1=>by unfold rgN;split<;>rw[List.length_set,Kt n base m N i]
theorem Vm(R:List Geo.aM)(L:List (List Int)):∀k,(rsO R k L).length=L.length
 |0=>rfl
 |k+1=>(Ks _ _ _ _).trans (Vm R L k)
theorem Vn(R:List Geo.aM)(N:List Int):∀k,(rsN R k N).length=N.length
 |0=>rfl
 |k+1=>(Kt _ _ _ _ _).trans (Vn R N k)
theorem Lh(v:List Geo.V)(D:List Geo.S)(L:List (List Int)):∀k,(dgO v D k L).length=L.length
 |0=>rfl
 |k+1=>(Pg _ _ _).trans (Lh v D L k)
theorem Ca(v:List Geo.V)(L:List (List Int)):∀k,(stO v k L).length=L.length
 |0=>rfl
 |k+1=>(List.length_set ..).trans (Ca v L k)
theorem aA2(s:Geo.Shape)(k:Nat):(oX s k).length=(vOf s).length:=(Vm _ _ k).trans List.length_replicate
theorem Rq(s:Geo.Shape)(k:Nat):(nX s k).length=(vOf s).length:=(Vn _ _ k).trans List.length_replicate
theorem aA3(s:Geo.Shape):(oB s).length=(vOf s).length:=aA2 s _
theorem Rp(s:Geo.Shape):(oD s).length=(vOf s).length:=(Lh _ _ _ _).trans (aA3 s)
theorem aGN(s:Geo.Shape):(oG s).length=(vOf s).length:=(Ca _ _ _).trans (Rp s)
theorem Ki{L:List (List Int)}{t:Nat}(h:∀c,(dC L c).length<=t)(a b c:Nat):(dC (gL L a b) c).length<=t+1:=by
 unfold gL;rw[Nz];have:=h c;have:=h a;split
 ·rw[List.length_append];simp;omega
 ·omega
theorem aBe{L:List (List Int)}{t:Nat}(h:∀c,(dC L c).length<=t)(a b c:Nat):(dC (both L a b) c).length<=t+2:=Ki (Ki h a b) b a c
theorem aAx{L:List (List Int)}{t:Nat}(h:∀c,(dC L c).length<=t)(base m:Nat):∀i c,(dC (rgO base m i L) c).length<=t+2*i
 |0,c=>h c
 |i+1,c=>aBe (aAx h base m i) _ _ c
theorem Lk{R:List Geo.aM}{k:Nat}(h:k<R.length):bs R k+(aC R k).length=bs R (k+1):=by
 unfold bs;rw[List.take_succ_eq_append_getElem h,List.flatten_append,List.flatten_singleton,List.length_append,gQ h]
theorem aFL(R:List Geo.aM)(k:Nat):bs R k<=R.flatten.length:=by
 unfold bs
 conv=>rhs;rw[<-List.take_append_drop k R,List.flatten_append,List.length_append]
 omega
theorem aFr{L:List (List Int)}{t:Nat}(h:∀c,(dC L c).length<=t)(R:List Geo.aM):∀k,k<=R.length->∀c,(dC (rsO R k L) c).length<=t+2*bs R k
 |0,_,c=>h c
 |k+1,hk,c=>by
  have:=aAx (aFr h R k (by omega)) (bs R k) (aC R k).length (aC R k).length c
  have e:=Lk (R:=R) (k:=k) (by omega)
  show(dC (rgO _ _ _ _) c).length<=_;omega
theorem aJe(s:Geo.Shape)(k:Nat)(hk:k<=(Geo.aA (aH s)).length)(c:Nat):(dC (oX s k) c).length<=2*bs (Geo.aA (aH s)) k:=by
 have:=aFr (L:=List.replicate (vOf s).length []) (t:=0) (fun c=>by
  unfold dC;rw[List.getD_eq_getElem?_getD,List.getElem?_replicate];split<;>simp) (Geo.aA (aH s)) k hk c
 rw[Nat.zero_add]at this;exact this
theorem aFE{L:List (List Int)}{t:Nat}(h:∀c,(dC L c).length<=t)(v:List Geo.V)(D:List Geo.S):∀i c,(dC (dgO v D i L) c).length<=t+2*i
 |0,c=>h c
 |i+1,c=>aBe (aFE h v D i) _ _ c
theorem Re(v:List Geo.V)(L:List (List Int)):∀k c,c<L.length->dC (stO v k L) c=if c<k then sL (ltA v c) (dC L c)else dC L c
 |0,c,_=>(if_neg (Nat.not_lt_zero c)).symm
 |k+1,c,hc=>by
  show dC ((stO v k L).set k (sL (ltA v k) (dC (stO v k L) k))) c=_;rw[Nz,Ca];by_cases h:c=k
  ·subst h;rw[if_pos ⟨rfl,hc⟩,if_pos (by omega),Re v L c c hc,if_neg (Nat.lt_irrefl c)]
  ·rw[if_neg fun h2=>h h2.1,Re v L k c hc]
   by_cases h3:c<k
   ·rw[if_pos h3,if_pos (by omega)]
   ·rw[if_neg h3,if_neg (by omega)]
theorem Kg{s:Geo.Shape}(hv:Geo.aR s=true):(dOf s).length<=6400/\∀d∈dOf s,d.a∈vOf s/\d.b∈vOf s:=by
 have V:Geo.VS s:=(Geo.iZ s).1 hv;have R:Geo.bP s=true:=by rw[<-Geo.iG];exact hv
 have dE:(Geo.dI s (vOf s)).map (Geo.eY (vOf s))=dOf s:=by
  rw[Wq R,Kk R];exact(Geo.Wp V (fun x hx=>(Geo.kT s).subset hx) ((Geo.kT s).nodup_iff.2 V.nodup)).1
 have hvl:=wF s;have pL:(Geo.dI s (vOf s)).length<=6400:=by
  have:=pI (s:=s) (v:=vOf s) (vOf s).length;have h2:(vOf s).length*(vOf s).length<=80*80:=Nat.mul_le_mul hvl hvl;unfold Geo.dI;omega
 refine⟨by rw[<-dE,List.length_map];exact pL,fun d hd=> ?_⟩
 rw[<-dE]at hd;obtain⟨p,hp,rfl⟩:=List.mem_map.1 hd;have:=Ez hp;exact⟨Geo.dV (by omega),Geo.dV (by omega)⟩
def GOk(s:Geo.Shape):Prop:=∀k,k<(vOf s).length->0<(dC (oD s) k).length/\(∀x∈dC (oD s) k,0<=x/\x.toNat<(vOf s).length)/\OrdOn (ltA (vOf s) k) (dC (oD s) k)
def jF(key:Nat)(x:Nat)(L:List (List Int)):Nat×Ann:=(key+10000,.mk Unit (fun _ _=>some ()) [] (fun _=>[]) (fun _=>[]) (fun _=>[(x,.fam 112 3 .I L [])]) (fun _=>0) (fun _=>[]))
def aJS:Con:=aGg (a1 aSh) (fun s=>[Fit s,Geo.aR s=true,GOk s]) (fun s=> .tup [.ptr 19 0,.own 40 .P (pG s).length]) (fun s=>[(19,some (.box 114 [.lst .V (vOf s),.owF 14 (vOf s).length,.own 17 .I (vOf s).length])),(14,some (.fam 112 3 .I (oG s) [])),(17,some (.row 3 .I (nG s))),(40,some (.row 67 .P (pG s)))])
set_option maxRecDepth 100000 in
set_option maxHeartbeats 4000000 in
theorem aMc:aJS.Ok Tryz.prog 171:=Wr (bK aFb) (st:=true) (raw:=bO) (fun s=>[lp 5 39 (Geo.aA (aH s)).length (fun _=>[]) [] (fun k=>[(7,.int .i64 (bs (Geo.aA (aH s)) k:Nat))]) (fun k=>[(14,.fam 112 3 .I (oX s k) []),(17,.row 3 .I (nX s k))]) fun k=>
  [lp 8 46 (aC (Geo.aA (aH s)) k).length (fun _=>[]) [] (fun _=>[]) (fun i=>[(14,.fam 112 3 .I (rgO (bs (Geo.aA (aH s)) k) (aC (Geo.aA (aH s)) k).length i (oX s k)) []),(17,.row 3 .I (rgN k (bs (Geo.aA (aH s)) k) (aC (Geo.aA (aH s)) k).length i (nX s k)))]) fun i=>
  [jU 11 [(11,.int .i64 (bs (Geo.aA (aH s)) k+i:Nat)),(12,.int .i64 (bs (Geo.aA (aH s)) k+(i+1) % (aC (Geo.aA (aH s)) k).length:Nat))],
  jF 12 14 (gL (rgO (bs (Geo.aA (aH s)) k) (aC (Geo.aA (aH s)) k).length i (oX s k)) (bs (Geo.aA (aH s)) k+i) (bs (Geo.aA (aH s)) k+(i+1) % (aC (Geo.aA (aH s)) k).length))]],
  lp 22 120 (dOf s).length (fun _=>[]) [40] (fun k=>[(13,.own 40 .P k)]) (fun k=>[(14,.fam 112 3 .I (dgO (vOf s) (dOf s) k (oB s)) []),(40,.row 67 .P ((pG s).take k))]) fun k=>
  [jF 26 14 (gL (dgO (vOf s) (dOf s) k (oB s)) (dF (vOf s) (bB (dOf s) k).a) (dF (vOf s) (bB (dOf s) k).b))],
  lp 30 173 (vOf s).length (fun _=>[]) [] (fun _=>[]) (fun k=>[(14,.fam 112 3 .I (stO (vOf s) k (oD s)) []),(0,.box 0 [.undef])])]) fun s hp=>bL (q:=Fit s/\0<=((vOf s).length:Int)/\((vOf s).length:Int)=(vOf s).length/\((vOf s).length:Int)<=1000000/\(vOf s).length*24<=1000000000/\0<=((vOf s).length:Int)/\((vOf s).length:Int)=(vOf s).length/\((vOf s).length:Int)<=1000000/\(vOf s).length*8<=1000000000/\Fit s/\Fit (aH s)/\(0:Nat)<(aH s).outer.length/\(∀r:Geo.aM,r∈(aH s).holes->(0:Nat)<r.length)/\(0=(0:Int)/\0=(bs (Geo.aA (aH s)) 0:Int)/\List.replicate (vOf s).length ([] :List Int)=oX s 0/\List.replicate (vOf s).length 0=nX s 0/\(0:Nat)<=(Geo.aA (aH s)).length)/\
 (∀x:Nat,x<=(Geo.aA (aH s)).length->((x:Int)<(Geo.aA (aH s)).length->ix (x:Int) (Geo.aA (aH s)).length/\(0=(0:Int)/\oX s x=rgO (bs (Geo.aA (aH s)) x) (aC (Geo.aA (aH s)) x).length 0 (oX s x)/\nX s x=rgN x (bs (Geo.aA (aH s)) x) (aC (Geo.aA (aH s)) x).length 0 (nX s x)/\(0:Nat)<=(aC (Geo.aA (aH s)) x).length)/\
   (∀x_1:Nat,x_1<=(aC (Geo.aA (aH s)) x).length->((x_1:Int)<(aC (Geo.aA (aH s)) x).length->(aJ ((bs (Geo.aA (aH s)) x:Int)+x_1)/\aJ ((x_1:Int)+1)/\((aC (Geo.aA (aH s)) x).length:Int)≠0/\aJ ((bs (Geo.aA (aH s)) x:Int)+(((x_1+1) % (aC (Geo.aA (aH s)) x).length:Nat):Int))/\(bs (Geo.aA (aH s)) x:Int)+x_1=((bs (Geo.aA (aH s)) x+x_1:Nat):Int)/\(bs (Geo.aA (aH s)) x:Int)+(((x_1+1) % (aC (Geo.aA (aH s)) x).length:Nat):Int)=((bs (Geo.aA (aH s)) x+(x_1+1) % (aC (Geo.aA (aH s)) x).length:Nat):Int))/\
     (∀y:Unit,(ix ((bs (Geo.aA (aH s)) x+x_1:Nat):Int) (vOf s).length/\bs (Geo.aA (aH s)) x+x_1<(rgO (bs (Geo.aA (aH s)) x) (aC (Geo.aA (aH s)) x).length x_1 (oX s x)).length/\bs (Geo.aA (aH s)) x+x_1<(rgO (bs (Geo.aA (aH s)) x) (aC (Geo.aA (aH s)) x).length x_1 (oX s x)).length/\(List.getD (rgO (bs (Geo.aA (aH s)) x) (aC (Geo.aA (aH s)) x).length x_1 (oX s x)) (bs (Geo.aA (aH s)) x+x_1) ([] :List Int)).length=(List.getD (rgO (bs (Geo.aA (aH s)) x) (aC (Geo.aA (aH s)) x).length x_1 (oX s x)) (bs (Geo.aA (aH s)) x+x_1) ([] :List Int)).length/\(List.getD (rgO (bs (Geo.aA (aH s)) x) (aC (Geo.aA (aH s)) x).length x_1 (oX s x)) (bs (Geo.aA (aH s)) x+x_1) ([] :List Int)).length+[((bs (Geo.aA (aH s)) x+(x_1+1) % (aC (Geo.aA (aH s)) x).length:Nat):Int)].length<=1000000/\ix ((bs (Geo.aA (aH s)) x+x_1:Nat):Int) (vOf s).length/\bs (Geo.aA (aH s)) x+x_1=bs (Geo.aA (aH s)) x+x_1/\bs (Geo.aA (aH s)) x+x_1<(rgO (bs (Geo.aA (aH s)) x) (aC (Geo.aA (aH s)) x).length x_1 (oX s x)).length/\bs (Geo.aA (aH s)) x+x_1<(rgO (bs (Geo.aA (aH s)) x) (aC (Geo.aA (aH s)) x).length x_1 (oX s x)).length/\(List.getD (rgO (bs (Geo.aA (aH s)) x) (aC (Geo.aA (aH s)) x).length x_1 (oX s x)) (bs (Geo.aA (aH s)) x+x_1) ([] :List Int)++[((bs (Geo.aA (aH s)) x+(x_1+1) % (aC (Geo.aA (aH s)) x).length:Nat):Int)]).length=(List.getD (rgO (bs (Geo.aA (aH s)) x) (aC (Geo.aA (aH s)) x).length x_1 (oX s x)) (bs (Geo.aA (aH s)) x+x_1) ([] :List Int)++[((bs (Geo.aA (aH s)) x+(x_1+1) % (aC (Geo.aA (aH s)) x).length:Nat):Int)]).length/\List.set (rgO (bs (Geo.aA (aH s)) x) (aC (Geo.aA (aH s)) x).length x_1 (oX s x)) (bs (Geo.aA (aH s)) x+x_1) (List.getD (rgO (bs (Geo.aA (aH s)) x) (aC (Geo.aA (aH s)) x).length x_1 (oX s x)) (bs (Geo.aA (aH s)) x+x_1) ([] :List Int)++[((bs (Geo.aA (aH s)) x+(x_1+1) % (aC (Geo.aA (aH s)) x).length:Nat):Int)])=gL (rgO (bs (Geo.aA (aH s)) x) (aC (Geo.aA (aH s)) x).length x_1 (oX s x)) (bs (Geo.aA (aH s)) x+x_1) (bs (Geo.aA (aH s)) x+(x_1+1) % (aC (Geo.aA (aH s)) x).length))/\
      (∀y_1:Unit,ix ((bs (Geo.aA (aH s)) x+(x_1+1) % (aC (Geo.aA (aH s)) x).length:Nat):Int) (vOf s).length/\bs (Geo.aA (aH s)) x+(x_1+1) % (aC (Geo.aA (aH s)) x).length<(gL (rgO (bs (Geo.aA (aH s)) x) (aC (Geo.aA (aH s)) x).length x_1 (oX s x)) (bs (Geo.aA (aH s)) x+x_1) (bs (Geo.aA (aH s)) x+(x_1+1) % (aC (Geo.aA (aH s)) x).length)).length/\bs (Geo.aA (aH s)) x+(x_1+1) % (aC (Geo.aA (aH s)) x).length<(gL (rgO (bs (Geo.aA (aH s)) x) (aC (Geo.aA (aH s)) x).length x_1 (oX s x)) (bs (Geo.aA (aH s)) x+x_1) (bs (Geo.aA (aH s)) x+(x_1+1) % (aC (Geo.aA (aH s)) x).length)).length/\(List.getD (gL (rgO (bs (Geo.aA (aH s)) x) (aC (Geo.aA (aH s)) x).length x_1 (oX s x)) (bs (Geo.aA (aH s)) x+x_1) (bs (Geo.aA (aH s)) x+(x_1+1) % (aC (Geo.aA (aH s)) x).length)) (bs (Geo.aA (aH s)) x+(x_1+1) % (aC (Geo.aA (aH s)) x).length) ([] :List Int)).length=(List.getD (gL (rgO (bs (Geo.aA (aH s)) x) (aC (Geo.aA (aH s)) x).length x_1 (oX s x)) (bs (Geo.aA (aH s)) x+x_1) (bs (Geo.aA (aH s)) x+(x_1+1) % (aC (Geo.aA (aH s)) x).length)) (bs (Geo.aA (aH s)) x+(x_1+1) % (aC (Geo.aA (aH s)) x).length) ([] :List Int)).length/\(List.getD (gL (rgO (bs (Geo.aA (aH s)) x) (aC (Geo.aA (aH s)) x).length x_1 (oX s x)) (bs (Geo.aA (aH s)) x+x_1) (bs (Geo.aA (aH s)) x+(x_1+1) % (aC (Geo.aA (aH s)) x).length)) (bs (Geo.aA (aH s)) x+(x_1+1) % (aC (Geo.aA (aH s)) x).length) ([] :List Int)).length+[((bs (Geo.aA (aH s)) x+x_1:Nat):Int)].length<=1000000/\ix ((bs (Geo.aA (aH s)) x+(x_1+1) % (aC (Geo.aA (aH s)) x).length:Nat):Int) (vOf s).length/\bs (Geo.aA (aH s)) x+(x_1+1) % (aC (Geo.aA (aH s)) x).length=bs (Geo.aA (aH s)) x+(x_1+1) % (aC (Geo.aA (aH s)) x).length/\bs (Geo.aA (aH s)) x+(x_1+1) % (aC (Geo.aA (aH s)) x).length<(gL (rgO (bs (Geo.aA (aH s)) x) (aC (Geo.aA (aH s)) x).length x_1 (oX s x)) (bs (Geo.aA (aH s)) x+x_1) (bs (Geo.aA (aH s)) x+(x_1+1) % (aC (Geo.aA (aH s)) x).length)).length/\((x:Int)=0->ix ((bs (Geo.aA (aH s)) x+x_1:Nat):Int) (vOf s).length/\bs (Geo.aA (aH s)) x+x_1<(rgN x (bs (Geo.aA (aH s)) x) (aC (Geo.aA (aH s)) x).length x_1 (nX s x)).length/\aJ ((x_1:Int)+1)/\bs (Geo.aA (aH s)) x+(x_1+1) % (aC (Geo.aA (aH s)) x).length<(gL (rgO (bs (Geo.aA (aH s)) x) (aC (Geo.aA (aH s)) x).length x_1 (oX s x)) (bs (Geo.aA (aH s)) x+x_1) (bs (Geo.aA (aH s)) x+(x_1+1) % (aC (Geo.aA (aH s)) x).length)).length/\(List.getD (gL (rgO (bs (Geo.aA (aH s)) x) (aC (Geo.aA (aH s)) x).length x_1 (oX s x)) (bs (Geo.aA (aH s)) x+x_1) (bs (Geo.aA (aH s)) x+(x_1+1) % (aC (Geo.aA (aH s)) x).length)) (bs (Geo.aA (aH s)) x+(x_1+1) % (aC (Geo.aA (aH s)) x).length) ([] :List Int)++[((bs (Geo.aA (aH s)) x+x_1:Nat):Int)]).length=(List.getD (gL (rgO (bs (Geo.aA (aH s)) x) (aC (Geo.aA (aH s)) x).length x_1 (oX s x)) (bs (Geo.aA (aH s)) x+x_1) (bs (Geo.aA (aH s)) x+(x_1+1) % (aC (Geo.aA (aH s)) x).length)) (bs (Geo.aA (aH s)) x+(x_1+1) % (aC (Geo.aA (aH s)) x).length) ([] :List Int)++[((bs (Geo.aA (aH s)) x+x_1:Nat):Int)]).length/\(x_1:Int)+1=((x_1+1:Nat):Int)/\List.set (gL (rgO (bs (Geo.aA (aH s)) x) (aC (Geo.aA (aH s)) x).length x_1 (oX s x)) (bs (Geo.aA (aH s)) x+x_1) (bs (Geo.aA (aH s)) x+(x_1+1) % (aC (Geo.aA (aH s)) x).length)) (bs (Geo.aA (aH s)) x+(x_1+1) % (aC (Geo.aA (aH s)) x).length) (List.getD (gL (rgO (bs (Geo.aA (aH s)) x) (aC (Geo.aA (aH s)) x).length x_1 (oX s x)) (bs (Geo.aA (aH s)) x+x_1) (bs (Geo.aA (aH s)) x+(x_1+1) % (aC (Geo.aA (aH s)) x).length)) (bs (Geo.aA (aH s)) x+(x_1+1) % (aC (Geo.aA (aH s)) x).length) ([] :List Int)++[((bs (Geo.aA (aH s)) x+x_1:Nat):Int)])=rgO (bs (Geo.aA (aH s)) x) (aC (Geo.aA (aH s)) x).length (x_1+1) (oX s x)/\List.set (rgN x (bs (Geo.aA (aH s)) x) (aC (Geo.aA (aH s)) x).length x_1 (nX s x)) (bs (Geo.aA (aH s)) x+x_1) ((bs (Geo.aA (aH s)) x+(x_1+1) % (aC (Geo.aA (aH s)) x).length:Nat):Int)=rgN x (bs (Geo.aA (aH s)) x) (aC (Geo.aA (aH s)) x).length (x_1+1) (nX s x)/\x_1+1<=(aC (Geo.aA (aH s)) x).length/\(aC (Geo.aA (aH s)) x).length-(x_1+1)<(aC (Geo.aA (aH s)) x).length-x_1)/\
       (¬(x:Int)=0->ix ((bs (Geo.aA (aH s)) x+(x_1+1) % (aC (Geo.aA (aH s)) x).length:Nat):Int) (vOf s).length/\bs (Geo.aA (aH s)) x+(x_1+1) % (aC (Geo.aA (aH s)) x).length<(rgN x (bs (Geo.aA (aH s)) x) (aC (Geo.aA (aH s)) x).length x_1 (nX s x)).length/\aJ ((x_1:Int)+1)/\bs (Geo.aA (aH s)) x+(x_1+1) % (aC (Geo.aA (aH s)) x).length<(gL (rgO (bs (Geo.aA (aH s)) x) (aC (Geo.aA (aH s)) x).length x_1 (oX s x)) (bs (Geo.aA (aH s)) x+x_1) (bs (Geo.aA (aH s)) x+(x_1+1) % (aC (Geo.aA (aH s)) x).length)).length/\(List.getD (gL (rgO (bs (Geo.aA (aH s)) x) (aC (Geo.aA (aH s)) x).length x_1 (oX s x)) (bs (Geo.aA (aH s)) x+x_1) (bs (Geo.aA (aH s)) x+(x_1+1) % (aC (Geo.aA (aH s)) x).length)) (bs (Geo.aA (aH s)) x+(x_1+1) % (aC (Geo.aA (aH s)) x).length) ([] :List Int)++[((bs (Geo.aA (aH s)) x+x_1:Nat):Int)]).length=(List.getD (gL (rgO (bs (Geo.aA (aH s)) x) (aC (Geo.aA (aH s)) x).length x_1 (oX s x)) (bs (Geo.aA (aH s)) x+x_1) (bs (Geo.aA (aH s)) x+(x_1+1) % (aC (Geo.aA (aH s)) x).length)) (bs (Geo.aA (aH s)) x+(x_1+1) % (aC (Geo.aA (aH s)) x).length) ([] :List Int)++[((bs (Geo.aA (aH s)) x+x_1:Nat):Int)]).length/\(x_1:Int)+1=((x_1+1:Nat):Int)/\List.set (gL (rgO (bs (Geo.aA (aH s)) x) (aC (Geo.aA (aH s)) x).length x_1 (oX s x)) (bs (Geo.aA (aH s)) x+x_1) (bs (Geo.aA (aH s)) x+(x_1+1) % (aC (Geo.aA (aH s)) x).length)) (bs (Geo.aA (aH s)) x+(x_1+1) % (aC (Geo.aA (aH s)) x).length) (List.getD (gL (rgO (bs (Geo.aA (aH s)) x) (aC (Geo.aA (aH s)) x).length x_1 (oX s x)) (bs (Geo.aA (aH s)) x+x_1) (bs (Geo.aA (aH s)) x+(x_1+1) % (aC (Geo.aA (aH s)) x).length)) (bs (Geo.aA (aH s)) x+(x_1+1) % (aC (Geo.aA (aH s)) x).length) ([] :List Int)++[((bs (Geo.aA (aH s)) x+x_1:Nat):Int)])=rgO (bs (Geo.aA (aH s)) x) (aC (Geo.aA (aH s)) x).length (x_1+1) (oX s x)/\List.set (rgN x (bs (Geo.aA (aH s)) x) (aC (Geo.aA (aH s)) x).length x_1 (nX s x)) (bs (Geo.aA (aH s)) x+(x_1+1) % (aC (Geo.aA (aH s)) x).length) ((bs (Geo.aA (aH s)) x+x_1:Nat):Int)=rgN x (bs (Geo.aA (aH s)) x) (aC (Geo.aA (aH s)) x).length (x_1+1) (nX s x)/\x_1+1<=(aC (Geo.aA (aH s)) x).length/\(aC (Geo.aA (aH s)) x).length-(x_1+1)<(aC (Geo.aA (aH s)) x).length-x_1))))/\
    (¬(x_1:Int)<(aC (Geo.aA (aH s)) x).length->aJ ((bs (Geo.aA (aH s)) x:Int)+(aC (Geo.aA (aH s)) x).length)/\aJ ((x:Int)+1)/\(x:Int)+1=((x+1:Nat):Int)/\(bs (Geo.aA (aH s)) x:Int)+(aC (Geo.aA (aH s)) x).length=bs (Geo.aA (aH s)) (x+1)/\rgO (bs (Geo.aA (aH s)) x) (aC (Geo.aA (aH s)) x).length x_1 (oX s x)=oX s (x+1)/\rgN x (bs (Geo.aA (aH s)) x) (aC (Geo.aA (aH s)) x).length x_1 (nX s x)=nX s (x+1)/\x+1<=(Geo.aA (aH s)).length/\(Geo.aA (aH s)).length-(x+1)<(Geo.aA (aH s)).length-x)))/\
  (¬(x:Int)<(Geo.aA (aH s)).length->Fit s/\(0=(0:Int)/\(0:Nat)=0/\oX s x=dgO (vOf s) (dOf s) 0 (oB s)/\List.take 0 (pG s)=([] :List (Prod Nat Nat))/\(0:Nat)<=(dOf s).length)/\
   (∀x_1:Nat,x_1<=(dOf s).length->((x_1:Int)<(dOf s).length->ix (x_1:Int) (dOf s).length/\(vOf s).length<=1000000/\(bB (dOf s) x_1).a∈vOf s/\(vOf s).length<=1000000/\(bB (dOf s) x_1).b∈vOf s/\(ix (dF (vOf s) (bB (dOf s) x_1).a:Int) (vOf s).length/\dF (vOf s) (bB (dOf s) x_1).a<(dgO (vOf s) (dOf s) x_1 (oB s)).length/\dF (vOf s) (bB (dOf s) x_1).a<(dgO (vOf s) (dOf s) x_1 (oB s)).length/\(List.getD (dgO (vOf s) (dOf s) x_1 (oB s)) (dF (vOf s) (bB (dOf s) x_1).a) ([] :List Int)).length=(List.getD (dgO (vOf s) (dOf s) x_1 (oB s)) (dF (vOf s) (bB (dOf s) x_1).a) ([] :List Int)).length/\(List.getD (dgO (vOf s) (dOf s) x_1 (oB s)) (dF (vOf s) (bB (dOf s) x_1).a) ([] :List Int)).length+[(dF (vOf s) (bB (dOf s) x_1).b:Int)].length<=1000000/\ix (dF (vOf s) (bB (dOf s) x_1).a:Int) (vOf s).length/\dF (vOf s) (bB (dOf s) x_1).a=dF (vOf s) (bB (dOf s) x_1).a/\dF (vOf s) (bB (dOf s) x_1).a<(dgO (vOf s) (dOf s) x_1 (oB s)).length/\dF (vOf s) (bB (dOf s) x_1).a<(dgO (vOf s) (dOf s) x_1 (oB s)).length/\(List.getD (dgO (vOf s) (dOf s) x_1 (oB s)) (dF (vOf s) (bB (dOf s) x_1).a) ([] :List Int)++[(dF (vOf s) (bB (dOf s) x_1).b:Int)]).length=(List.getD (dgO (vOf s) (dOf s) x_1 (oB s)) (dF (vOf s) (bB (dOf s) x_1).a) ([] :List Int)++[(dF (vOf s) (bB (dOf s) x_1).b:Int)]).length/\List.set (dgO (vOf s) (dOf s) x_1 (oB s)) (dF (vOf s) (bB (dOf s) x_1).a) (List.getD (dgO (vOf s) (dOf s) x_1 (oB s)) (dF (vOf s) (bB (dOf s) x_1).a) ([] :List Int)++[(dF (vOf s) (bB (dOf s) x_1).b:Int)])=gL (dgO (vOf s) (dOf s) x_1 (oB s)) (dF (vOf s) (bB (dOf s) x_1).a) (dF (vOf s) (bB (dOf s) x_1).b))/\
     (∀y:Unit,ix (dF (vOf s) (bB (dOf s) x_1).b:Int) (vOf s).length/\dF (vOf s) (bB (dOf s) x_1).b<(gL (dgO (vOf s) (dOf s) x_1 (oB s)) (dF (vOf s) (bB (dOf s) x_1).a) (dF (vOf s) (bB (dOf s) x_1).b)).length/\dF (vOf s) (bB (dOf s) x_1).b<(gL (dgO (vOf s) (dOf s) x_1 (oB s)) (dF (vOf s) (bB (dOf s) x_1).a) (dF (vOf s) (bB (dOf s) x_1).b)).length/\(List.getD (gL (dgO (vOf s) (dOf s) x_1 (oB s)) (dF (vOf s) (bB (dOf s) x_1).a) (dF (vOf s) (bB (dOf s) x_1).b)) (dF (vOf s) (bB (dOf s) x_1).b) ([] :List Int)).length=(List.getD (gL (dgO (vOf s) (dOf s) x_1 (oB s)) (dF (vOf s) (bB (dOf s) x_1).a) (dF (vOf s) (bB (dOf s) x_1).b)) (dF (vOf s) (bB (dOf s) x_1).b) ([] :List Int)).length/\(List.getD (gL (dgO (vOf s) (dOf s) x_1 (oB s)) (dF (vOf s) (bB (dOf s) x_1).a) (dF (vOf s) (bB (dOf s) x_1).b)) (dF (vOf s) (bB (dOf s) x_1).b) ([] :List Int)).length+[(dF (vOf s) (bB (dOf s) x_1).a:Int)].length<=1000000/\ix (dF (vOf s) (bB (dOf s) x_1).b:Int) (vOf s).length/\dF (vOf s) (bB (dOf s) x_1).b=dF (vOf s) (bB (dOf s) x_1).b/\dF (vOf s) (bB (dOf s) x_1).b<(gL (dgO (vOf s) (dOf s) x_1 (oB s)) (dF (vOf s) (bB (dOf s) x_1).a) (dF (vOf s) (bB (dOf s) x_1).b)).length/\x_1=(List.take x_1 (pG s)).length/\(List.take x_1 (pG s)).length+[(dF (vOf s) (bB (dOf s) x_1).a,dF (vOf s) (bB (dOf s) x_1).b)].length<=1000000/\aJ ((x_1:Int)+1)/\dF (vOf s) (bB (dOf s) x_1).b<(gL (dgO (vOf s) (dOf s) x_1 (oB s)) (dF (vOf s) (bB (dOf s) x_1).a) (dF (vOf s) (bB (dOf s) x_1).b)).length/\(List.getD (gL (dgO (vOf s) (dOf s) x_1 (oB s)) (dF (vOf s) (bB (dOf s) x_1).a) (dF (vOf s) (bB (dOf s) x_1).b)) (dF (vOf s) (bB (dOf s) x_1).b) ([] :List Int)++[(dF (vOf s) (bB (dOf s) x_1).a:Int)]).length=(List.getD (gL (dgO (vOf s) (dOf s) x_1 (oB s)) (dF (vOf s) (bB (dOf s) x_1).a) (dF (vOf s) (bB (dOf s) x_1).b)) (dF (vOf s) (bB (dOf s) x_1).b) ([] :List Int)++[(dF (vOf s) (bB (dOf s) x_1).a:Int)]).length/\(x_1:Int)+1=((x_1+1:Nat):Int)/\(List.take x_1 (pG s)++[(dF (vOf s) (bB (dOf s) x_1).a,dF (vOf s) (bB (dOf s) x_1).b)]).length=x_1+1/\List.set (gL (dgO (vOf s) (dOf s) x_1 (oB s)) (dF (vOf s) (bB (dOf s) x_1).a) (dF (vOf s) (bB (dOf s) x_1).b)) (dF (vOf s) (bB (dOf s) x_1).b) (List.getD (gL (dgO (vOf s) (dOf s) x_1 (oB s)) (dF (vOf s) (bB (dOf s) x_1).a) (dF (vOf s) (bB (dOf s) x_1).b)) (dF (vOf s) (bB (dOf s) x_1).b) ([] :List Int)++[(dF (vOf s) (bB (dOf s) x_1).a:Int)])=dgO (vOf s) (dOf s) (x_1+1) (oB s)/\List.take x_1 (pG s)++[(dF (vOf s) (bB (dOf s) x_1).a,dF (vOf s) (bB (dOf s) x_1).b)] =List.take (x_1+1) (pG s)/\x_1+1<=(dOf s).length/\(dOf s).length-(x_1+1)<(dOf s).length-x_1))/\
    (¬(x_1:Int)<(dOf s).length->(0=(0:Int)/\dgO (vOf s) (dOf s) x_1 (oB s)=stO (vOf s) 0 (oD s)/\(0:Nat)<=(vOf s).length)/\
     (∀x_2:Nat,x_2<=(vOf s).length->((x_2:Int)<(vOf s).length->ix (x_2:Int) (vOf s).length/\x_2<(stO (vOf s) x_2 (oD s)).length/\x_2<(stO (vOf s) x_2 (oD s)).length/\(List.getD (stO (vOf s) x_2 (oD s)) x_2 ([] :List Int)).length=(List.getD (stO (vOf s) x_2 (oD s)) x_2 ([] :List Int)).length/\(0:Nat)<(List.getD (stO (vOf s) x_2 (oD s)) x_2 ([] :List Int)).length/\(List.getD (stO (vOf s) x_2 (oD s)) x_2 ([] :List Int)).length<=1000000/\(∀x:Int,x∈List.getD (stO (vOf s) x_2 (oD s)) x_2 ([] :List Int)->0<=x/\x.toNat<(vOf s).length)/\x_2<(vOf s).length/\(vOf s).length<=1000000/\(∀u:Geo.V,u∈vOf s->bd 500000000 u)/\OrdOn (ltA (vOf s) x_2) (List.getD (stO (vOf s) x_2 (oD s)) x_2 ([] :List Int))/\aJ ((x_2:Int)+1)/\(x_2:Int)+1=((x_2+1:Nat):Int)/\List.set (stO (vOf s) x_2 (oD s)) x_2 (sL (ltA (vOf s) x_2) (List.getD (stO (vOf s) x_2 (oD s)) x_2 ([] :List Int)))=stO (vOf s) (x_2+1) (oD s)/\x_2+1<=(vOf s).length/\(vOf s).length-(x_2+1)<(vOf s).length-x_2)/\
      (¬(x_2:Int)<(vOf s).length->x_1=(pG s).length/\vOf s=vOf s/\(vOf s).length=(vOf s).length/\(vOf s).length=(vOf s).length/\stO (vOf s) x_2 (oD s)=oG s/\nX s x=nG s/\List.take x_1 (pG s)=pG s))))))) (by kernel_rfl) (by
  change Fit s/\Geo.aR s=true/\GOk s at hp;obtain⟨hf,hv,hg⟩:=hp;have V:Geo.VS s:=(Geo.iZ s).1 hv;have hR:Geo.bP s=true:=by rw[<-Geo.iG];exact hv
  have c1:aH s=Geo.cY s:=if_pos hv;have f1:Fit (aH s):=by rw[c1];exact Ad hf
  have f2:0<(aH s).outer.length:=by rw[c1];exact(vJ V).1
  have f3:∀r∈(aH s).holes,0<r.length:=by rw[c1];exact(vJ V).2
  have fl:(Geo.aA (aH s)).flatten=vOf s:=by rw[c1,Kk hR];rfl
  have n80:(vOf s).length<=80:=wF s;have rl:(Geo.aA (aH s)).length<=1000:=by have:=f1.2.1;unfold Geo.aA;rw[List.length_cons];omega
  obtain⟨dl,dm⟩:=Kg hv;have vb:∀u∈vOf s,bd 500000000 u:=fun u hu=>by
   obtain⟨i,hi,rfl⟩:=Geo.fJ.1 hu;exact Jq hi (by decide)
  have hB:∀x:Nat,(x:Int)<(Geo.aA (aH s)).length->bs (Geo.aA (aH s)) x+(aC (Geo.aA (aH s)) x).length<=(vOf s).length:=fun x h=>by
   rw[Lk (by omega),<-fl];exact aFL _ _
  have oXB:∀x:Nat,(x:Int)<(Geo.aA (aH s)).length->∀c,(dC (oX s x) c).length<=200:=fun x h c=>by
   have h1:=aJe s x (by omega) c
   have h2:=hB x h;omega
  have oBB:∀c,(dC (oB s) c).length<=200:=fun c=>by
   have h1:=aJe s _ (Nat.le_refl _) c;have h2:=aFL (Geo.aA (aH s)) (Geo.aA (aH s)).length;rw[fl]at h2;have h3:(dC (oB s) c).length<=2*bs (Geo.aA (aH s)) (Geo.aA (aH s)).length:=h1;omega
  have dOB:∀k,k<=(dOf s).length->∀c,(dC (dgO (vOf s) (dOf s) k (oB s)) c).length<=13000:=fun k hk c=>by
   have:=aFE oBB (vOf s) (dOf s) k c;omega
  have rOB:∀x i:Nat,(x:Int)<(Geo.aA (aH s)).length->(i:Int)<(aC (Geo.aA (aH s)) x).length->∀c,(dC (rgO (bs (Geo.aA (aH s)) x) (aC (Geo.aA (aH s)) x).length i (oX s x)) c).length<=400:=fun x i h h2 c=>by
   have:=aAx (oXB x h) (bs (Geo.aA (aH s)) x) (aC (Geo.aA (aH s)) x).length i c;have:=hB x h;omega
  have r1:∀x i:Nat,(x:Int)<(Geo.aA (aH s)).length->(i:Int)<(aC (Geo.aA (aH s)) x).length->bs (Geo.aA (aH s)) x+i<(vOf s).length:=fun x i h h2=>by have:=hB x h;omega
  have r2:∀x i:Nat,(x:Int)<(Geo.aA (aH s)).length->(i:Int)<(aC (Geo.aA (aH s)) x).length->bs (Geo.aA (aH s)) x+(i+1) % (aC (Geo.aA (aH s)) x).length<(vOf s).length:=fun x i h h2=>by
   have:=hB x h;have:=Nat.mod_lt (i+1) (show 0<(aC (Geo.aA (aH s)) x).length by omega)
   omega
  have t1:∀x i:Nat,(x:Int)<(Geo.aA (aH s)).length->(i:Int)<(aC (Geo.aA (aH s)) x).length->aJ ((bs (Geo.aA (aH s)) x:Int)+i):=fun x i h h2=>cP (by have:=r1 x i h h2;omega)
  have t2:∀x i:Nat,(x:Int)<(Geo.aA (aH s)).length->(i:Int)<(aC (Geo.aA (aH s)) x).length->aJ ((i:Int)+1):=fun x i h h2=>cP (by have:=r1 x i h h2;omega)
  have t3:∀x i:Nat,(x:Int)<(Geo.aA (aH s)).length->(i:Int)<(aC (Geo.aA (aH s)) x).length->aJ ((bs (Geo.aA (aH s)) x:Int)+(((i+1) % (aC (Geo.aA (aH s)) x).length:Nat):Int)):=fun x i h h2=>cP (by have:=r2 x i h h2;omega)
  have t4:∀x i:Nat,(x:Int)<(Geo.aA (aH s)).length->(i:Int)<(aC (Geo.aA (aH s)) x).length->ix ((bs (Geo.aA (aH s)) x+i:Nat):Int) (vOf s).length:=fun x i h h2=>eE (r1 x i h h2)
  have t5:∀x i:Nat,(x:Int)<(Geo.aA (aH s)).length->(i:Int)<(aC (Geo.aA (aH s)) x).length->ix ((bs (Geo.aA (aH s)) x+(i+1) % (aC (Geo.aA (aH s)) x).length:Nat):Int) (vOf s).length:=fun x i h h2=>eE (r2 x i h h2)
  have rl2:∀x i:Nat,(rgO (bs (Geo.aA (aH s)) x) ((aC (Geo.aA (aH s)) x).length) i (oX s x)).length=(vOf s).length:=fun x i=>(Ks _ _ _ i).trans (aA2 s x)
  have nl2:∀x i:Nat,(rgN x (bs (Geo.aA (aH s)) x) (aC (Geo.aA (aH s)) x).length i (nX s x)).length=(vOf s).length:=fun x i=>(Kt _ _ _ _ i).trans (Rq s x)
  have t6:∀x i:Nat,(x:Int)<(Geo.aA (aH s)).length->(i:Int)<(aC (Geo.aA (aH s)) x).length->bs (Geo.aA (aH s)) x+i<(rgO (bs (Geo.aA (aH s)) x) ((aC (Geo.aA (aH s)) x).length) i (oX s x)).length:=fun x i h h2=>by rw[rl2];exact r1 x i h h2
  have t7:∀x i a b:Nat,(x:Int)<(Geo.aA (aH s)).length->(i:Int)<(aC (Geo.aA (aH s)) x).length->bs (Geo.aA (aH s)) x+(i+1) % (aC (Geo.aA (aH s)) x).length<(gL (rgO (bs (Geo.aA (aH s)) x) ((aC (Geo.aA (aH s)) x).length) i (oX s x)) a b).length:=fun x i a b h h2=>by rw[yJ,rl2];exact r2 x i h h2
  have t8:∀x i c:Nat,∀z:Int,(x:Int)<(Geo.aA (aH s)).length->(i:Int)<(aC (Geo.aA (aH s)) x).length->((rgO (bs (Geo.aA (aH s)) x) ((aC (Geo.aA (aH s)) x).length) i (oX s x)).getD c []).length+[z].length<=1000000:=fun x i c z h h2=>by
   have:((rgO (bs (Geo.aA (aH s)) x) ((aC (Geo.aA (aH s)) x).length) i (oX s x)).getD c []).length<=400:=rOB x i h h2 c;simp only[List.length_singleton];omega
  have t9:∀x i a b c:Nat,∀z:Int,(x:Int)<(Geo.aA (aH s)).length->(i:Int)<(aC (Geo.aA (aH s)) x).length->((gL (rgO (bs (Geo.aA (aH s)) x) ((aC (Geo.aA (aH s)) x).length) i (oX s x)) a b).getD c []).length+[z].length<=1000000:=fun x i a b c z h h2=>by
   have:((gL (rgO (bs (Geo.aA (aH s)) x) ((aC (Geo.aA (aH s)) x).length) i (oX s x)) a b).getD c []).length<=401:=Ki (rOB x i h h2) a b c;simp only[List.length_singleton];omega
  have t10:∀x i:Nat,(x:Int)<(Geo.aA (aH s)).length->(i:Int)<(aC (Geo.aA (aH s)) x).length->bs (Geo.aA (aH s)) x+i<(rgN x (bs (Geo.aA (aH s)) x) (aC (Geo.aA (aH s)) x).length i (nX s x)).length:=fun x i h h2=>by rw[nl2];exact r1 x i h h2
  have t11:∀x i:Nat,(x:Int)<(Geo.aA (aH s)).length->(i:Int)<(aC (Geo.aA (aH s)) x).length->bs (Geo.aA (aH s)) x+(i+1) % (aC (Geo.aA (aH s)) x).length<(rgN x (bs (Geo.aA (aH s)) x) (aC (Geo.aA (aH s)) x).length i (nX s x)).length:=fun x i h h2=>by rw[nl2];exact r2 x i h h2
  have t12:∀x i:Nat,(x:Int)=0->(rgN x (bs (Geo.aA (aH s)) x) (aC (Geo.aA (aH s)) x).length i (nX s x)).set (bs (Geo.aA (aH s)) x+i) ((bs (Geo.aA (aH s)) x+(i+1) % (aC (Geo.aA (aH s)) x).length:Nat):Int)=rgN x (bs (Geo.aA (aH s)) x) ((aC (Geo.aA (aH s)) x).length) (i+1) (nX s x):=fun x i h=>(if_pos (show x=0 by omega)).symm
  have t13:∀x i:Nat,¬(x:Int)=0->(rgN x (bs (Geo.aA (aH s)) x) (aC (Geo.aA (aH s)) x).length i (nX s x)).set (bs (Geo.aA (aH s)) x+(i+1) % (aC (Geo.aA (aH s)) x).length) ((bs (Geo.aA (aH s)) x+i:Nat):Int)=rgN x (bs (Geo.aA (aH s)) x) ((aC (Geo.aA (aH s)) x).length) (i+1) (nX s x):=fun x i h=>(if_neg (show¬x=0 by omega)).symm
  have t14:∀x:Nat,(x:Int)<(Geo.aA (aH s)).length->aJ ((bs (Geo.aA (aH s)) x:Int)+(aC (Geo.aA (aH s)) x).length):=fun x h=>cP (by have:=hB x h;omega)
  have t15:∀x:Nat,(x:Int)<(Geo.aA (aH s)).length->(bs (Geo.aA (aH s)) x:Int)+(aC (Geo.aA (aH s)) x).length=(bs (Geo.aA (aH s)) (x+1):Int):=fun x h=>by rw[<-Lk (show x<(Geo.aA (aH s)).length by omega)];omega
  have t16:∀x i:Nat,¬(i:Int)<(aC (Geo.aA (aH s)) x).length->i<=(aC (Geo.aA (aH s)) x).length->rgO (bs (Geo.aA (aH s)) x) ((aC (Geo.aA (aH s)) x).length) i (oX s x)=oX s (x+1):=fun x i h h2=>by rw[show i=(aC (Geo.aA (aH s)) x).length by omega];rfl
  have t17:∀x i:Nat,¬(i:Int)<(aC (Geo.aA (aH s)) x).length->i<=(aC (Geo.aA (aH s)) x).length->rgN x (bs (Geo.aA (aH s)) x) (aC (Geo.aA (aH s)) x).length i (nX s x)=nX s (x+1):=fun x i h h2=>by rw[show i=(aC (Geo.aA (aH s)) x).length by omega];rfl
  have t18:∀x:Nat,¬(x:Int)<(Geo.aA (aH s)).length->x<=(Geo.aA (aH s)).length->oX s x=oB s:=fun x h h2=>by rw[show x=(Geo.aA (aH s)).length by omega];rfl
  have t19:∀x:Nat,¬(x:Int)<(Geo.aA (aH s)).length->x<=(Geo.aA (aH s)).length->nX s x=nG s:=fun x h h2=>by rw[show x=(Geo.aA (aH s)).length by omega];rfl
  have d0:∀x:Nat,(x:Int)<(dOf s).length->bB (dOf s) x∈dOf s:=fun x h=>by rw[gP (show x<(dOf s).length by omega)];exact List.getElem_mem _
  have d1:∀x:Nat,(x:Int)<(dOf s).length->(bB (dOf s) x).a∈vOf s:=fun x h=>(dm _ (d0 x h)).1
  have d2:∀x:Nat,(x:Int)<(dOf s).length->(bB (dOf s) x).b∈vOf s:=fun x h=>(dm _ (d0 x h)).2
  have d3:∀x:Nat,(x:Int)<(dOf s).length->ix (dF (vOf s) (bB (dOf s) x).a:Int) (vOf s).length:=fun x h=>eE (uO (d1 x h))
  have d4:∀x:Nat,(x:Int)<(dOf s).length->ix (dF (vOf s) (bB (dOf s) x).b:Int) (vOf s).length:=fun x h=>eE (uO (d2 x h))
  have dl2:∀x:Nat,(dgO (vOf s) (dOf s) x (oB s)).length=(vOf s).length:=fun x=>(Lh _ _ _ x).trans (aA3 s)
  have d5:∀x:Nat,(x:Int)<(dOf s).length->dF (vOf s) (bB (dOf s) x).a<(dgO (vOf s) (dOf s) x (oB s)).length:=fun x h=>by rw[dl2];exact uO (d1 x h)
  have d6:∀x a b:Nat,(x:Int)<(dOf s).length->dF (vOf s) (bB (dOf s) x).b<(gL (dgO (vOf s) (dOf s) x (oB s)) a b).length:=fun x a b h=>by rw[yJ,dl2];exact uO (d2 x h)
  have d7:∀x c:Nat,∀z:Int,(x:Int)<(dOf s).length->((dgO (vOf s) (dOf s) x (oB s)).getD c []).length+[z].length<=1000000:=fun x c z h=>by
   have:((dgO (vOf s) (dOf s) x (oB s)).getD c []).length<=13000:=dOB x (by omega) c
   simp only[List.length_singleton];omega
  have d8:∀x a b c:Nat,∀z:Int,(x:Int)<(dOf s).length->((gL (dgO (vOf s) (dOf s) x (oB s)) a b).getD c []).length+[z].length<=1000000:=fun x a b c z h=>by
   have:((gL (dgO (vOf s) (dOf s) x (oB s)) a b).getD c []).length<=13001:=Ki (dOB x (by omega)) a b c
   simp only[List.length_singleton];omega
  have pl:(pG s).length=(dOf s).length:=List.length_map ..;have d9:∀x:Nat,x<=(dOf s).length->(List.take x (pG s)).length=x:=fun x h=>by rw[List.length_take];omega
  have d10:∀x:Nat,(x:Int)<(dOf s).length->List.take x (pG s)++[(dF (vOf s) (bB (dOf s) x).a,dF (vOf s) (bB (dOf s) x).b)] =List.take (x+1) (pG s):=fun x h=>by
   rw[List.take_succ_eq_append_getElem (show x<(pG s).length by omega)]
   unfold pG dgP;rw[List.getElem_map,gP (show x<(dOf s).length by omega)]
  have d11:∀x:Nat,¬(x:Int)<(dOf s).length->x<=(dOf s).length->dgO (vOf s) (dOf s) x (oB s)=oD s:=fun x h h2=>by rw[show x=(dOf s).length by omega];rfl
  have d12:∀x:Nat,¬(x:Int)<(dOf s).length->x<=(dOf s).length->x=(pG s).length:=fun x h h2=>by omega
  have d13:∀x:Nat,¬(x:Int)<(dOf s).length->List.take x (pG s)=pG s:=fun x h=>List.take_of_length_le (by omega)
  have s0:∀x:Nat,(x:Int)<(vOf s).length->(stO (vOf s) x (oD s)).getD x [] =dC (oD s) x:=fun x h=>by
   have:=Re (vOf s) (oD s) x x (by rw[Rp];omega)
   rw[if_neg (Nat.lt_irrefl x)]at this;exact this
  have s1:∀x:Nat,(x:Int)<(vOf s).length->x<(stO (vOf s) x (oD s)).length:=fun x h=>by rw[Ca,Rp];omega
  have s2:∀x:Nat,(x:Int)<(vOf s).length->0<((stO (vOf s) x (oD s)).getD x []).length:=fun x h=>by rw[s0 x h];exact(hg x (by omega)).1
  have s3:∀x:Nat,(x:Int)<(vOf s).length->((stO (vOf s) x (oD s)).getD x []).length<=1000000:=fun x h=>by
   rw[s0 x h];have:=dOB _ (Nat.le_refl _) x;have h2:(dC (oD s) x).length<=13000:=this;omega
  have s4:∀x:Nat,(x:Int)<(vOf s).length->∀y∈(stO (vOf s) x (oD s)).getD x [],0<=y/\y.toNat<(vOf s).length:=fun x h=>by rw[s0 x h];exact(hg x (by omega)).2.1
  have s5:∀x:Nat,(x:Int)<(vOf s).length->OrdOn (ltA (vOf s) x) ((stO (vOf s) x (oD s)).getD x []):=fun x h=>by rw[s0 x h];exact(hg x (by omega)).2.2
  have s6:∀x:Nat,¬(x:Int)<(vOf s).length->x<=(vOf s).length->stO (vOf s) x (oD s)=oG s:=fun x h h2=>by rw[show x=(vOf s).length by omega];rfl
  have w1:∀x:Nat,x<=(vOf s).length->aJ ((x:Int)+1):=fun x h=>cP (by omega)
  clear hB oXB oBB dOB rOB fl c1 V hR hg
  repeat' first|with_reducible apply And.intro|with_reducible intro
  all_goals repeat with_reducible cases‹_/\_›
  all_goals first|assumption|rfl|omega|(unfold ix;omega)|(unfold aJ;omega)|exact f3 _ ‹_› |exact t1 _ _ ‹_› ‹_› |exact t2 _ _ ‹_› ‹_› |exact t3 _ _ ‹_› ‹_› |exact t4 _ _ ‹_› ‹_› |exact t5 _ _ ‹_› ‹_› |exact t6 _ _ ‹_› ‹_› |exact t7 _ _ _ _ ‹_› ‹_› |exact t8 _ _ _ _ ‹_› ‹_› |exact t9 _ _ _ _ _ _ ‹_› ‹_› |exact t10 _ _ ‹_› ‹_› |exact t11 _ _ ‹_› ‹_› |exact t12 _ _ ‹_› |exact t13 _ _ ‹_› |exact t14 _ ‹_› |exact t15 _ ‹_› |exact t16 _ _ ‹_› ‹_› |exact t17 _ _ ‹_› ‹_› |exact t18 _ ‹_› ‹_› |exact t19 _ ‹_› ‹_› |exact d1 _ ‹_› |exact d2 _ ‹_› |exact d3 _ ‹_› |exact d4 _ ‹_› |exact d5 _ ‹_› |exact d6 _ _ _ ‹_› |exact d7 _ _ _ ‹_› |exact d8 _ _ _ _ _ ‹_› |exact(d9 _ ‹_›).symm|(rw[d9 _ ‹_›];simp;omega)|(rw[List.length_append,d9 _ ‹_›];rfl)|exact d10 _ ‹_› |exact d11 _ ‹_› ‹_› |exact d12 _ ‹_› ‹_› |exact d13 _ ‹_› |exact s1 _ ‹_› |exact s2 _ ‹_› |exact s3 _ ‹_› |exact(s4 _ ‹_› _ ‹_›).1|exact(s4 _ ‹_› _ ‹_›).2|exact vb _ ‹_› |exact s5 _ ‹_› |exact s6 _ ‹_› ‹_›)
def aIf:Tab:=cC [(171,aJS)] aIV
theorem aEu:aIf.Ok Tryz.prog:=aK aFb ⟨aMc,trivial⟩
end
end Go.Proofs.YtdaeofhdgabhjaaGreat
namespace Go.Proofs.YtdaeofhdgabhjaaGreat
open Go.RowKit
set_option maxRecDepth 100000
noncomputable section
def kM(v:List Geo.V)(L:List (List Int))(i j:Nat):Bool:=decide (0<=Geo.cT (Geo.nth v i) (Geo.nth v (fV L i j (-1))) (Geo.nth v (fV L i j 1)))
structure ArOk(v:List Geo.V)(L:List (List Int))(i j:Nat):Prop where
 iL:i<L.length
 mem:(j:Int)∈dC L i
 rng:∀x∈dC L i,0<=x/\x.toNat<v.length
 len:(dC L i).length<=1000000
theorem ArOk.around{v:List Geo.V}{L:List (List Int)}{i j:Nat}(h:ArOk v L i j)(st:Int):((fV L i j st:Nat):Int)∈dC L i/\fV L i j st<v.length:=by
 unfold fV;dsimp only;have h0:0<(dC L i).length:=List.length_pos_of_mem h.mem;generalize ((rW (dC L i) (j:Int):Int)+st+(dC L i).length).toNat=k;have hm:iI (dC L i) (k % (dC L i).length)∈dC L i:=by
  rw[show iI (dC L i) (k % (dC L i).length)=_ from pD (Nat.mod_lt _ h0)];exact List.getElem_mem _
 obtain⟨h1,h2⟩:=h.rng _ hm;exact⟨by rw[Int.toNat_of_nonneg h1];exact hm,h2⟩
def aJR:Con:=con (ac aGr (ac aN (a1 aN))) (fun(g,i,j)=>[g.1.length<=1000000,g.2.1.length<=g.1.length,(∀u∈g.1,bd 1000000000 u),ArOk g.1 g.2.1 i j]) (fun(g,i,j)=> .bool (kM g.1 g.2.1 i j)
 )
theorem aMb:aJR.Ok Tryz.prog 172:=aX (bK aEu) (raw:=bO) (fun(_,_,_)=>[]) (fun(_,_,_)=>⟨_,rfl⟩) fun(g,i,j) hp=>bL (q:=g.fst.length<=1000000/\g.2.fst.length<=1000000/\i<g.2.fst.length/\(j:Int)∈dC g.2.fst i/\(dC g.2.fst i).length<=1000000/\(∀x:Int,x∈dC g.2.fst i->0<=x)/\((-1:Int)=1\/(-1:Int)= -1)/\g.fst.length<=1000000/\g.2.fst.length<=1000000/\i<g.2.fst.length/\(j:Int)∈dC g.2.fst i/\(dC g.2.fst i).length<=1000000/\(∀x:Int,x∈dC g.2.fst i->0<=x)/\((1:Int)=1\/(1:Int)= -1)/\ix (i:Int) g.1.length/\ix (fV g.2.fst i j (-1):Int) g.1.length/\ix (fV g.2.fst i j 1:Int) g.1.length/\bd 1000000000 (Geo.nth g.1 i)/\bd 1000000000 (Geo.nth g.1 (fV g.2.fst i j (-1)))/\bd 1000000000 (Geo.nth g.1 (fV g.2.fst i j 1))/\decide (0<=Geo.cT (Geo.nth g.1 i) (Geo.nth g.1 (fV g.2.fst i j (-1))) (Geo.nth g.1 (fV g.2.fst i j 1)))=kM g.1 g.2.1 i j) (by kernel_rfl) (by
 change g.1.length<=1000000/\g.2.1.length<=g.1.length/\((∀u∈g.1,bd 1000000000 u))/\ArOk g.1 g.2.1 i j at hp;obtain⟨h1,h2,h3,h4⟩:=hp;have a1:=(h4.around (-1)).2;have a2:=(h4.around 1).2;have bN:∀i:Nat,i<g.1.length->bd 1000000000 (Geo.nth g.1 i):=fun i h=>h3 _ (Geo.dV h)
 have r:∀x∈dC g.2.1 i,0<=x:=fun x hx=>(h4.rng x hx).1
 have iL:=h4.iL;have iv:i<g.1.length:=by omega
 have l2:g.2.1.length<=1000000:=by omega
 exact⟨h1,l2,iL,h4.mem,h4.len,r,.inr rfl,h1,l2,iL,h4.mem,h4.len,r,.inl rfl,eE iv,eE a1,eE a2,bN _ iv,bN _ a1,bN _ a2,rfl⟩)
def aIe:Tab:=cC [(172,aJR)] aIf
theorem aEt:aIe.Ok Tryz.prog:=aK aEu ⟨aMb,trivial⟩
def Va(l:List Int)(q:Int):List Int:=l.filter fun y=> !(y==q)
def aAF(L:List (List Int))(i j:Nat):List (List Int):=(L.set j (Va (dC L j) i)).set i (Va (dC L i) j)
def stS(v:List Geo.V)(P:List (Nat×Nat)):Nat->List (List Int)->List (List Int)×List (Nat×Nat)
 |0,L=>(L,[])
 |k+1,L=>
  let r:=stS v P k L
  let p:=bF P k
  if kM v r.1 p.1 p.2=true/\kM v r.1 p.2 p.1=true then(aAF r.1 p.1 p.2,r.2)else(r.1,r.2++[p])
def sG(s:Geo.Shape)(k:Nat):List (List Int)×List (Nat×Nat):=stS (vOf s) (pG s) k (oG s)
def soG(s:Geo.Shape):List (List Int):=(sG s (pG s).length).1
def spG(s:Geo.Shape):List (Nat×Nat):=(sG s (pG s).length).2
theorem Vi(v:List Geo.V)(P:List (Nat×Nat))(L:List (List Int)):∀k,(stS v P k L).1.length=L.length
 |0=>rfl
 |k+1=>by
  have:=Vi v P L k;unfold stS;dsimp only;split
  ·unfold aAF;rw[List.length_set,List.length_set];exact this
  ·exact this
theorem aAY(s:Geo.Shape)(k:Nat):(sG s k).1.length=(vOf s).length:=(Vi _ _ _ k).trans (aGN s)
theorem Rb(v:List Geo.V)(P:List (Nat×Nat))(L:List (List Int)):∀k,(stS v P k L).2.length<=k
 |0=>Nat.le_refl _
 |k+1=>by
  have:=Rb v P L k;unfold stS;dsimp only;split
  ·dsimp only;omega
  ·rw[List.length_append];simp;omega
theorem aAX{s:Geo.Shape}{k:Nat}(h1:kM (vOf s) (sG s k).1 (bF (pG s) k).1 (bF (pG s) k).2=true)(h2:kM (vOf s) (sG s k).1 (bF (pG s) k).2 (bF (pG s) k).1=true):
 sG s (k+1)=(aAF (sG s k).1 (bF (pG s) k).1 (bF (pG s) k).2,(sG s k).2):=if_pos ⟨h1,h2⟩
theorem Uq{s:Geo.Shape}{k:Nat}(h:kM (vOf s) (sG s k).1 (bF (pG s) k).1 (bF (pG s) k).2=false\/kM (vOf s) (sG s k).1 (bF (pG s) k).2 (bF (pG s) k).1=false):
  sG s (k+1)=((sG s k).1,(sG s k).2++[((bF (pG s) k).1,(bF (pG s) k).2)]):=if_neg fun h2=>by
 rcases h with h|h
 ·exact absurd (h.symm.trans h2.1) (by decide)
 ·exact absurd (h.symm.trans h2.2) (by decide)
theorem aKY{s:Geo.Shape}(hv:Geo.aR s=true){p:Nat×Nat}(h:p∈pG s):p.1<(vOf s).length/\p.2<(vOf s).length:=by
 obtain⟨d,hd,rfl⟩:=List.mem_map.1 h;obtain⟨h1,h2⟩:=(Kg hv).2 d hd;exact⟨uO h1,uO h2⟩
theorem aAZ(s:Geo.Shape):(pG s).length=(dOf s).length:=List.length_map ..
def SOk(s:Geo.Shape):Prop:=∀k,k<(pG s).length->ArOk (vOf s) (sG s k).1 (bF (pG s) k).1 (bF (pG s) k).2/\ArOk (vOf s) (sG s k).1 (bF (pG s) k).2 (bF (pG s) k).1/\(bF (pG s) k).2≠(bF (pG s) k).1
def aKx:Con:=aGg (a1 aSh) (fun s=>[Fit s,Geo.aR s=true,GOk s,SOk s]) (fun s=> .tup [.ptr 60 0,.own 20000005 .P (spG s).length]) (fun s=>[(60,some (.box 114 [.lst .V (vOf s),.owF 15000005 (vOf s).length,.own 18000005 .I (vOf s).length])),(15000005,some (.fam 112 3 .I (soG s) [])),(18000005,some (.row 3 .I (nG s))),(20000005,some (.row 67 .P (spG s)))])
set_option maxHeartbeats 4000000 in
theorem aMR:aKx.Ok Tryz.prog 114:=Wr (bK aEt) (st:=true) (raw:=bO) (fun s=>[(10003,.mk Unit (fun _ _=>some ()) [60,20000005] (fun _=>[]) (fun _=>[(4,.ptr 60 0),(6,.own 20000005 .P 0)]) (fun _=>[(60,.box 114 [.lst .V (vOf s),.owF 15000005 (vOf s).length,.own 18000005 .I (vOf s).length]),(20000005,.row 67 .P [])]) (fun _=>0) (fun _=>[])),
  lp 4 16 (pG s).length (fun _=>[]) [20000005] (fun k=>[(6,.own 20000005 .P (sG s k).2.length)]) (fun k=>[(15000005,.fam 112 3 .I (sG s k).1 []),(20000005,.row 67 .P (sG s k).2),(0,.box 0 [.undef])])]
  ) fun s hp=>bL (q:=Fit s/\Geo.aR s=true/\GOk s/\((0:Nat)=0/\vOf s=vOf s/\(vOf s).length=(vOf s).length/\(vOf s).length=(vOf s).length/\([] :List (Prod Nat Nat))=([] :List (Prod Nat Nat)))/\
 (∀y:Unit,(0=(0:Int)/\(0:Nat)=([] :List (Prod Nat Nat)).length/\oG s=oG s/\([] :List (Prod Nat Nat))=([] :List (Prod Nat Nat))/\(0:Nat)<=(pG s).length)/\
  (∀x:Nat,x<=(pG s).length->((x:Int)<(pG s).length->ix (x:Int) (pG s).length/\x<(pG s).length/\ix 0 2/\ix 1 2/\(vOf s).length=(sG s x).1.length/\(vOf s).length=(nG s).length/\(vOf s).length<=1000000/\(sG s x).fst.length<=(vOf s).length/\(∀u:Geo.V,u∈vOf s->bd 1000000000 u)/\ArOk (vOf s) (sG s x).fst (bF (pG s) x).1 (bF (pG s) x).2/\(kM (vOf s) (sG s x).fst (bF (pG s) x).1 (bF (pG s) x).2=true->ix 1 2/\ix 0 2/\(vOf s).length=(sG s x).1.length/\(vOf s).length=(nG s).length/\(vOf s).length<=1000000/\(sG s x).fst.length<=(vOf s).length/\(∀u:Geo.V,u∈vOf s->bd 1000000000 u)/\ArOk (vOf s) (sG s x).fst (bF (pG s) x).2 (bF (pG s) x).1/\(kM (vOf s) (sG s x).fst (bF (pG s) x).2 (bF (pG s) x).1=true->ix 0 2/\ix 1 2/\ix ((bF (pG s) x).1:Int) (vOf s).length/\(bF (pG s) x).1<(sG s x).1.length/\(bF (pG s) x).1<(sG s x).1.length/\(List.getD (sG s x).1 (bF (pG s) x).1 ([] :List Int)).length=(List.getD (sG s x).1 (bF (pG s) x).1 ([] :List Int)).length/\(0:Nat)<(List.getD (sG s x).1 (bF (pG s) x).1 ([] :List Int)).length/\(List.getD (sG s x).1 (bF (pG s) x).1 ([] :List Int)).length<=1000000/\ix ((bF (pG s) x).1:Int) (vOf s).length/\(bF (pG s) x).1=(bF (pG s) x).1/\(bF (pG s) x).1<(sG s x).1.length/\ix ((bF (pG s) x).2:Int) (vOf s).length/\(bF (pG s) x).2<(sG s x).1.length/\(bF (pG s) x).2≠((bF (pG s) x).1,SV.ownf 15000005 LT.I (bF (pG s) x).1 (List.getD (sG s x).1 (bF (pG s) x).1 ([] :List Int)).length).fst/\(bF (pG s) x).2<(sG s x).1.length/\(List.getD (sG s x).1 (bF (pG s) x).2 ([] :List Int)).length=(List.getD (sG s x).1 (bF (pG s) x).2 ([] :List Int)).length/\(0:Nat)<(List.getD (sG s x).1 (bF (pG s) x).2 ([] :List Int)).length/\(bF (pG s) x).2≠((bF (pG s) x).1,SV.ownf 15000005 LT.I (bF (pG s) x).1 (List.getD (sG s x).1 (bF (pG s) x).1 ([] :List Int)).length).fst/\(List.getD (sG s x).1 (bF (pG s) x).2 ([] :List Int)).length<=1000000/\ix ((bF (pG s) x).2:Int) (vOf s).length/\(bF (pG s) x).2=(bF (pG s) x).2/\(bF (pG s) x).2<(sG s x).1.length/\aJ ((x:Int)+1)/\(bF (pG s) x).2<(sG s x).1.length/\(List.filter (fun y=>(!y==((bF (pG s) x).1:Int))) (List.getD (sG s x).1 (bF (pG s) x).2 ([] :List Int))).length=(List.filter (fun y=>(!y==((bF (pG s) x).1:Int))) (List.getD (sG s x).1 (bF (pG s) x).2 ([] :List Int))).length/\(bF (pG s) x).2≠((bF (pG s) x).1,SV.ownf 15000005 LT.I (bF (pG s) x).1 (List.getD (sG s x).1 (bF (pG s) x).1 ([] :List Int)).length).fst/\(bF (pG s) x).1<(List.set (sG s x).1 (bF (pG s) x).2 (List.filter (fun y=>(!y==((bF (pG s) x).1:Int))) (List.getD (sG s x).1 (bF (pG s) x).2 ([] :List Int)))).length/\(List.filter (fun y=>(!y==((bF (pG s) x).2:Int))) (List.getD (sG s x).1 (bF (pG s) x).1 ([] :List Int))).length=(List.filter (fun y=>(!y==((bF (pG s) x).2:Int))) (List.getD (sG s x).1 (bF (pG s) x).1 ([] :List Int))).length/\(x:Int)+1=((x+1:Nat):Int)/\(sG s x).2.length=(sG s (x+1)).2.length/\List.set (List.set (sG s x).1 (bF (pG s) x).2 (List.filter (fun y=>(!y==((bF (pG s) x).1:Int))) (List.getD (sG s x).1 (bF (pG s) x).2 ([] :List Int)))) (bF (pG s) x).1 (List.filter (fun y=>(!y==((bF (pG s) x).2:Int))) (List.getD (sG s x).1 (bF (pG s) x).1 ([] :List Int)))=(sG s (x+1)).1/\(sG s x).2=(sG s (x+1)).2/\x+1<=(pG s).length/\(pG s).length-(x+1)<(pG s).length-x)/\
     (kM (vOf s) (sG s x).fst (bF (pG s) x).2 (bF (pG s) x).1=false->(sG s x).2.length=(sG s x).2.length/\(sG s x).2.length+[((bF (pG s) x).1,(bF (pG s) x).2)].length<=1000000/\aJ ((x:Int)+1)/\(x:Int)+1=((x+1:Nat):Int)/\((sG s x).2++[((bF (pG s) x).1,(bF (pG s) x).2)]).length=(sG s (x+1)).2.length/\(sG s x).1=(sG s (x+1)).1/\(sG s x).2++[((bF (pG s) x).1,(bF (pG s) x).2)] =(sG s (x+1)).2/\x+1<=(pG s).length/\(pG s).length-(x+1)<(pG s).length-x))/\
    (kM (vOf s) (sG s x).fst (bF (pG s) x).1 (bF (pG s) x).2=false->(sG s x).2.length=(sG s x).2.length/\(sG s x).2.length+[((bF (pG s) x).1,(bF (pG s) x).2)].length<=1000000/\aJ ((x:Int)+1)/\(x:Int)+1=((x+1:Nat):Int)/\((sG s x).2++[((bF (pG s) x).1,(bF (pG s) x).2)]).length=(sG s (x+1)).2.length/\(sG s x).1=(sG s (x+1)).1/\(sG s x).2++[((bF (pG s) x).1,(bF (pG s) x).2)] =(sG s (x+1)).2/\x+1<=(pG s).length/\(pG s).length-(x+1)<(pG s).length-x))/\
   (¬(x:Int)<(pG s).length->(sG s x).2.length=(spG s).length/\vOf s=vOf s/\(vOf s).length=(vOf s).length/\(vOf s).length=(vOf s).length/\(sG s x).1=soG s/\nG s=nG s/\(sG s x).2=spG s)))) (by kernel_rfl) (by
  change Fit s/\Geo.aR s=true/\GOk s/\SOk s at hp;obtain⟨hf,hv,hg,hs⟩:=hp;have n80:(vOf s).length<=80:=wF s;have pl:(pG s).length<=6400:=by rw[aAZ];exact(Kg hv).1
  have vb:∀u∈vOf s,bd 1000000000 u:=fun u hu=>by
   obtain⟨i,hi,rfl⟩:=Geo.fJ.1 hu;exact Jq hi (by decide)
  have nl:(nG s).length=(vOf s).length:=Rq s _;have gl:=aAY s;have p1:∀x:Nat,(x:Int)<(pG s).length->(bF (pG s) x).1<(vOf s).length/\(bF (pG s) x).2<(vOf s).length:=fun x h=>aKY hv (by rw[uM (by omega)];exact List.getElem_mem _)
  have hS:∀x:Nat,(x:Int)<(pG s).length->_:=fun x h=>hs x (by omega)
  have q1:∀x:Nat,(x:Int)<(pG s).length->0<(List.getD (sG s x).1 (bF (pG s) x).1 ([] :List Int)).length:=fun x h=>List.length_pos_of_mem (hS x h).1.mem
  have q2:∀x:Nat,(x:Int)<(pG s).length->0<(List.getD (sG s x).1 (bF (pG s) x).2 ([] :List Int)).length:=fun x h=>List.length_pos_of_mem (hS x h).2.1.mem
  have q3:∀x:Nat,(x:Int)<(pG s).length->(List.getD (sG s x).1 (bF (pG s) x).1 ([] :List Int)).length<=1000000:=fun x h=>(hS x h).1.len
  have q4:∀x:Nat,(x:Int)<(pG s).length->(List.getD (sG s x).1 (bF (pG s) x).2 ([] :List Int)).length<=1000000:=fun x h=>(hS x h).2.1.len
  have q5:∀x:Nat,x<=(pG s).length->(sG s x).2.length<=6400:=fun x h=>by have:(sG s x).2.length<=x:=Rb _ _ _ x;omega
  have a1:∀x:Nat,(vOf s).length=(sG s x).1.length:=fun x=>(gl x).symm
  have a2:∀x:Nat,(sG s x).1.length<=(vOf s).length:=fun x=>Nat.le_of_eq (gl x)
  have a3:∀x:Nat,(x:Int)<(pG s).length->ArOk (vOf s) (sG s x).1 (bF (pG s) x).1 (bF (pG s) x).2:=fun x h=>(hS x h).1
  have a4:∀x:Nat,(x:Int)<(pG s).length->ArOk (vOf s) (sG s x).1 (bF (pG s) x).2 (bF (pG s) x).1:=fun x h=>(hS x h).2.1
  have a5:∀x:Nat,(x:Int)<(pG s).length->ix ((bF (pG s) x).1:Int) (vOf s).length:=fun x h=>eE (p1 x h).1
  have a6:∀x:Nat,(x:Int)<(pG s).length->ix ((bF (pG s) x).2:Int) (vOf s).length:=fun x h=>eE (p1 x h).2
  have a7:∀x:Nat,(x:Int)<(pG s).length->(bF (pG s) x).1<(sG s x).1.length:=fun x h=>by rw[gl];exact(p1 x h).1
  have a8:∀x:Nat,(x:Int)<(pG s).length->(bF (pG s) x).2<(sG s x).1.length:=fun x h=>by rw[gl];exact(p1 x h).2
  have a9:∀x:Nat,(x:Int)<(pG s).length->(bF (pG s) x).2≠(bF (pG s) x).1:=fun x h=>(hS x h).2.2
  have b1:∀x j:Nat,∀l:List Int,(x:Int)<(pG s).length->(bF (pG s) x).1<((sG s x).1.set j l).length:=fun x j l h=>by rw[List.length_set];exact a7 x h
  have b2:∀x:Nat,kM (vOf s) (sG s x).1 (bF (pG s) x).1 (bF (pG s) x).2=true->kM (vOf s) (sG s x).1 (bF (pG s) x).2 (bF (pG s) x).1=true->List.set (List.set (sG s x).1 (bF (pG s) x).2 (List.filter (fun y=>(!y==((bF (pG s) x).1:Int))) (List.getD (sG s x).1 (bF (pG s) x).2 ([] :List Int)))) (bF (pG s) x).1 (List.filter (fun y=>(!y==((bF (pG s) x).2:Int))) (List.getD (sG s x).1 (bF (pG s) x).1 ([] :List Int)))=(sG s (x+1)).1:=fun x h h2=>by rw[aAX h h2];rfl
  have b3:∀x:Nat,kM (vOf s) (sG s x).1 (bF (pG s) x).1 (bF (pG s) x).2=true->kM (vOf s) (sG s x).1 (bF (pG s) x).2 (bF (pG s) x).1=true->(sG s x).2=(sG s (x+1)).2:=fun x h h2=>by rw[aAX h h2]
  have b4:∀x:Nat,kM (vOf s) (sG s x).1 (bF (pG s) x).1 (bF (pG s) x).2=false->(sG s x).1=(sG s (x+1)).1:=fun x h=>by rw[Uq (.inl h)]
  have b5:∀x:Nat,kM (vOf s) (sG s x).1 (bF (pG s) x).2 (bF (pG s) x).1=false->(sG s x).1=(sG s (x+1)).1:=fun x h=>by rw[Uq (.inr h)]
  have b6:∀x:Nat,kM (vOf s) (sG s x).1 (bF (pG s) x).1 (bF (pG s) x).2=false->(sG s x).2++[((bF (pG s) x).1,(bF (pG s) x).2)] =(sG s (x+1)).2:=fun x h=>by rw[Uq (.inl h)]
  have b7:∀x:Nat,kM (vOf s) (sG s x).1 (bF (pG s) x).2 (bF (pG s) x).1=false->(sG s x).2++[((bF (pG s) x).1,(bF (pG s) x).2)] =(sG s (x+1)).2:=fun x h=>by rw[Uq (.inr h)]
  have b8:∀x:Nat,∀z:Nat×Nat,x<=(pG s).length->(sG s x).2.length+[z].length<=1000000:=fun x z h=>by have:=q5 x h;simp only[List.length_singleton];omega
  have b9:∀x:Nat,¬(x:Int)<(pG s).length->x<=(pG s).length->sG s x=sG s (pG s).length:=fun x h h2=>by rw[show x=(pG s).length by omega]
  have c9:∀x:Nat,x<=(pG s).length->aJ ((x:Int)+1):=fun x h=>cP (by omega)
  clear hS hs gl
  repeat' first|with_reducible apply And.intro|with_reducible intro
  all_goals repeat with_reducible cases‹_/\_›
  all_goals first|with_reducible assumption|with_reducible rfl|with_reducible exact a1 _|with_reducible exact a2 _|with_reducible exact vb _ ‹_› |with_reducible exact a3 _ ‹_› |with_reducible exact a4 _ ‹_› |with_reducible exact a5 _ ‹_› |with_reducible exact a6 _ ‹_› |with_reducible exact a7 _ ‹_› |with_reducible exact a8 _ ‹_› |with_reducible exact a9 _ ‹_› |with_reducible exact q1 _ ‹_› |with_reducible exact q2 _ ‹_› |with_reducible exact q3 _ ‹_› |with_reducible exact q4 _ ‹_› |with_reducible exact b1 _ _ _ ‹_› |with_reducible exact b2 _ ‹_› ‹_› |with_reducible exact b3 _ ‹_› ‹_› |with_reducible exact congrArg List.length (b3 _ ‹_› ‹_›)|with_reducible exact b4 _ ‹_› |with_reducible exact b5 _ ‹_› |with_reducible exact b6 _ ‹_› |with_reducible exact b7 _ ‹_› |with_reducible exact congrArg List.length (b6 _ ‹_›)|with_reducible exact congrArg List.length (b7 _ ‹_›)|with_reducible exact b8 _ _ ‹_› |omega|(unfold ix;omega)|(unfold aJ;omega)|exact rfl|exact congrArg Prod.fst (b9 _ ‹_› ‹_›)|exact congrArg Prod.snd (b9 _ ‹_› ‹_›)|exact congrArg (fun y=>y.2.length) (b9 _ ‹_› ‹_›))
def aIX:Tab:=cC [(114,aKx)] aIe
theorem aKU:aIX.Ok Tryz.prog:=aK aEt ⟨aMR,trivial⟩
def eV(s:Geo.Shape):Int:=if Geo.aR s=true then 0 else 11
def t51:Tab:=aIX
theorem aHy:t51.Ok Tryz.prog:=aKU
end
end Go.Proofs.YtdaeofhdgabhjaaGreat
namespace Go.Proofs.YtdaeofhdgabhjaaGreat
open Go.RowKit
set_option maxRecDepth 100000
noncomputable section
open Geo (nth)
def aKu:Con:=aGh (a1 (aL .V)) (fun l=>[0<l.length,l.length<=1000]) 44 .V (fun l=>l) (fun _=>[])
theorem aMO:aKu.Ok Tryz.prog 125:=Ws (bK aHy) (raw:=bO) (fun _=>[]) (fun _=>⟨[],rfl⟩) fun l hp=>bL (q:=(0:Nat)<l.length/\([] :List Geo.V).length+l.length<=1000000/\([] :List Geo.V)++l=l/\(([] :List Geo.V)++l).length=(([] :List Geo.V)++l).length) (by kernel_rfl) (by
 change 0<l.length/\l.length<=1000 at hp;exact⟨hp.1,by simp;omega,rfl,rfl⟩)
def aIT:Tab:=cC [(125,aKu)] t51
theorem aE9:aIT.Ok Tryz.prog:=aK aHy ⟨aMO,trivial⟩
def Mr(r:List Geo.V)(k:Nat):Bool:=decide (Geo.cT (nth r ((k+r.length-1) % r.length)) (nth r k) (nth r ((k+1) % r.length))≠0)
def bJ(r:List Geo.V)(k:Nat):List Geo.V:=((List.range k).filter (Mr r)).map (nth r)
def eR(r:List Geo.V):List Geo.V:=bJ r r.length
theorem wZ(r:List Geo.V)(k:Nat):bJ r (k+1)=if Mr r k=true then bJ r k++[nth r k]else bJ r k:=by
 unfold bJ;rw[List.range_succ,List.filter_append,List.map_append];by_cases h:Mr r k=true
 ·rw[if_pos h,List.filter_cons_of_pos h];rfl
 ·rw[if_neg h,List.filter_cons_of_neg h];simp
theorem yF(r:List Geo.V):∀k,(bJ r k).length<=k
 |0=>Nat.le_refl _
 |k+1=>by
  have:=yF r k;rw[wZ];split
  ·rw[List.length_append];simp;omega
  ·omega
def aKw:Con:=con (a1 (aL .V)) (fun r=>[r.length<=1000,(∀u∈r,bd 1000000000 u),0<(eR r).length]) (fun r=> .lst .V (Geo.dH (eR r)))
theorem aMQ:aKw.Ok Tryz.prog 115:=aX (bK aE9) (raw:=bO) (fun r=>[lp 4 12 r.length (fun _=>[]) [40] (fun k=>[(3,.own 40 .V (bJ r k).length)]) (fun k=>[(40,.row 44 .V (bJ r k))])]
  ) (fun _=>⟨_,rfl⟩) fun r hp=>bL (q:=(0=(0:Int)/\(bJ r 0).length=0/\bJ r 0=([] :List Geo.V)/\(0:Nat)<=r.length)/\
 (∀x:Nat,x<=r.length->((x:Int)<r.length->ix (x:Int) r.length/\aJ ((x:Int)+r.length)/\aJ ((x:Int)+r.length-1)/\(r.length:Int)≠0/\ix (Int.tmod ((x:Int)+r.length-1) (r.length:Int)) r.length/\aJ ((x:Int)+1)/\(r.length:Int)≠0/\ix (((x+1) % r.length:Nat):Int) r.length/\bd 1000000000 (nth r (Int.tmod ((x:Int)+r.length-1) (r.length:Int)).toNat)/\bd 1000000000 (nth r x)/\bd 1000000000 (nth r ((x+1) % r.length))/\(¬Geo.cT (nth r (Int.tmod ((x:Int)+r.length-1) (r.length:Int)).toNat) (nth r x) (nth r ((x+1) % r.length))=0->(bJ r x).length=(bJ r x).length/\(bJ r x).length+[(nth r x)].length<=1000000/\aJ ((x:Int)+1)/\(x:Int)+1=((x+1:Nat):Int)/\(bJ r x++[(nth r x)]).length=(bJ r (x+1)).length/\bJ r x++[(nth r x)] =bJ r (x+1)/\x+1<=r.length/\r.length-(x+1)<r.length-x)/\
   (¬(¬Geo.cT (nth r (Int.tmod ((x:Int)+r.length-1) (r.length:Int)).toNat) (nth r x) (nth r ((x+1) % r.length))=0)->aJ ((x:Int)+1)/\(x:Int)+1=((x+1:Nat):Int)/\(bJ r x).length=(bJ r (x+1)).length/\bJ r x=bJ r (x+1)/\x+1<=r.length/\r.length-(x+1)<r.length-x))/\
  (¬(x:Int)<r.length->(bJ r x).length=(bJ r x).length/\(0:Nat)<(bJ r x).length/\(bJ r x).length<=1000/\(bJ r x).length=(bJ r x).length/\(bJ r x).length<=1000/\(0<=fI (fun x_1=>decide ((nth (bJ r x) (Geo.cE (bJ r x)))=x_1)) (bJ r x)/\fI (fun x_1=>decide ((nth (bJ r x) (Geo.cE (bJ r x)))=x_1)) (bJ r x)<=(bJ r x).length)/\(fI (fun x_1=>decide ((nth (bJ r x) (Geo.cE (bJ r x)))=x_1)) (bJ r x)).toNat+((bJ r x).length-(fI (fun x_1=>decide ((nth (bJ r x) (Geo.cE (bJ r x)))=x_1)) (bJ r x)).toNat)<=(bJ r x).length/\(0:Nat)<(List.take ((bJ r x).length-(fI (fun x_1=>decide ((nth (bJ r x) (Geo.cE (bJ r x)))=x_1)) (bJ r x)).toNat) (List.drop (fI (fun x_1=>decide ((nth (bJ r x) (Geo.cE (bJ r x)))=x_1)) (bJ r x)).toNat (bJ r x))).length/\(List.take ((bJ r x).length-(fI (fun x_1=>decide ((nth (bJ r x) (Geo.cE (bJ r x)))=x_1)) (bJ r x)).toNat) (List.drop (fI (fun x_1=>decide ((nth (bJ r x) (Geo.cE (bJ r x)))=x_1)) (bJ r x)).toNat (bJ r x))).length<=1000/\(0<=fI (fun x_1=>decide ((nth (bJ r x) (Geo.cE (bJ r x)))=x_1)) (bJ r x)/\fI (fun x_1=>decide ((nth (bJ r x) (Geo.cE (bJ r x)))=x_1)) (bJ r x)<=(bJ r x).length)/\(List.take ((bJ r x).length-(fI (fun x_1=>decide ((nth (bJ r x) (Geo.cE (bJ r x)))=x_1)) (bJ r x)).toNat) (List.drop (fI (fun x_1=>decide ((nth (bJ r x) (Geo.cE (bJ r x)))=x_1)) (bJ r x)).toNat (bJ r x))).length=(List.take ((bJ r x).length-(fI (fun x_1=>decide ((nth (bJ r x) (Geo.cE (bJ r x)))=x_1)) (bJ r x)).toNat) (List.drop (fI (fun x_1=>decide ((nth (bJ r x) (Geo.cE (bJ r x)))=x_1)) (bJ r x)).toNat (bJ r x))).length/\0+(fI (fun x_1=>decide ((nth (bJ r x) (Geo.cE (bJ r x)))=x_1)) (bJ r x)).toNat<=(bJ r x).length/\(List.take ((bJ r x).length-(fI (fun x_1=>decide ((nth (bJ r x) (Geo.cE (bJ r x)))=x_1)) (bJ r x)).toNat) (List.drop (fI (fun x_1=>decide ((nth (bJ r x) (Geo.cE (bJ r x)))=x_1)) (bJ r x)).toNat (bJ r x))).length+(List.take (fI (fun x_1=>decide ((nth (bJ r x) (Geo.cE (bJ r x)))=x_1)) (bJ r x)).toNat (List.drop 0 (bJ r x))).length<=1000000/\(List.take ((bJ r x).length-(fI (fun x_1=>decide ((nth (bJ r x) (Geo.cE (bJ r x)))=x_1)) (bJ r x)).toNat) (List.drop (fI (fun x_1=>decide ((nth (bJ r x) (Geo.cE (bJ r x)))=x_1)) (bJ r x)).toNat (bJ r x))++List.take (fI (fun x_1=>decide ((nth (bJ r x) (Geo.cE (bJ r x)))=x_1)) (bJ r x)).toNat (List.drop 0 (bJ r x))).length=(List.take ((bJ r x).length-(fI (fun x_1=>decide ((nth (bJ r x) (Geo.cE (bJ r x)))=x_1)) (bJ r x)).toNat) (List.drop (fI (fun x_1=>decide ((nth (bJ r x) (Geo.cE (bJ r x)))=x_1)) (bJ r x)).toNat (bJ r x))++List.take (fI (fun x_1=>decide ((nth (bJ r x) (Geo.cE (bJ r x)))=x_1)) (bJ r x)).toNat (List.drop 0 (bJ r x))).length/\List.take ((bJ r x).length-(fI (fun x_1=>decide ((nth (bJ r x) (Geo.cE (bJ r x)))=x_1)) (bJ r x)).toNat) (List.drop (fI (fun x_1=>decide ((nth (bJ r x) (Geo.cE (bJ r x)))=x_1)) (bJ r x)).toNat (bJ r x))++List.take (fI (fun x_1=>decide ((nth (bJ r x) (Geo.cE (bJ r x)))=x_1)) (bJ r x)).toNat (List.drop 0 (bJ r x))=Geo.dH (eR r)))) (by kernel_rfl) (by
  change r.length<=1000/\((∀u∈r,bd 1000000000 u))/\0<(eR r).length at hp;obtain⟨hl,hb,hc⟩:=hp;have bN:∀i:Nat,i<r.length->bd 1000000000 (nth r i):=fun i h=>hb _ (Geo.dV h)
  have tm:∀x:Nat,(x:Int)<r.length->Int.tmod ((x:Int)+r.length-1) (r.length:Int)=(((x+r.length-1) % r.length:Nat):Int):=fun x h=>by
   rw[show(x:Int)+r.length-1=((x+r.length-1:Nat):Int) by omega,Int.tmod_eq_emod_of_nonneg (by omega)];rfl
  have lt:∀x:Nat,(x:Int)<r.length->(x+r.length-1) % r.length<r.length:=fun x h=>Nat.mod_lt _ (by omega)
  have lt2:∀x:Nat,(x:Int)<r.length->(x+1) % r.length<r.length:=fun x h=>Nat.mod_lt _ (by omega)
  have f1:∀x:Nat,(x:Int)<r.length->aJ ((x:Int)+r.length):=fun x h=>cP (by omega)
  have f2:∀x:Nat,(x:Int)<r.length->aJ ((x:Int)+r.length-1):=fun x h=>cP (by omega)
  have f3:∀x:Nat,(x:Int)<r.length->(r.length:Int)≠0:=fun x h=>by omega
  have f4:∀x:Nat,(x:Int)<r.length->ix (Int.tmod ((x:Int)+r.length-1) (r.length:Int)) r.length:=fun x h=>by rw[tm x h];exact eE (lt x h)
  have f5:∀x:Nat,(x:Int)<r.length->aJ ((x:Int)+1):=fun x h=>cP (by omega)
  have f6:∀x:Nat,(x:Int)<r.length->ix (((x+1) % r.length:Nat):Int) r.length:=fun x h=>eE (lt2 x h)
  have f7:∀x:Nat,(x:Int)<r.length->bd 1000000000 (nth r (Int.tmod ((x:Int)+r.length-1) (r.length:Int)).toNat):=fun x h=>by rw[tm x h];exact bN _ (lt x h)
  have f8:∀x:Nat,(x:Int)<r.length->bd 1000000000 (nth r x):=fun x h=>bN _ (by omega)
  have f9:∀x:Nat,(x:Int)<r.length->bd 1000000000 (nth r ((x+1) % r.length)):=fun x h=>bN _ (lt2 x h)
  have f10:∀x:Nat,(x:Int)<r.length->¬Geo.cT (nth r (Int.tmod ((x:Int)+r.length-1) (r.length:Int)).toNat) (nth r x) (nth r ((x+1) % r.length))=0->bJ r x++[nth r x] =bJ r (x+1):=fun x h h2=>by
   rw[tm x h,Int.toNat_natCast]at h2;rw[wZ,if_pos (show Mr r x=true from decide_eq_true h2)]
  have f11:∀x:Nat,(x:Int)<r.length->¬¬Geo.cT (nth r (Int.tmod ((x:Int)+r.length-1) (r.length:Int)).toNat) (nth r x) (nth r ((x+1) % r.length))=0->bJ r x=bJ r (x+1):=fun x h h2=>by
   rw[tm x h,Int.toNat_natCast]at h2;rw[wZ,if_neg (show¬Mr r x=true from fun h3=>h2 (of_decide_eq_true h3))]
  have f12:∀x:Nat,∀z:Geo.V,x<=r.length->(bJ r x).length+[z].length<=1000000:=fun x z h=>by have:=yF r x;simp only[List.length_singleton];omega
  have g0:∀x:Nat,¬(x:Int)<r.length->x<=r.length->bJ r x=eR r:=fun x h h2=>by rw[show x=r.length by omega];rfl
  have g1:(eR r).length<=1000:=by have:=yF r r.length;have h:(eR r).length=(bJ r r.length).length:=rfl;omega
  have hlt:=Geo.wT hc;have hf:fI (fun x=>decide (nth (eR r) (Geo.cE (eR r))=x)) (eR r)=(Geo.cE (eR r):Int):=by
   symm;exact xJ (t:= .V) hlt (decide_eq_true rfl) fun j hj=>decide_eq_false fun e=>by
    have:=Geo.wB (eR r) (eR r).length j hj;rw[show Geo.bV (eR r) (eR r).length=Geo.cE (eR r)from rfl,e]at this
    exact absurd ((zQ (nth (eR r) j)).symm.trans this) (by decide)
  refine⟨⟨rfl,rfl,rfl,Nat.zero_le _⟩,fun x hx=>⟨?_,fun h=> ?_⟩⟩
  ·repeat' first|with_reducible apply And.intro|with_reducible intro
   all_goals repeat with_reducible cases‹_/\_›
   all_goals first|with_reducible assumption|with_reducible rfl|with_reducible exact f1 _ ‹_› |with_reducible exact f2 _ ‹_› |with_reducible exact f3 _ ‹_› |with_reducible exact f4 _ ‹_› |with_reducible exact f5 _ ‹_› |with_reducible exact f6 _ ‹_› |with_reducible exact f7 _ ‹_› |with_reducible exact f8 _ ‹_› |with_reducible exact f9 _ ‹_› |with_reducible exact f10 _ ‹_› ‹_› |with_reducible exact f11 _ ‹_› ‹_› |with_reducible exact congrArg List.length (f10 _ ‹_› ‹_›)|with_reducible exact congrArg List.length (f11 _ ‹_› ‹_›)|with_reducible exact f12 _ _ ‹_› |omega|(unfold ix;omega)|(unfold aJ;omega)
  ·rw[g0 x h hx,hf,Int.toNat_natCast];unfold Geo.dH;generalize Geo.cE (eR r)=k at hlt|-;have e1:List.take ((eR r).length-k) (List.drop k (eR r))=List.drop k (eR r):=List.take_of_length_le (by rw[List.length_drop];omega)
   have e2:List.take k (List.drop 0 (eR r))=List.take k (eR r):=rfl;have e3:(List.drop k (eR r)).length=(eR r).length-k:=List.length_drop ..;have e4:(List.take k (eR r)).length<=(eR r).length:=by rw[List.length_take];omega
   rw[e1,e2];refine⟨rfl,hc,g1,rfl,g1,⟨by omega,by omega⟩,by omega,by rw[e3];omega,by rw[e3];omega,⟨by omega,by omega⟩,rfl,by omega,by rw[e3];omega,rfl,rfl⟩)
def aIW:Tab:=cC [(115,aKw)] aIT
theorem aFc:aIW.Ok Tryz.prog:=aK aE9 ⟨aMQ,trivial⟩
def nxP(s:Geo.Shape):List (Nat×Nat):=(List.range (vOf s).length).map fun i=>(i,(iI (nG s) i).toNat)
def mF(p:Nat×Nat):List (Nat×Nat):=[p,(p.2,p.1)]
def hsG(s:Geo.Shape):List (Nat×Nat):=nxP s++(spG s).flatMap mF
def nxH(L:List (List Int))(h:Nat×Nat):Nat×Nat:=(h.2,fV L h.2 h.1 (-1))
def trc(v:List Geo.V)(L:List (List Int)):Nat->List (Nat×Nat)->Nat×Nat->List Geo.V->List (Nat×Nat)×List Geo.V
 |0,S,_,r=>(S,r)
 |f+1,S,h,r=>if h∈S then(S,r)else trc v L f (S++[h]) (nxH L h) (r++[nth v h.1])
def trU(v:List Geo.V):Nat:=v.length*v.length+1
def pcs(v:List Geo.V)(L:List (List Int))(H:List (Nat×Nat)):Nat->List (Nat×Nat)×List Geo.aM
 |0=>([],[])
 |k+1=>((trc v L (trU v) (pcs v L H k).1 (bF H k) []).1,if 0<(trc v L (trU v) (pcs v L H k).1 (bF H k) []).2.length then(pcs v L H k).2++[Geo.dH (eR (trc v L (trU v) (pcs v L H k).1 (bF H k) []).2)]else(pcs v L H k).2)
def pcK(s:Geo.Shape)(k:Nat):List (Nat×Nat)×List Geo.aM:=pcs (vOf s) (soG s) (hsG s) k
def pcG(s:Geo.Shape):List Geo.aM:=if Geo.aR s=true then Geo.Cq (pcK s (hsG s).length).2 else []
def Qx(s:Geo.Shape):Prop:=(∀i j:Nat,(j:Int)∈dC (soG s) i->ArOk (vOf s) (soG s) i j/\ArOk (vOf s) (soG s) j i)/\(∀h∈hsG s,ArOk (vOf s) (soG s) h.2 h.1)/\(∀i,i<(vOf s).length->0<=iI (nG s) i)/\
 ∀k,k<(hsG s).length->0<(trc (vOf s) (soG s) (trU (vOf s)) (pcK s k).1 (bF (hsG s) k) []).2.length->(trc (vOf s) (soG s) (trU (vOf s)) (pcK s k).1 (bF (hsG s) k) []).2.length<=1000/\0<(eR (trc (vOf s) (soG s) (trU (vOf s)) (pcK s k).1 (bF (hsG s) k) []).2).length
abbrev TrY:=List (Nat×Nat)×(Nat×Nat)×List Geo.V
structure TrOk(v:List Geo.V)(L:List (List Int))(S0:List (Nat×Nat))(h0:Nat×Nat)(y:TrY):Prop where
 le:S0.length<=y.1.length
 run:trc v L (trU v-(y.1.length-S0.length)) y.1 y.2.1 y.2.2=trc v L (trU v) S0 h0 []
 nd:y.1.Nodup
 rng:∀p∈y.1,p.1<v.length/\p.2<v.length
 at_:ArOk v L y.2.1.2 y.2.1.1
 len:y.2.2.length<=y.1.length
 pts:∀u∈y.2.2,bd 1000000000 u
theorem Oa:∀(m:Nat) (l:List Nat),l.Nodup->(∀x∈l,x<m)->l.length<=m
 |0,l,_,h=>by
  cases l with
  |nil=>simp
  |cons x l=>exact absurd (h x List.mem_cons_self) (by omega)
 |m+1,l,hn,h=>by
  have h1:=Oa m (l.erase m) (hn.erase m) fun x hx=>by
   have h2:=hn.mem_erase_iff.1 hx;have:=h x h2.2;have:=h2.1;omega
  have h3:(l.erase m).length=if m∈l then l.length-1 else l.length:=List.length_erase ..
  split at h3<;>omega
theorem aDh{n:Nat}{S:List (Nat×Nat)}(hn:S.Nodup)(h:∀p∈S,p.1<n/\p.2<n):S.length<=n*n:=by
 have dv:∀p:Nat×Nat,p.2<n->(p.2+p.1*n)/n=p.1/\(p.2+p.1*n) % n=p.2:=fun p hp=>by
  rw[Nat.add_mul_div_right _ _ (by omega),Nat.add_mul_mod_self_right,Nat.div_eq_of_lt hp,Nat.mod_eq_of_lt hp];simp
 have h1:=Oa (n*n) (S.map fun p=>p.2+p.1*n) (by
  unfold List.Nodup;rw[List.pairwise_map];refine List.Pairwise.imp_of_mem (fun{p q} hp hq hne e=>hne ?_) hn
  have e1:=dv p (h p hp).2;have e2:=dv q (h q hq).2;rw[e]at e1;exact Prod.ext (e1.1.symm.trans e2.1) (e1.2.symm.trans e2.2)) fun x hx=>by
  obtain⟨p,hp,rfl⟩:=List.mem_map.1 hx;obtain⟨h2,h3⟩:=h p hp;have:(p.1+1)*n<=n*n:=Nat.mul_le_mul_right n h2;rw[Nat.add_mul]at this;omega
 rw[List.length_map]at h1;exact h1
theorem aGq{v:List Geo.V}{L:List (List Int)}{f:Nat}{S:List (Nat×Nat)}{h:Nat×Nat}{r:List Geo.V}(hS:h∈S):trc v L f S h r=(S,r):=by
 cases f with
 |zero=>rfl
 |succ f=>exact if_pos hS
theorem aCW{v:List Geo.V}{L:List (List Int)}{f:Nat}{S:List (Nat×Nat)}{h:Nat×Nat}{r:List Geo.V}(hS:h∉S):trc v L (f+1) S h r=trc v L f (S++[h]) (nxH L h) (r++[nth v h.1]):=if_neg hS
theorem TrOk.start{v:List Geo.V}{L:List (List Int)}{S0:List (Nat×Nat)}{h0:Nat×Nat}(h1:S0.Nodup)(h2:∀p∈S0,p.1<v.length/\p.2<v.length)(h3:ArOk v L h0.2 h0.1):TrOk v L S0 h0 (S0,h0,[]) where
 le:=Nat.le_refl _
 run:=by show trc v L (trU v-(S0.length-S0.length)) S0 h0 [] =_;rw[Nat.sub_self,Nat.sub_zero]
 nd:=h1
 rng:=h2
 at_:=h3
 len:=Nat.zero_le _
 pts:=fun u hu=>(List.not_mem_nil hu).elim
theorem TrOk.lt{v:List Geo.V}{L:List (List Int)}{S0:List (Nat×Nat)}{h0:Nat×Nat}{y:TrY}(T:TrOk v L S0 h0 y):y.1.length<trU v:=by
 have:=aDh T.nd T.rng;unfold trU;omega
theorem TrOk.step{v:List Geo.V}{L:List (List Int)}{S0:List (Nat×Nat)}{h0:Nat×Nat}{y:TrY}(T:TrOk v L S0 h0 y)(hsym:∀i j:Nat,(j:Int)∈dC L i->ArOk v L i j/\ArOk v L j i)(hL:L.length=v.length)(hb:∀u∈v,bd 1000000000 u)(hn:y.2.1∉y.1):
  TrOk v L S0 h0 (wD y.1 y.2.1,nxH L y.2.1,y.2.2++[nth v y.2.1.1]):=by
 obtain⟨S,h,r⟩:=y;have hlt:=T.lt;have hle:=T.le;have e:wD S h=S++[h] :=if_neg hn;have hA:ArOk v L h.2 h.1:=T.at_;have h1:=(hsym _ _ (hA.around (-1)).1).2;have h2:h.1<v.length:=by have:=(hA.rng _ hA.mem).2;omega
 have h3:h.2<v.length:=by have:=hA.iL;omega
 dsimp only at hlt hle|-;rw[e];refine⟨by rw[List.length_append];simp;omega,?_,?_,?_,h1,?_,?_⟩
 ·rw[<-T.run];dsimp only;rw[show trU v-(S.length-S0.length)=(trU v-((S++[h]).length-S0.length))+1 by rw[List.length_append];simp;omega]
  exact(aCW hn).symm
 ·rw[List.nodup_append];exact⟨T.nd,by simp,fun a ha b hb e=>hn (by rw[List.mem_singleton.1 hb]at e;rw[<-e];exact ha)⟩
 ·intro p hp;rcases List.mem_append.1 hp with hp|hp
  ·exact T.rng p hp
  ·rw[List.mem_singleton.1 hp];exact⟨h2,h3⟩
 ·have:=T.len;rw[List.length_append,List.length_append];simp;exact this
 ·intro u hu;rcases List.mem_append.1 hu with hu|hu
  ·exact T.pts u hu
  ·rw[List.mem_singleton.1 hu];exact hb _ (Geo.dV h2)
theorem TrOk.stop{v:List Geo.V}{L:List (List Int)}{S0:List (Nat×Nat)}{h0:Nat×Nat}{y:TrY}(T:TrOk v L S0 h0 y)(hn:y.2.1∈y.1):trc v L (trU v) S0 h0 [] =(y.1,y.2.2):=by
 rw[<-T.run];exact aGq hn
theorem tH(s:Geo.Shape)(k:Nat):pcK s (k+1)=((trc (vOf s) (soG s) (trU (vOf s)) (pcK s k).1 (bF (hsG s) k) []).1,if 0<(trc (vOf s) (soG s) (trU (vOf s)) (pcK s k).1 (bF (hsG s) k) []).2.length then(pcK s k).2++[Geo.dH (eR (trc (vOf s) (soG s) (trU (vOf s)) (pcK s k).1 (bF (hsG s) k) []).2)]else(pcK s k).2):=rfl
theorem aDg{s:Geo.Shape}{k:Nat}{y:TrY}(T:TrOk (vOf s) (soG s) (pcK s k).1 (bF (hsG s) k) y)(hm:y.2.1∈y.1)(h:0<y.2.2.length):pcK s (k+1)=(y.1,(pcK s k).2++[Geo.dH (eR y.2.2)]):=by
 rw[tH,T.stop hm];dsimp only;rw[if_pos h]
theorem aGI{s:Geo.Shape}{k:Nat}{y:TrY}(T:TrOk (vOf s) (soG s) (pcK s k).1 (bF (hsG s) k) y)(hm:y.2.1∈y.1)(h:¬0<y.2.2.length):pcK s (k+1)=(y.1,(pcK s k).2):=by
 rw[tH,T.stop hm];dsimp only;rw[if_neg h]
theorem Vx(s:Geo.Shape):∀k,(pcK s k).2.length<=k
 |0=>Nat.le_refl _
 |k+1=>by
  have:=Vx s k;rw[tH];dsimp only;split
  ·rw[List.length_append];simp;omega
  ·omega
theorem Vw{s:Geo.Shape}(hp:Qx s):∀k,k<=(hsG s).length->∀r∈(pcK s k).2,r.length<=1000
 |0,_,r,hr=>(List.not_mem_nil hr).elim
 |k+1,hk,r,hr=>by
  have ih:=Vw hp k (by omega)
  rw[tH]at hr;dsimp only at hr;split at hr
  ·rename_i h;rcases List.mem_append.1 hr with hr|hr
   ·exact ih r hr
   ·rw[List.mem_singleton.1 hr,Geo.fM];have h1:=(hp.2.2.2 k (by omega) h).1
    have h2:=yF (trc (vOf s) (soG s) (trU (vOf s)) (pcK s k).1 (bF (hsG s) k) []).2 (trc (vOf s) (soG s) (trU (vOf s)) (pcK s k).1 (bF (hsG s) k) []).2.length;unfold eR;omega
  ·exact ih r hr
theorem Wd(s:Geo.Shape):(nxP s).length=(vOf s).length:=by unfold nxP;rw[List.length_map,List.length_range]
theorem Km:∀l:List (Nat×Nat),(l.flatMap mF).length=2*l.length
 |[] =>rfl
 |p::l=>by rw[List.flatMap_cons,List.length_append,Km l,List.length_cons];show 2+_=_;omega
theorem aDy(s:Geo.Shape):(hsG s).length=(vOf s).length+2*(spG s).length:=by unfold hsG;rw[List.length_append,Wd,Km]
def pcS(s:Geo.Shape)(k:Nat):List (Nat×Nat):=(pcK s k).1
def pcR(s:Geo.Shape)(k:Nat):List Geo.aM:=(pcK s k).2
def c48:Con:=con (a1 aSh) (fun s=>[Fit s,(Geo.aR s=true->GOk s/\SOk s/\Qx s)]) (fun s=> .tup [.lst .R (pcG s),.int .i64 (eV s)])
set_option maxHeartbeats 4000000 in
theorem k48:c48.Ok Tryz.prog 48:=aX (bK aFc) (raw:=bO) (fun s=>[lp 6 30 (vOf s).length (fun _=>[]) [40] (fun k=>[(6,.own 40 .P k)]) (fun k=>[(40,.row 67 .P ((nxP s).take k))]) fun k=>[jU 8 [(7,.int .i64 (k:Int)),(8,.int .i64 ((iI (nG s) k).toNat:Nat))]],
  lp 11 44 (spG s).length (fun _=>[]) [40] (fun k=>[(6,.own 40 .P ((vOf s).length+2*k))]) (fun k=>[(40,.row 67 .P (nxP s++((spG s).take k).flatMap mF))]),
  lp 18 61 (hsG s).length (fun k=>[(pcS s k).Nodup,∀p∈(pcS s k),p.1<(vOf s).length/\p.2<(vOf s).length]) [60] (fun k=>[(12,.own 60 .R (pcR s k).length)]) (fun k=>[(60,.row 23 .R (pcR s k)),(46,.mp (pcS s k))]) fun k=>
  [(22,.mk TrY (fun F L=>match F.at 16,L.at 46 with
  | .ptr b 0,some (.mp ks)=>(match L.at b with
  |some (.box _ [.int _ i,.int _ j])=>some (ks,(i.toNat,j.toNat),match F.at 15 with| .own t _ _=>(match L.at t with|some (.row _ .V r)=>r|_=>[])|_=>[])
  |_=>none)
  |_,_=>none) [68,70] (fun y=>[TrOk (vOf s) (soG s) (pcS s k) (bF (hsG s) k) y]) (fun y=>[(15,.own 70 .V y.2.2.length),(16,.ptr 68 0),(12,.own 60 .R (pcR s k).length)])
  (fun y=>[(68,.box 67 [.int .i64 (y.2.1.1:Nat),.int .i64 (y.2.1.2:Nat)]),(70,.row 44 .V y.2.2),(46,.mp y.1)]) (fun y=>trU (vOf s)-y.1.length) fun _=>[])]]
  ) (fun _=>⟨_,rfl⟩) fun s hp=>bL (q:=Fit s/\((!Geo.aR s)=true->pcG s=([] :List (List Geo.V))/\11=eV s)/\
 ((!Geo.aR s)=false->Fit s/\Geo.aR s=true/\GOk s/\SOk s/\(0=(0:Int)/\(0:Nat)=0/\List.take 0 (nxP s)=([] :List (Prod Nat Nat))/\(0:Nat)<=(vOf s).length)/\
  (∀x:Nat,x<=(vOf s).length->((x:Int)<(vOf s).length->(ix (x:Int) (vOf s).length/\x<(nG s).length/\(x:Int)=x/\iI (nG s) x=(iI (nG s) x).toNat)/\
    (∀y:Unit,x=(List.take x (nxP s)).length/\(List.take x (nxP s)).length+[(x,(iI (nG s) x).toNat)].length<=1000000/\aJ ((x:Int)+1)/\(x:Int)+1=((x+1:Nat):Int)/\(List.take x (nxP s)++[(x,(iI (nG s) x).toNat)]).length=x+1/\List.take x (nxP s)++[(x,(iI (nG s) x).toNat)] =List.take (x+1) (nxP s)/\x+1<=(vOf s).length/\(vOf s).length-(x+1)<(vOf s).length-x))/\
   (¬(x:Int)<(vOf s).length->(0=(0:Int)/\x=(vOf s).length+2*0/\List.take x (nxP s)=nxP s++List.flatMap mF (List.take 0 (spG s))/\(0:Nat)<=(spG s).length)/\
    (∀x_1:Nat,x_1<=(spG s).length->((x_1:Int)<(spG s).length->ix (x_1:Int) (spG s).length/\x_1<(spG s).length/\ix 1 2/\ix 0 2/\(vOf s).length+2*x_1=(nxP s++List.flatMap mF (List.take x_1 (spG s))).length/\(nxP s++List.flatMap mF (List.take x_1 (spG s))).length+[((bF (spG s) x_1).1,(bF (spG s) x_1).2),((bF (spG s) x_1).2,(bF (spG s) x_1).1)].length<=1000000/\aJ ((x_1:Int)+1)/\(x_1:Int)+1=((x_1+1:Nat):Int)/\(nxP s++List.flatMap mF (List.take x_1 (spG s))++[((bF (spG s) x_1).1,(bF (spG s) x_1).2),((bF (spG s) x_1).2,(bF (spG s) x_1).1)]).length=(vOf s).length+2*(x_1+1)/\nxP s++List.flatMap mF (List.take x_1 (spG s))++[((bF (spG s) x_1).1,(bF (spG s) x_1).2),((bF (spG s) x_1).2,(bF (spG s) x_1).1)] =nxP s++List.flatMap mF (List.take (x_1+1) (spG s))/\x_1+1<=(spG s).length/\(spG s).length-(x_1+1)<(spG s).length-x_1)/\
     (¬(x_1:Int)<(spG s).length->(0=(0:Int)/\(pcR s 0).length=0/\pcR s 0=([] :List (List Geo.V))/\([] :List (Prod Nat Nat))=pcS s 0/\(0:Nat)<=(hsG s).length/\List.Nodup (pcS s 0)/\(∀p:Prod Nat Nat,p∈pcS s 0->p.1<(vOf s).length/\p.2<(vOf s).length))/\
      (∀x_2:Nat,x_2<=(hsG s).length/\List.Nodup (pcS s x_2)/\(∀p:Prod Nat Nat,p∈pcS s x_2->p.1<(vOf s).length/\p.2<(vOf s).length)->((x_2:Int)<(((vOf s).length+2*x_1:Nat):Int)->ix (x_2:Int) ((vOf s).length+2*x_1)/\x_2<(nxP s++List.flatMap mF (List.take x_1 (spG s))).length/\(([] :List Geo.V).length=0/\(pcR s x_2).length=(pcR s x_2).length/\((bF (nxP s++List.flatMap mF (List.take x_1 (spG s))) x_2).1:Int)=(bF (nxP s++List.flatMap mF (List.take x_1 (spG s))) x_2).1/\((bF (nxP s++List.flatMap mF (List.take x_1 (spG s))) x_2).2:Int)=(bF (nxP s++List.flatMap mF (List.take x_1 (spG s))) x_2).2/\([] :List Geo.V)=([] :List Geo.V)/\pcS s x_2=pcS s x_2/\TrOk (vOf s) (soG s) (pcS s x_2) (bF (hsG s) x_2) (pcS s x_2,(((bF (nxP s++List.flatMap mF (List.take x_1 (spG s))) x_2).1,(bF (nxP s++List.flatMap mF (List.take x_1 (spG s))) x_2).2),([] :List Geo.V))))/\
        (∀x_3:TrY,TrOk (vOf s) (soG s) (pcS s x_2) (bF (hsG s) x_2) x_3->List.Nodup x_3.1/\((x_3.2.1.1,x_3.2.1.2)∈x_3.1->(0<(x_3.2.2.length:Int)->x_3.2.2.length=x_3.2.2.length/\x_3.2.2.length<=1000/\(∀u:Geo.V,u∈x_3.2.2->bd 1000000000 u)/\(0:Nat)<(eR x_3.2.2).length/\(pcR s x_2).length=(pcR s x_2).length/\(pcR s x_2).length+[Geo.dH (eR x_3.2.2)].length<=1000000/\aJ ((x_2:Int)+1)/\(x_2:Int)+1=((x_2+1:Nat):Int)/\(pcR s x_2++[Geo.dH (eR x_3.2.2)]).length=(pcR s (x_2+1)).length/\pcR s x_2++[Geo.dH (eR x_3.2.2)] =pcR s (x_2+1)/\x_3.1=pcS s (x_2+1)/\x_2+1<=(hsG s).length/\List.Nodup (pcS s (x_2+1))/\(∀p:Prod Nat Nat,p∈pcS s (x_2+1)->p.1<(vOf s).length/\p.2<(vOf s).length)/\(hsG s).length-(x_2+1)<(hsG s).length-x_2)/\
          (¬0<(x_3.2.2.length:Int)->aJ ((x_2:Int)+1)/\(x_2:Int)+1=((x_2+1:Nat):Int)/\(pcR s x_2).length=(pcR s (x_2+1)).length/\pcR s x_2=pcR s (x_2+1)/\x_3.1=pcS s (x_2+1)/\x_2+1<=(hsG s).length/\List.Nodup (pcS s (x_2+1))/\(∀p:Prod Nat Nat,p∈pcS s (x_2+1)->p.1<(vOf s).length/\p.2<(vOf s).length)/\(hsG s).length-(x_2+1)<(hsG s).length-x_2))/\
         (¬(x_3.2.1.1,x_3.2.1.2)∈x_3.1->List.Nodup x_3.1/\ix 0 2/\ix (x_3.2.1.1:Int) (vOf s).length/\x_3.2.2.length=x_3.2.2.length/\x_3.2.2.length+[(nth (vOf s) x_3.2.1.1)].length<=1000000/\ix 1 2/\ix 1 2/\ix 0 2/\(vOf s).length=(soG s).length/\(vOf s).length=(nG s).length/\(vOf s).length<=1000000/\(soG s).length<=1000000/\x_3.2.1.2<(soG s).length/\(x_3.2.1.1:Int)∈dC (soG s) x_3.2.1.2/\(dC (soG s) x_3.2.1.2).length<=1000000/\(∀x_4:Int,x_4∈dC (soG s) x_3.2.1.2->0<=x_4)/\((-1:Int)=1\/(-1:Int)= -1)/\(x_3.2.2++[(nth (vOf s) x_3.2.1.1)]).length=(x_3.2.2++[(nth (vOf s) x_3.2.1.1)]).length/\(pcR s x_2).length=(pcR s x_2).length/\(x_3.2.1.2:Int)=x_3.2.1.2/\(fV (soG s) x_3.2.1.2 x_3.2.1.1 (-1):Int)=fV (soG s) x_3.2.1.2 x_3.2.1.1 (-1)/\x_3.2.2++[(nth (vOf s) x_3.2.1.1)] =x_3.2.2++[(nth (vOf s) x_3.2.1.1)]/\wD x_3.1 (x_3.2.1.1,x_3.2.1.2)=wD x_3.1 (x_3.2.1.1,x_3.2.1.2)/\TrOk (vOf s) (soG s) (pcS s x_2) (bF (hsG s) x_2) (wD x_3.1 (x_3.2.1.1,x_3.2.1.2),((x_3.2.1.2,fV (soG s) x_3.2.1.2 x_3.2.1.1 (-1)),x_3.2.2++[(nth (vOf s) x_3.2.1.1)]))/\trU (vOf s)-(wD x_3.1 (x_3.2.1.1,x_3.2.1.2)).length<trU (vOf s)-x_3.1.length)))/\
       (¬(x_2:Int)<(((vOf s).length+2*x_1:Nat):Int)->(pcR s x_2).length=(pcR s x_2).length/\(pcR s x_2).length<=1000000/\(∀r:Geo.aM,r∈pcR s x_2->r.length<=1000)/\(pcR s x_2).length=(r68 (pcR s x_2,true)).length/\r68 (pcR s x_2,true)=pcG s/\0=eV s)))))))) (by kernel_rfl) (by
  change Fit s/\((Geo.aR s=true->GOk s/\SOk s/\Qx s))at hp;obtain⟨hf,hv⟩:=hp;have n80:(vOf s).length<=80:=wF s;have hT:(!Geo.aR s)=false->Geo.aR s=true:=fun h=>nb h
  have hg:(!Geo.aR s)=false->GOk s:=fun h=>(hv (nb h)).1
  have hs:(!Geo.aR s)=false->SOk s:=fun h=>(hv (nb h)).2.1
  have hP:(!Geo.aR s)=false->Qx s:=fun h=>(hv (nb h)).2.2
  have sd0:(!Geo.aR s)=true->pcG s=[] :=fun h=>by unfold pcG;rw[nb' h];rfl
  have ev0:(!Geo.aR s)=true->11=eV s:=fun h=>by unfold eV;rw[nb' h];rfl
  have ev1:(!Geo.aR s)=false->0=eV s:=fun h=>by unfold eV;rw[nb h];rfl
  have sl:(!Geo.aR s)=false->(spG s).length<=6400:=fun h=>by
   have h1:(spG s).length<=(pG s).length:=Rb _ _ _ _;have h2:=(Kg (nb h)).1;rw[aAZ]at h1;omega
  have hl:=aDy s;have nl:(nG s).length=(vOf s).length:=Rq s _;have gl:(soG s).length=(vOf s).length:=aAY s _;have xl:=Wd s;have vb:∀u∈vOf s,bd 1000000000 u:=fun u hu=>by
   obtain⟨i,hi,rfl⟩:=Geo.fJ.1 hu;exact Jq hi (by decide)
  have a1:∀x:Nat,(x:Int)<(vOf s).length->x<(nG s).length:=fun x h=>by omega
  have a2:(!Geo.aR s)=false->∀x:Nat,(x:Int)<(vOf s).length->iI (nG s) x=(iI (nG s) x).toNat:=fun h x hx=>(Int.toNat_of_nonneg ((hP h).2.2.1 x (by omega))).symm
  have a3:∀x:Nat,x<=(vOf s).length->(List.take x (nxP s)).length=x:=fun x h=>by rw[List.length_take];omega
  have a4:∀x:Nat,(x:Int)<(vOf s).length->List.take x (nxP s)++[(x,(iI (nG s) x).toNat)] =List.take (x+1) (nxP s):=fun x h=>by
   rw[List.take_succ_eq_append_getElem (show x<(nxP s).length by omega)]
   unfold nxP;rw[List.getElem_map,List.getElem_range]
  have a5:∀x:Nat,∀z:Nat×Nat,(x:Int)<(vOf s).length->(List.take x (nxP s)).length+[z].length<=1000000:=fun x z h=>by rw[a3 x (by omega)];simp only[List.length_singleton];omega
  have a6:∀x:Nat,∀z:Nat×Nat,(x:Int)<(vOf s).length->(List.take x (nxP s)++[z]).length=x+1:=fun x z h=>by rw[List.length_append,a3 x (by omega)];rfl
  have a7:∀x:Nat,(x:Int)<(vOf s).length->aJ ((x:Int)+1):=fun x h=>cP (by omega)
  have b0:∀x:Nat,¬(x:Int)<(vOf s).length->x<=(vOf s).length->x=(vOf s).length+2*0:=fun x h h2=>by omega
  have b1:∀x:Nat,¬(x:Int)<(vOf s).length->List.take x (nxP s)=nxP s++List.flatMap mF (List.take 0 (spG s)):=fun x h=>by rw[List.take_of_length_le (by omega)];simp
  have b2:∀x:Nat,x<=(spG s).length->(nxP s++List.flatMap mF (List.take x (spG s))).length=(vOf s).length+2*x:=fun x h=>by rw[List.length_append,xl,Km,List.length_take];omega
  have b3:(!Geo.aR s)=false->∀x:Nat,∀z u:Nat×Nat,x<=(spG s).length->(nxP s++List.flatMap mF (List.take x (spG s))).length+[z,u].length<=1000000:=fun h x z u hx=>by have:=sl h;rw[b2 x hx];simp only[List.length_cons,List.length_nil];omega
  have b4:(!Geo.aR s)=false->∀x:Nat,(x:Int)<(spG s).length->aJ ((x:Int)+1):=fun h x hx=>cP (by have:=sl h;omega)
  have b5:∀x:Nat,∀z u:Nat×Nat,x<=(spG s).length->(nxP s++List.flatMap mF (List.take x (spG s))++[z,u]).length=(vOf s).length+2*(x+1):=fun x z u hx=>by rw[List.length_append,b2 x hx];simp only[List.length_cons,List.length_nil];omega
  have b6:∀x:Nat,(x:Int)<(spG s).length->nxP s++List.flatMap mF (List.take x (spG s))++[((bF (spG s) x).1,(bF (spG s) x).2),((bF (spG s) x).2,(bF (spG s) x).1)] =nxP s++List.flatMap mF (List.take (x+1) (spG s)):=fun x h=>by
   rw[List.take_succ_eq_append_getElem (show x<(spG s).length by omega),List.flatMap_append,<-List.append_assoc,uM (by omega)];rfl
  have hH:∀x:Nat,¬(x:Int)<(spG s).length->nxP s++List.flatMap mF (List.take x (spG s))=hsG s:=fun x h=>by rw[List.take_of_length_le (by omega)];rfl
  have c1:∀x y:Nat,¬(x:Int)<(spG s).length->x<=(spG s).length->(y:Int)<(((vOf s).length+2*x:Nat):Int)->y<(hsG s).length:=fun x y h h2 h3=>by omega
  have c2:∀x y:Nat,x<=(spG s).length->(y:Int)<(((vOf s).length+2*x:Nat):Int)->y<(nxP s++List.flatMap mF (List.take x (spG s))).length:=fun x y h2 h3=>by rw[b2 x h2];omega
  have c3:(!Geo.aR s)=false->∀x y:Nat,¬(x:Int)<(spG s).length->x<=(spG s).length->(y:Int)<(((vOf s).length+2*x:Nat):Int)->List.Nodup (pcS s y)->(∀p:Nat×Nat,p∈(pcS s y)->p.1<(vOf s).length/\p.2<(vOf s).length)->TrOk (vOf s) (soG s) (pcS s y) (bF (hsG s) y) ((pcS s y),(((bF (nxP s++List.flatMap mF (List.take x (spG s))) y).1,(bF (nxP s++List.flatMap mF (List.take x (spG s))) y).2),([] :List Geo.V))):=fun h x y h1 h2 h3 h4 h5=>by
   rw[hH x h1];refine TrOk.start h4 h5 ((hP h).2.1 _ ?_);have:=c1 x y h1 h2 h3;rw[uM this];exact List.getElem_mem _
  have d1:(!Geo.aR s)=false->∀x y:Nat,¬(x:Int)<(spG s).length->x<=(spG s).length->(y:Int)<(((vOf s).length+2*x:Nat):Int)->∀z:TrY,TrOk (vOf s) (soG s) (pcS s y) (bF (hsG s) y) z->z.2.1∈z.1->0<(z.2.2.length:Int)->z.2.2.length<=1000/\0<(eR z.2.2).length:=fun h x y h1 h2 h3 z T hm hz=>by
   have e:=T.stop hm;unfold pcS at e;have:=(hP h).2.2.2 y (c1 x y h1 h2 h3);rw[e]at this;exact this (by show 0<z.2.2.length;omega)
  have d2:(!Geo.aR s)=false->∀y:Nat,y<=(hsG s).length->(pcR s y).length<=20000:=fun h y hy=>by have h1:(pcR s y).length<=y:=Vx s y;have:=sl h;omega
  have d3:(!Geo.aR s)=false->∀y:Nat,y<=(hsG s).length->∀q:Geo.aM,(pcR s y).length+[q].length<=1000000:=fun h y hy q=>by have:=d2 h y hy;simp only[List.length_singleton];omega
  have d4:(!Geo.aR s)=false->∀y:Nat,y<=(hsG s).length->aJ ((y:Int)+1):=fun h y hy=>cP (by have:=sl h;omega)
  have t1:∀(y:Nat) (z:TrY),TrOk (vOf s) (soG s) (pcS s y) (bF (hsG s) y) z->z.2.1∈z.1->0<(z.2.2.length:Int)->(pcR s y)++[Geo.dH (eR z.2.2)] =pcR s (y+1):=fun y z T hm hz=>(congrArg Prod.snd (aDg T hm (by omega))).symm
  have t2:∀(y:Nat) (z:TrY),TrOk (vOf s) (soG s) (pcS s y) (bF (hsG s) y) z->z.2.1∈z.1->¬0<(z.2.2.length:Int)->pcR s y=pcR s (y+1):=fun y z T hm hz=>(congrArg Prod.snd (aGI T hm (by omega))).symm
  have t3:∀(y:Nat) (z:TrY),TrOk (vOf s) (soG s) (pcS s y) (bF (hsG s) y) z->z.2.1∈z.1->z.1=(pcS s (y+1)):=fun y z T hm=>by unfold pcS at*;rw[tH,T.stop hm]
  have t4:∀(y:Nat) (z:TrY),TrOk (vOf s) (soG s) (pcS s y) (bF (hsG s) y) z->z.2.1∈z.1->(pcS s (y+1)).Nodup:=fun y z T hm=>by rw[<-t3 y z T hm];exact T.nd
  have t5:∀(y:Nat) (z:TrY),TrOk (vOf s) (soG s) (pcS s y) (bF (hsG s) y) z->z.2.1∈z.1->∀p:Nat×Nat,p∈(pcS s (y+1))->p.1<(vOf s).length/\p.2<(vOf s).length:=fun y z T hm=>by rw[<-t3 y z T hm];exact T.rng
  have r0:∀(y:Nat) (z:TrY),TrOk (vOf s) (soG s) (pcS s y) (bF (hsG s) y) z->ArOk (vOf s) (soG s) z.2.1.2 z.2.1.1:=fun y z T=>T.at_
  have r1:∀(y:Nat) (z:TrY),TrOk (vOf s) (soG s) (pcS s y) (bF (hsG s) y) z->z.2.1.1<(vOf s).length:=fun y z T=>by
   have:=(T.at_.rng _ T.at_.mem).2;omega
  have r2:∀(y:Nat) (z:TrY),TrOk (vOf s) (soG s) (pcS s y) (bF (hsG s) y) z->ix (z.2.1.1:Int) (vOf s).length:=fun y z T=>eE (r1 y z T)
  have r3:∀(y:Nat) (z:TrY),TrOk (vOf s) (soG s) (pcS s y) (bF (hsG s) y) z->∀q:Geo.V,z.2.2.length+[q].length<=1000000:=fun y z T q=>by
   have h1:=T.lt;have h2:=T.len;unfold trU at h1;have:(vOf s).length*(vOf s).length<=80*80:=Nat.mul_le_mul n80 n80;simp only[List.length_singleton];omega
  have r4:∀(y:Nat) (z:TrY),TrOk (vOf s) (soG s) (pcS s y) (bF (hsG s) y) z->∀x∈dC (soG s) z.2.1.2,0<=x:=fun y z T x hx=>(T.at_.rng x hx).1
  have r5:(!Geo.aR s)=false->∀(y:Nat) (z:TrY),TrOk (vOf s) (soG s) (pcS s y) (bF (hsG s) y) z->z.2.1∉z.1->TrOk (vOf s) (soG s) (pcS s y) (bF (hsG s) y) (wD z.1 z.2.1,nxH (soG s) z.2.1,z.2.2++[nth (vOf s) z.2.1.1]):=fun h y z T hm=>T.step (hP h).1 gl vb hm
  have r6:∀(y:Nat) (z:TrY),TrOk (vOf s) (soG s) (pcS s y) (bF (hsG s) y) z->z.2.1∉z.1->trU (vOf s)-(wD z.1 z.2.1).length<trU (vOf s)-z.1.length:=fun y z T hm=>by
   have:=T.lt;rw[show wD z.1 z.2.1=z.1++[z.2.1]from if_neg hm,List.length_append]
   simp;omega
  have e1:(!Geo.aR s)=false->∀x y:Nat,¬(x:Int)<(spG s).length->x<=(spG s).length->¬(y:Int)<(((vOf s).length+2*x:Nat):Int)->y<=(hsG s).length->r68 ((pcR s y),true)=pcG s:=fun h x y h1 h2 h3 h4=>by
   rw[show y=(hsG s).length by omega]
   unfold pcG;rw[nb h,if_pos rfl];rfl
  have e2:∀l:List Geo.aM,l.length=(r68 (l,true)).length:=fun l=>(Geo.wN l).length_eq.symm
  have e3:(!Geo.aR s)=false->∀y:Nat,y<=(hsG s).length->∀r∈(pcR s y),r.length<=1000:=fun h y hy=>Vw (hP h) y hy
  have e4:(!Geo.aR s)=false->∀y:Nat,y<=(hsG s).length->(pcR s y).length<=1000000:=fun h y hy=>by have:=d2 h y hy;omega
  have e5:(pcS s 0).Nodup:=List.nodup_nil;have hT2:(!Geo.aR s)=false->Geo.aR s=true:=hT;clear hv hT hP
  repeat' first|with_reducible apply And.intro|with_reducible intro
  all_goals repeat with_reducible cases‹_/\_›
  all_goals first|with_reducible assumption|with_reducible rfl|with_reducible exact sd0 ‹_› |with_reducible exact ev0 ‹_› |with_reducible exact ev1 ‹_› |with_reducible exact hT2 ‹_› |with_reducible exact hg ‹_› |with_reducible exact hs ‹_› |with_reducible exact a1 _ ‹_› |with_reducible exact a2 ‹_› _ ‹_› |with_reducible exact(a3 _ ‹_›).symm|with_reducible exact a4 _ ‹_› |with_reducible exact a5 _ _ ‹_› |with_reducible exact a6 _ _ ‹_› |with_reducible exact a7 _ ‹_› |with_reducible exact b0 _ ‹_› ‹_› |with_reducible exact b1 _ ‹_› |with_reducible exact(b2 _ ‹_›).symm|with_reducible exact b3 ‹_› _ _ _ ‹_› |with_reducible exact b4 ‹_› _ ‹_› |with_reducible exact b5 _ _ _ ‹_› |with_reducible exact b6 _ ‹_› |with_reducible exact c2 _ _ ‹_› ‹_› |exact c3 ‹_› _ _ ‹_› ‹_› ‹_› ‹_› ‹_› |exact(d1 ‹_› _ _ ‹_› ‹_› ‹_› _ ‹_› ‹_› ‹_›).1|exact(d1 ‹_› _ _ ‹_› ‹_› ‹_› _ ‹_› ‹_› ‹_›).2|with_reducible exact d3 ‹_› _ ‹_› _|with_reducible exact d4 ‹_› _ ‹_› |with_reducible exact(TrOk.nd ‹_›)|with_reducible exact(TrOk.pts ‹_› _ ‹_›)|exact t1 _ _ ‹_› ‹_› ‹_› |exact congrArg List.length (t1 _ _ ‹_› ‹_› ‹_›)|exact t2 _ _ ‹_› ‹_› ‹_› |exact congrArg List.length (t2 _ _ ‹_› ‹_› ‹_›)|exact t3 _ _ ‹_› ‹_› |exact t4 _ _ ‹_› ‹_› |exact(t5 _ _ ‹_› ‹_› _ ‹_›).1|exact(t5 _ _ ‹_› ‹_› _ ‹_›).2|with_reducible exact r2 _ _ ‹_› |with_reducible exact r3 _ _ ‹_› _|with_reducible exact(r0 _ _ ‹_›).iL|with_reducible exact(r0 _ _ ‹_›).mem|with_reducible exact(r0 _ _ ‹_›).len|with_reducible exact r4 _ _ ‹_› _ ‹_› |exact r5 ‹_› _ _ ‹_› ‹_› |exact r6 _ _ ‹_› ‹_› |with_reducible exact e1 ‹_› _ _ ‹_› ‹_› ‹_› ‹_› |with_reducible exact e2 _|with_reducible exact e3 ‹_› _ ‹_› _ ‹_› |with_reducible exact e4 ‹_› _ ‹_› |omega|(unfold ix;omega)|(unfold aJ;omega)|exact .inr rfl|exact e5|exact(List.not_mem_nil ‹_›).elim|exact rfl)
def t48:Tab:=cC [(48,c48)] aIW
theorem aLt:t48.Ok Tryz.prog:=aK aFc ⟨k48,trivial⟩
end
end Go.Proofs.YtdaeofhdgabhjaaGreat
namespace Go.Proofs.YtdaeofhdgabhjaaGreat.Geo
structure P3 where
 x:Int
 y:Int
 d:Int
def ev(h p:P3):Int:=h.x*p.x+h.y*p.y+h.d*p.d
def cmb(m:Int)(p:P3)(n:Int)(q:P3):P3:=⟨m*p.x+n*q.x,m*p.y+n*q.y,m*p.d+n*q.d⟩
theorem gU(h p q:P3)(m n:Int):ev h (cmb m p n q)=m*ev h p+n*ev h q:=by unfold ev cmb;grind
def Sat(L:List P3):Prop:=∃p:P3,0<p.d/\∀h∈L,0<ev h p
theorem aF4(u v:Int):∃a b:Int,(a≠0\/b≠0)/\a*u+b*v=0:=by
 by_cases h:u=0
 ·exact⟨1,0,.inl (by omega),by subst h;omega⟩
 ·exact⟨v,-u,.inr (by omega),by grind⟩
theorem aLE(x1 y1 x2 y2 x3 y3:Int):∃a b c:Int,(a≠0\/b≠0\/c≠0)/\a*x1+b*x2+c*x3=0/\a*y1+b*y2+c*y3=0:=by
 by_cases h3:x3=0
 ·by_cases h2:x2=0
  ·obtain⟨b,c,hne,hy⟩:=aF4 y2 y3;exact⟨0,b,c,by omega,by subst h2 h3;omega,by omega⟩
  ·obtain⟨a,c,hne,hy⟩:=aF4 (x2*y1-x1*y2) (x2*y3-x3*y2);refine⟨a*x2,-(a*x1+c*x3),c*x2,?_,by grind,by grind⟩
   rcases hne with h|h
   ·exact .inl (Int.mul_ne_zero h h2)
   ·exact .inr (.inr (Int.mul_ne_zero h h2))
 ·obtain⟨a,b,hne,hy⟩:=aF4 (x3*y1-x1*y3) (x3*y2-x2*y3);refine⟨a*x3,b*x3,-(a*x1+b*x2),?_,by grind,by grind⟩
  rcases hne with h|h
  ·exact .inl (Int.mul_ne_zero h h3)
  ·exact .inr (.inl (Int.mul_ne_zero h h3))
theorem aLD(p q r s:P3)(hs:0<s.d):∃a b c e:Int,(a≠0\/b≠0\/c≠0\/e≠0)/\a*p.x+b*q.x+c*r.x+e*s.x=0/\a*p.y+b*q.y+c*r.y+e*s.y=0/\a*p.d+b*q.d+c*r.d+e*s.d=0:=by
 obtain⟨a,b,c,hne,hx,hy⟩:=aLE (s.d*p.x-p.d*s.x) (s.d*p.y-p.d*s.y) (s.d*q.x-q.d*s.x) (s.d*q.y-q.d*s.y) (s.d*r.x-r.d*s.x) (s.d*r.y-r.d*s.y);have hd:s.d≠0:=by omega
 refine⟨a*s.d,b*s.d,c*s.d,-(a*p.d+b*q.d+c*r.d),?_,by grind,by grind,by grind⟩
 rcases hne with h|h|h
 ·exact .inl (Int.mul_ne_zero h hd)
 ·exact .inr (.inl (Int.mul_ne_zero h hd))
 ·exact .inr (.inr (.inl (Int.mul_ne_zero h hd)))
def pos(n:Int):Int:=if 0<n then n else 0
def mix(a b c e:Int)(p q r s:P3):P3:=⟨a*p.x+b*q.x+c*r.x+e*s.x,a*p.y+b*q.y+c*r.y+e*s.y,a*p.d+b*q.d+c*r.d+e*s.d⟩
theorem oJ(h p q r s:P3)(a b c e:Int):ev h (mix a b c e p q r s)=a*ev h p+b*ev h q+c*ev h r+e*ev h s:=by unfold ev mix;grind
theorem Cv(p q r s:P3)(a b c e:Int):(mix a b c e p q r s).d=a*p.d+b*q.d+c*r.d+e*s.d:=rfl
theorem jW{a b c e u v x y:Int}(ha:0<=a)(hb:0<=b)(hc:0<=c)(he:0<=e)(hne:a≠0\/b≠0\/c≠0\/e≠0)(h1:a≠0->0<u)(h2:b≠0->0<v)(h3:c≠0->0<x)(h4:e≠0->0<y):0<a*u+b*v+c*x+e*y:=by
 have t:∀{m z:Int},0<=m->(m≠0->0<z)->0<=m*z/\(m≠0->0<m*z):=by
  intro m z hm hz;by_cases h:m=0
  ·subst h;exact⟨by omega,fun h=>absurd rfl h⟩
  ·have:=Int.mul_pos (show 0<m by omega) (hz h);exact⟨by omega,fun _=>this⟩
 have:=t ha h1;have:=t hb h2;have:=t hc h3;have:=t he h4;generalize a*u=A at*;generalize b*v=B at*;generalize c*x=C at*;generalize e*y=E at*;rcases hne with h|h|h|h<;>grind
theorem aKX{h1 h2 h3 h4:P3}{R:List P3}(s1:Sat (h2::h3::h4::R))(s2:Sat (h1::h3::h4::R))(s3:Sat (h1::h2::h4::R))(s4:Sat (h1::h2::h3::R)):Sat (h1::h2::h3::h4::R):=by
 obtain⟨p,hp,fp⟩:=s1;obtain⟨q,hq,fq⟩:=s2;obtain⟨r,hr,fr⟩:=s3;obtain⟨s,hs,fs⟩:=s4;obtain⟨a,b,c,e,hne,hx,hy,hd⟩:=aLD p q r s hs;simp only[List.mem_cons,forall_eq_or_imp]at fp fq fr fs;obtain⟨p2,p3,p4,pR⟩:=fp;obtain⟨q1,q3,q4,qR⟩:=fq;obtain⟨r1,r2,r4,rR⟩:=fr;obtain⟨s1,s2,s3,sR⟩:=fs;have pn:∀n:Int,pos n-pos (-n)=n:=by intro n;unfold pos;split<;>split<;>omega
 have p0:∀n:Int,0<=pos n:=by intro n;unfold pos;split<;>omega
 have pz:∀n:Int,pos n≠0->pos (-n)=0:=by intro n;unfold pos;split<;>split<;>omega
 have pz':∀n:Int,pos (-n)≠0->pos n=0:=by intro n;unfold pos;split<;>split<;>omega
 have key:∀h:P3,ev h (mix (pos a) (pos b) (pos c) (pos e) p q r s)=ev h (mix (pos (-a)) (pos (-b)) (pos (-c)) (pos (-e)) p q r s):=by
  intro h;have hz:a*ev h p+b*ev h q+c*ev h r+e*ev h s=0:=by unfold ev;grind
  rw[oJ,oJ];have ea:=pn a;have eb:=pn b;have ec:=pn c;have ee:=pn e;grind
 have kd:(mix (pos a) (pos b) (pos c) (pos e) p q r s).d=(mix (pos (-a)) (pos (-b)) (pos (-c)) (pos (-e)) p q r s).d:=by
  rw[Cv,Cv];have ea:=pn a;have eb:=pn b;have ec:=pn c;have ee:=pn e;grind
 have dne:pos a≠0\/pos b≠0\/pos c≠0\/pos e≠0:=by
  apply Classical.byContradiction;intro hno;simp only[not_or,Decidable.not_not]at hno;obtain⟨z1,z2,z3,z4⟩:=hno;have:0<pos (-a)*p.d+pos (-b)*q.d+pos (-c)*r.d+pos (-e)*s.d:=by
   refine jW (p0 _) (p0 _) (p0 _) (p0 _) ?_ (fun _=>hp) (fun _=>hq) (fun _=>hr) (fun _=>hs)
   have ea:=pn a;have eb:=pn b;have ec:=pn c;have ee:=pn e;omega
  rw[Cv,Cv,z1,z2,z3,z4]at kd;omega
 have dne':pos (-a)≠0\/pos (-b)≠0\/pos (-c)≠0\/pos (-e)≠0:=by
  apply Classical.byContradiction;intro hno;simp only[not_or,Decidable.not_not]at hno;obtain⟨z1,z2,z3,z4⟩:=hno;have:0<pos a*p.d+pos b*q.d+pos c*r.d+pos e*s.d:=jW (p0 _) (p0 _) (p0 _) (p0 _) dne (fun _=>hp) (fun _=>hq) (fun _=>hr) (fun _=>hs)
  rw[Cv,Cv,z1,z2,z3,z4]at kd;omega
 refine⟨mix (pos a) (pos b) (pos c) (pos e) p q r s,?_,?_⟩
 ·rw[Cv];exact jW (p0 _) (p0 _) (p0 _) (p0 _) dne (fun _=>hp) (fun _=>hq) (fun _=>hr) (fun _=>hs)
 ·intro h hm;simp only[List.mem_cons]at hm;rcases hm with rfl|rfl|rfl|rfl|hm
  ·by_cases z:pos a=0
   ·rw[oJ];exact jW (p0 _) (p0 _) (p0 _) (p0 _) dne (fun h=>absurd z h) (fun _=>q1) (fun _=>r1) (fun _=>s1)
   ·rw[key,oJ];exact jW (p0 _) (p0 _) (p0 _) (p0 _) dne' (fun h=>absurd (pz _ z) h) (fun _=>q1) (fun _=>r1) (fun _=>s1)
  ·by_cases z:pos b=0
   ·rw[oJ];exact jW (p0 _) (p0 _) (p0 _) (p0 _) dne (fun _=>p2) (fun h=>absurd z h) (fun _=>r2) (fun _=>s2)
   ·rw[key,oJ];exact jW (p0 _) (p0 _) (p0 _) (p0 _) dne' (fun _=>p2) (fun h=>absurd (pz _ z) h) (fun _=>r2) (fun _=>s2)
  ·by_cases z:pos c=0
   ·rw[oJ];exact jW (p0 _) (p0 _) (p0 _) (p0 _) dne (fun _=>p3) (fun _=>q3) (fun h=>absurd z h) (fun _=>s3)
   ·rw[key,oJ];exact jW (p0 _) (p0 _) (p0 _) (p0 _) dne' (fun _=>p3) (fun _=>q3) (fun h=>absurd (pz _ z) h) (fun _=>s3)
  ·by_cases z:pos e=0
   ·rw[oJ];exact jW (p0 _) (p0 _) (p0 _) (p0 _) dne (fun _=>p4) (fun _=>q4) (fun _=>r4) (fun h=>absurd z h)
   ·rw[key,oJ];exact jW (p0 _) (p0 _) (p0 _) (p0 _) dne' (fun _=>p4) (fun _=>q4) (fun _=>r4) (fun h=>absurd (pz _ z) h)
  ·rw[oJ];exact jW (p0 _) (p0 _) (p0 _) (p0 _) dne (fun _=>pR _ hm) (fun _=>qR _ hm) (fun _=>rR _ hm) (fun _=>sR _ hm)
theorem Sat.sub{L M:List P3}(h:Sat L)(hs:∀x∈M,x∈L):Sat M:=by
 obtain⟨p,hp,f⟩:=h;exact⟨p,hp,fun x hx=>f x (hs x hx)⟩
theorem aK8:∀(n:Nat) (L:List P3),L.length=n->(∀a∈L,∀b∈L,∀c∈L,Sat [a,b,c])->Sat L:=by
 intro n;induction n using Nat.strongRecOn with
 |ind n ih=>
  intro L hn h;match L,hn with
  |[],_=>exact⟨⟨0,0,1⟩,by decide,fun x hx=>by cases hx⟩
  |[a],_=>exact(h a (by simp) a (by simp) a (by simp)).sub (by simp)
  |[a,b],_=>exact(h a (by simp) b (by simp) a (by simp)).sub (by simp)
  |[a,b,c],_=>exact h a (by simp) b (by simp) c (by simp)
  |a::b::c::e::R,hn=>
   have g:∀M:List P3,(∀x∈M,x∈a::b::c::e::R)->M.length<n->Sat M:=fun M hM hl=>ih M.length hl M rfl (fun x hx y hy z hz=>h x (hM x hx) y (hM y hy) z (hM z hz))
   simp only[List.length_cons]at hn;refine aKX (g _ ?_ ?_) (g _ ?_ ?_) (g _ ?_ ?_) (g _ ?_ ?_);all_goals first
    |(simp only[List.length_cons];omega)
    |(intro x hx;simp only[List.mem_cons]at hx|-;grind)
end Go.Proofs.YtdaeofhdgabhjaaGreat.Geo
namespace Go.Proofs.YtdaeofhdgabhjaaGreat.Geo
def lin(u v:V):P3:=⟨-(v.y-u.y),v.x-u.x,(v.y-u.y)*u.x-(v.x-u.x)*u.y⟩
def pt(v:V):P3:=⟨v.x,v.y,1⟩
theorem wK(u v w:V):ev (lin u v) (pt w)=cross (sub v u) (sub w u):=by unfold ev lin pt cross sub;grind
theorem Ef(u v:V):ev (lin u v) (pt u)=0:=by unfold ev lin pt;grind
theorem yA(u v:V):ev (lin u v) (pt v)=0:=by unfold ev lin pt;grind
theorem wY{n1 d1 n2 d2 n3 d3:Int}(h1:0<d1)(h2:0<d2)(h3:0<d3)(a:n1*d2<=n2*d1)(b:n2*d3<n3*d2):n1*d3<n3*d1:=by
 have e1:=Int.mul_le_mul_of_nonneg_right a (show 0<=d3 by omega)
 have e2:=Int.mul_lt_mul_of_pos_right b h1;have:(n1*d3)*d2<(n3*d1)*d2:=by grind
 exact Int.lt_of_mul_lt_mul_right this (by omega)
theorem Fr{n1 d1 n2 d2 n3 d3:Int}(h1:0<d1)(h2:0<d2)(h3:0<d3)(a:n1*d2<n2*d1)(b:n2*d3<=n3*d2):n1*d3<n3*d1:=by
 have e1:=Int.mul_lt_mul_of_pos_right a h3;have e2:=Int.mul_le_mul_of_nonneg_right b (show 0<=d1 by omega)
 have:(n1*d3)*d2<(n3*d1)*d2:=by grind
 exact Int.lt_of_mul_lt_mul_right this (by omega)
def jL:List (Int×Int)->Int->Int->Int->Int->Bool
 |[],ln,ld,hn,hd=>decide (ln*hd<hn*ld)
 |(a,b)::l,ln,ld,hn,hd=>
  if a<=0/\b<=0 then false
  else if a<0 then(if ln*(b-a)< -a*ld then jL l (-a) (b-a) hn hd else jL l ln ld hn hd)
  else if b<0 then(if a*hd<hn*(a-b)then jL l ln ld a (a-b)else jL l ln ld hn hd)
  else jL l ln ld hn hd
theorem kI:∀(l:List (Int×Int)) (ln ld hn hd:Int),0<=ln->0<ld->0<hd->hn<=hd->
  (jL l ln ld hn hd=true↔∃x y:Int,0<x/\0<y/\(∀p∈l,0<p.1*x+p.2*y)/\ln*(x+y)<y*ld/\y*hd<hn*(x+y))
 |[],ln,ld,hn,hd,h1,h2,h3,h4=>by
  simp only[jL,decide_eq_true_eq,List.not_mem_nil,false_imp_iff,implies_true,true_and];constructor
  ·intro h;have hn0:0<hn:=by
    rcases Int.lt_or_le 0 hn with h5|h5
    ·exact h5
    ·have:=Int.mul_nonneg h1 (show 0<=hd by omega)
     have:=Int.mul_nonneg (show 0<= -hn by omega) (show 0<=ld by omega)
     rw[Int.neg_mul]at this;omega
   have hl:ln<ld:=by
    rcases Int.lt_or_le ln ld with h5|h5
    ·exact h5
    ·have e1:=Int.mul_le_mul_of_nonneg_right h5 (show 0<=hd by omega)
     have e2:=Int.mul_le_mul_of_nonneg_right h4 (show 0<=ld by omega)
     rw[Int.mul_comm hd ld]at e2;omega
   refine⟨(ld-ln)+(hd-hn),ln+hn,by omega,by omega,?_,?_⟩
   ·have:ln*((ld-ln)+(hd-hn)+(ln+hn))=ln*ld+ln*hd:=by grind
    rw[this,Int.add_mul];omega
   ·have:hn*((ld-ln)+(hd-hn)+(ln+hn))=hn*ld+hn*hd:=by grind
    rw[this,Int.add_mul];omega
  ·rintro⟨x,y,hx,hy,a,b⟩;have a':ln*(x+y)<=y*ld:=by omega
   exact wY (n2:=y) (d2:=x+y) h2 (by omega) h3 a' b
 |(a,b)::l,ln,ld,hn,hd,h1,h2,h3,h4=>by
  have e1:∀x y:Int,(∀p∈(a,b)::l,0<p.1*x+p.2*y)↔(0<a*x+b*y/\∀p∈l,0<p.1*x+p.2*y):=by intro x y;simp
  simp only[e1];unfold jL;by_cases c1:a<=0/\b<=0
  ·rw[if_pos c1];constructor
   ·intro h;cases h
   ·rintro⟨x,y,hx,hy,⟨h5,_⟩,_⟩;have:=Int.mul_nonneg (show 0<= -a by omega) (show 0<=x by omega)
    have:=Int.mul_nonneg (show 0<= -b by omega) (show 0<=y by omega)
    rw[Int.neg_mul]at*;omega
  ·rw[if_neg c1];by_cases c2:a<0
   ·have hb:0<b:=by omega
    have hba:0<b-a:=by omega
    have e2:∀x y:Int,0<a*x+b*y↔ -a*(x+y)<y*(b-a):=by intro x y;constructor<;>intro h<;>grind
    rw[if_pos c2];by_cases c3:ln*(b-a)< -a*ld
    ·rw[if_pos c3,kI l (-a) (b-a) hn hd (by omega) hba h3 h4]
     constructor
     ·rintro⟨x,y,hx,hy,h5,h6,h7⟩;exact⟨x,y,hx,hy,⟨(e2 x y).2 h6,h5⟩,wY (n2:= -a) (d2:=b-a) h2 hba (by omega) (by omega) h6,h7⟩
     ·rintro⟨x,y,hx,hy,⟨h5,h6⟩,h7,h8⟩;exact⟨x,y,hx,hy,h6,(e2 x y).1 h5,h8⟩
    ·rw[if_neg c3,kI l ln ld hn hd h1 h2 h3 h4];constructor
     ·rintro⟨x,y,hx,hy,h5,h6,h7⟩;exact⟨x,y,hx,hy,⟨(e2 x y).2 (wY (n2:=ln) (d2:=ld) hba h2 (by omega) (by omega) h6),h5⟩,h6,h7⟩
     ·rintro⟨x,y,hx,hy,⟨h5,h6⟩,h7,h8⟩;exact⟨x,y,hx,hy,h6,h7,h8⟩
   ·rw[if_neg c2];by_cases c4:b<0
    ·have ha:0<a:=by omega
     have hab:0<a-b:=by omega
     have e2:∀x y:Int,0<a*x+b*y↔y*(a-b)<a*(x+y):=by intro x y;constructor<;>intro h<;>grind
     rw[if_pos c4];by_cases c3:a*hd<hn*(a-b)
     ·rw[if_pos c3,kI l ln ld a (a-b) h1 h2 hab (by omega)]
      constructor
      ·rintro⟨x,y,hx,hy,h5,h6,h7⟩;exact⟨x,y,hx,hy,⟨(e2 x y).2 h7,h5⟩,h6,Fr (n2:=a) (d2:=a-b) (by omega) hab h3 h7 (by omega)⟩
      ·rintro⟨x,y,hx,hy,⟨h5,h6⟩,h7,h8⟩;exact⟨x,y,hx,hy,h6,h7,(e2 x y).1 h5⟩
     ·rw[if_neg c3,kI l ln ld hn hd h1 h2 h3 h4];constructor
      ·rintro⟨x,y,hx,hy,h5,h6,h7⟩;exact⟨x,y,hx,hy,⟨(e2 x y).2 (Fr (n2:=hn) (d2:=hd) (by omega) h3 hab h7 (by omega)),h5⟩,h6,h7⟩
      ·rintro⟨x,y,hx,hy,⟨h5,h6⟩,h7,h8⟩;exact⟨x,y,hx,hy,h6,h7,h8⟩
    ·rw[if_neg c4,kI l ln ld hn hd h1 h2 h3 h4];constructor
     ·rintro⟨x,y,hx,hy,h5,h6,h7⟩;refine⟨x,y,hx,hy,⟨?_,h5⟩,h6,h7⟩;have g1:=Int.mul_nonneg (show 0<=a by omega) (show 0<=x by omega)
      have g2:=Int.mul_nonneg (show 0<=b by omega) (show 0<=y by omega)
      rcases Int.lt_or_le 0 a with h|h
      ·have:=Int.mul_pos h hx;omega
      ·have:=Int.mul_pos (show 0<b by omega) hy;omega
     ·rintro⟨x,y,hx,hy,⟨h5,h6⟩,h7,h8⟩;exact⟨x,y,hx,hy,h6,h7,h8⟩
structure Poly(F:List P3)(Vs:List V)(Es:List S)(c:P3):Prop where
 nonneg:∀f∈F,∀v∈Vs,0<=ev f (pt v)
 cd:0<c.d
 cin:∀f∈F,0<ev f c
 ends:∀s∈Es,s.a∈Vs/\s.b∈Vs
 side:∀q:P3,0<q.d->(∃f∈F,ev f q=0)->(∀f∈F,0<=ev f q)->∃s∈Es,∃x y k:Int,0<=x/\0<=y/\0<k/\∀h:P3,k*ev h q=x*ev h (pt s.a)+y*ev h (pt s.b)
 hull:∀q:P3,(∀f∈F,0<ev f q)->∀h:P3,(∀v∈Vs,ev h (pt v)<=0)->ev h q<=0
theorem big(q c:P3):∀(G:List P3),(∀g∈G,0<ev g q)->∃N:Int,1<=N/\∀g∈G,0<N*ev g q+ev g c
 |[],_=>⟨1,by decide,fun g hg=>by cases hg⟩
 |g::G,h=>by
  obtain⟨N,h1,h2⟩:=big q c G (fun g hg=>h g (List.mem_cons_of_mem _ hg))
  have hg:=h g List.mem_cons_self;refine⟨N+(ev g c).natAbs,by omega,?_⟩
  intro f hf;rcases List.mem_cons.1 hf with rfl|hf
  ·have:(N+(ev f c).natAbs)*1<=(N+(ev f c).natAbs)*ev f q:=Int.mul_le_mul_of_nonneg_left (by omega) (by omega)
   omega
  ·have:=h2 f hf;have h3:=h f (List.mem_cons_of_mem _ hf);have:=Int.mul_nonneg (show 0<=((ev g c).natAbs:Int) by omega) (show 0<=ev f q by omega)
   rw[Int.add_mul];omega
theorem qG{F:List P3}{Vs:List V}{Es:List S}{c:P3}(A:Poly F Vs Es c){g:P3}(h:∃v∈Vs,0<ev g (pt v)):Sat (g::F):=by
 obtain⟨v,hv,hg⟩:=h;obtain⟨N,h1,h2⟩:=big (pt v) c [g] (by simpa using hg)
 refine⟨cmb N (pt v) 1 c,?_,?_⟩
 ·have:=A.cd;simp only[cmb,pt];omega
 ·intro f hf;rw[gU];rcases List.mem_cons.1 hf with rfl|hf
  ·have:=h2 f (by simp);omega
  ·have e1:=A.nonneg f hf v hv;have e2:=A.cin f hf;have:=Int.mul_nonneg (show 0<=N by omega) e1
   omega
theorem Ly{F G:List P3}{Vs Us:List V}{Es Ds:List S}{c e:P3}(A:Poly F Vs Es c)(B:Poly G Us Ds e)
  (h1:∀g∈G,∃v∈Vs,0<ev g (pt v)) (h2:∀f∈F,∃u∈Us,0<ev f (pt u)):Sat (F++G):=by
 have hF:Sat F:=⟨c,A.cd,A.cin⟩;have hG:Sat G:=⟨e,B.cd,B.cin⟩;refine aK8 _ _ rfl ?_;intro x hx y hy z hz;simp only[List.mem_append]at hx hy hz;rcases hx with hx|hx<;>rcases hy with hy|hy<;>rcases hz with hz|hz
 ·exact hF.sub (by intro w hw;simp at hw;grind)
 ·exact(qG A (h1 z hz)).sub (by intro w hw;simp at hw|-;grind)
 ·exact(qG A (h1 y hy)).sub (by intro w hw;simp at hw|-;grind)
 ·exact(qG B (h2 x hx)).sub (by intro w hw;simp at hw|-;grind)
 ·exact(qG A (h1 x hx)).sub (by intro w hw;simp at hw|-;grind)
 ·exact(qG B (h2 y hy)).sub (by intro w hw;simp at hw|-;grind)
 ·exact(qG B (h2 z hz)).sub (by intro w hw;simp at hw|-;grind)
 ·exact hG.sub (by intro w hw;simp at hw;grind)
def sX(G:List P3)(s:S):Prop:=∃x y:Int,0<x/\0<y/\∀g∈G,0<ev g (pt s.a)*x+ev g (pt s.b)*y
theorem wA{F G:List P3}{Vs:List V}{Es:List S}{c:P3}(A:Poly F Vs Es c){s:S}(hs:s∈Es)(h:sX G s):Sat (F++G):=by
 obtain⟨x,y,hx,hy,hg⟩:=h;have hq:∀g∈G,0<ev g (cmb x (pt s.a) y (pt s.b)):=by intro g h;rw[gU];have:=hg g h;grind
 obtain⟨N,h1,h2⟩:=big _ c G hq;refine⟨cmb N (cmb x (pt s.a) y (pt s.b)) 1 c,?_,?_⟩
 ·have e1:=A.cd;have e2:=Int.mul_pos (show 0<N by omega) (show 0<x*1+y*1 by omega)
  simp only[cmb,pt];omega
 ·intro f hf;rw[gU];rcases List.mem_append.1 hf with hf|hf
  ·have e1:=A.nonneg f hf _ (A.ends s hs).1;have e2:=A.nonneg f hf _ (A.ends s hs).2;have e3:=A.cin f hf;have e4:0<=ev f (cmb x (pt s.a) y (pt s.b)):=by
    rw[gU];have:=Int.mul_nonneg (show 0<=x by omega) e1
    have:=Int.mul_nonneg (show 0<=y by omega) e2
    omega
   have:=Int.mul_nonneg (show 0<=N by omega) e4
   omega
  ·have:=h2 f hf;omega
theorem aFz(p c:P3)(hp:0<p.d)(hc:0<c.d):∀(G:List P3),(∀g∈G,0<ev g p)->
  ∃m n:Int,0<=m/\0<=n/\0<m+n/\(∀g∈G,0<=ev g (cmb m p n c))/\((∃g∈G,ev g (cmb m p n c)=0)\/(m=0/\∀g∈G,0<ev g c))
 |[],_=>⟨0,1,by omega,by omega,by omega,(fun g hg=>by cases hg),.inr ⟨rfl,(fun g hg=>by cases hg)⟩⟩
 |g::G,h=>by
  obtain⟨m,n,hm,hn,hmn,h1,h2⟩:=aFz p c hp hc G (fun g hg=>h g (List.mem_cons_of_mem _ hg))
  have hg:=h g List.mem_cons_self;rcases Int.lt_trichotomy (ev g (cmb m p n c)) 0 with h3|h3|h3
  ·
   have hq:=gU g p c m n;refine⟨-(ev g (cmb m p n c))+ev g p*m,ev g p*n,?_,?_,?_,?_,.inl ⟨g,List.mem_cons_self,?_⟩⟩
   ·have:=Int.mul_nonneg (show 0<=ev g p by omega) hm;omega
   ·exact Int.mul_nonneg (by omega) hn
   ·have e1:=Int.mul_nonneg (show 0<=ev g p by omega) hm
    have e2:=Int.mul_nonneg (show 0<=ev g p by omega) hn
    omega
   ·intro f hf;rcases List.mem_cons.1 hf with rfl|hf
    ·rw[gU];have:(-(ev f (cmb m p n c))+ev f p*m)*ev f p+ev f p*n*ev f c=0:=by rw[hq];grind
     omega
    ·have e1:=h1 f hf;have e2:=h f (List.mem_cons_of_mem _ hf);have e3:=Int.mul_nonneg (show 0<=ev g p by omega) e1
     have e4:=Int.mul_nonneg (show 0<= -(ev g (cmb m p n c)) by omega) (show 0<=ev f p by omega)
     have e5:=gU f p c m n;rw[gU];have:(-(ev g (cmb m p n c))+ev g p*m)*ev f p+ev g p*n*ev f c= -(ev g (cmb m p n c))*ev f p+ev g p*ev f (cmb m p n c):=by rw[e5];grind
     omega
   ·rw[gU,hq];grind
  ·refine⟨m,n,hm,hn,hmn,?_,.inl ⟨g,List.mem_cons_self,h3⟩⟩;intro f hf;rcases List.mem_cons.1 hf with rfl|hf
   ·omega
   ·exact h1 f hf
  ·refine⟨m,n,hm,hn,hmn,?_,?_⟩
   ·intro f hf;rcases List.mem_cons.1 hf with rfl|hf
    ·omega
    ·exact h1 f hf
   ·rcases h2 with⟨f,hf,h4⟩|⟨rfl,h4⟩
    ·exact .inl ⟨f,List.mem_cons_of_mem _ hf,h4⟩
    ·refine .inr ⟨rfl,?_⟩;intro f hf;rcases List.mem_cons.1 hf with rfl|hf
     ·rw[gU]at h3;have hn0:0<n:=by omega
      have:0<n*ev f c:=by omega
      exact Int.pos_of_mul_pos_right this hn0|>fun h=>h
     ·exact h4 f hf
theorem Ak{F:List P3}{s:S}{x y:Int}(hx:0<=x)(hy:0<=y)(h:∀f∈F,0<x*ev f (pt s.a)+y*ev f (pt s.b)):sX F s:=by
 have hq:∀f∈F,0<ev f (cmb x (pt s.a) y (pt s.b)):=by intro f hf;rw[gU];exact h f hf
 obtain⟨N,h1,h2⟩:=big _ (cmb 1 (pt s.a) 1 (pt s.b)) F hq;have e1:=Int.mul_nonneg (show 0<=N by omega) hx
 have e2:=Int.mul_nonneg (show 0<=N by omega) hy
 refine⟨N*x+1,N*y+1,by omega,by omega,?_⟩
 intro f hf;have:=h2 f hf;rw[gU,gU]at this;grind
theorem Bu{F G:List P3}{Vs Us:List V}{Es Ds:List S}{c e:P3}(A:Poly F Vs Es c)(B:Poly G Us Ds e):
  Sat (F++G)↔((∃s∈Es,sX G s)\/(∃s∈Ds,sX F s)\/∀g∈G,0<ev g c):=by
 constructor
 ·rintro⟨p,hp,h⟩;obtain⟨m,n,hm,hn,hmn,h1,h2⟩:=aFz p c hp A.cd G (fun g hg=>h g (List.mem_append_right _ hg))
  rcases h2 with h2|⟨_,h2⟩
  ·refine .inr (.inl ?_);have hd:0<(cmb m p n c).d:=by
    have:=A.cd;have e1:=Int.mul_nonneg hm (show 0<=p.d by omega)
    have e2:=Int.mul_nonneg hn (show 0<=c.d by omega)
    show 0<m*p.d+n*c.d;rcases Int.lt_or_le 0 m with h3|h3
    ·have:=Int.mul_pos h3 hp;omega
    ·have:=Int.mul_pos (show 0<n by omega) this;omega
   obtain⟨s,hs,x,y,k,hx,hy,hk,hq⟩:=B.side _ hd h2 h1;refine⟨s,hs,Ak hx hy ?_⟩;intro f hf;rw[<-hq f];refine Int.mul_pos hk ?_;rw[gU];have e1:=h f (List.mem_append_left _ hf);have e2:=A.cin f hf;have e3:=Int.mul_nonneg hm (show 0<=ev f p by omega)
   have e4:=Int.mul_nonneg hn (show 0<=ev f c by omega)
   rcases Int.lt_or_le 0 m with h3|h3
   ·have:=Int.mul_pos h3 e1;omega
   ·have:=Int.mul_pos (show 0<n by omega) e2;omega
  ·exact .inr (.inr h2)
 ·rintro(⟨s,hs,h⟩|⟨s,hs,h⟩|h)
  ·exact wA A hs h
  ·exact(wA B hs h).sub (by intro x hx;simp at hx|-;grind)
  ·refine⟨c,A.cd,?_⟩;intro f hf;rcases List.mem_append.1 hf with hf|hf
   ·exact A.cin f hf
   ·exact h f hf
theorem Gx{F G:List P3}{Vs Us:List V}{Es Ds:List S}{c e:P3}(A:Poly F Vs Es c)(B:Poly G Us Ds e):
  Sat (F++G)↔((∀g∈G,∃v∈Vs,0<ev g (pt v))/\(∀f∈F,∃u∈Us,0<ev f (pt u))):=by
 constructor
 ·rintro⟨p,hp,h⟩;constructor
  ·intro g hg;apply Classical.byContradiction;intro hno;have:=A.hull p (fun f hf=>h f (List.mem_append_left _ hf)) g (fun v hv=>by
    rcases Int.lt_or_le 0 (ev g (pt v))with h1|h1
    ·exact absurd ⟨v,hv,h1⟩ hno
    ·exact h1)
   have:=h g (List.mem_append_right _ hg);omega
  ·intro f hf;apply Classical.byContradiction;intro hno;have:=B.hull p (fun g hg=>h g (List.mem_append_right _ hg)) f (fun v hv=>by
    rcases Int.lt_or_le 0 (ev f (pt v))with h1|h1
    ·exact absurd ⟨v,hv,h1⟩ hno
    ·exact h1)
   have:=h f (List.mem_append_left _ hf);omega
 ·rintro⟨h1,h2⟩;exact Ly A B h1 h2
end Go.Proofs.YtdaeofhdgabhjaaGreat.Geo
set_option linter.unusedSimpArgs false
namespace Go.Proofs.YtdaeofhdgabhjaaGreat.Geo
def cK(s:S)(r:aM):Bool:=jL ((aD r).map fun e=>(cross (sub e.b e.a) (sub s.a e.a),cross (sub e.b e.a) (sub s.b e.a))) 0 1 1 1
def jX(r:aM):List P3:=(aD r).map fun e=>lin e.a e.b
theorem Bk(s:S)(r:aM):cK s r=true↔sX (jX r) s:=by
 unfold cK sX jX;rw[kI _ _ _ _ _ (by omega) (by omega) (by omega) (by omega)]
 constructor
 ·rintro⟨x,y,hx,hy,h,_⟩;refine⟨x,y,hx,hy,?_⟩;intro g hg;obtain⟨e,he,rfl⟩:=List.mem_map.1 hg;rw[wK,wK];exact h _ (List.mem_map.2 ⟨e,he,rfl⟩)
 ·rintro⟨x,y,hx,hy,h⟩;refine⟨x,y,hx,hy,?_,by omega,by omega⟩
  intro p hp;obtain⟨e,he,rfl⟩:=List.mem_map.1 hp;have:=h _ (List.mem_map.2 ⟨e,he,rfl⟩);rw[wK,wK]at this;exact this
def gT(a b:aM):Bool:=(List.range a.length).any fun i=>b.all fun v=>decide (cT (nth a i) (nxt a i) v<=0)
def dB(a b:aM):Bool:=gT a b||gT b a
theorem rC(a b:aM)(ha:2<=a.length):gT a b=true↔∃f∈jX a,∀v∈b,ev f (pt v)<=0:=by
 unfold gT jX aD;rw[if_neg (by omega),List.map_map]
 simp only[List.any_eq_true,List.mem_range,List.all_eq_true,decide_eq_true_eq,List.mem_map,Function.comp,dL];have sg:∀n:Int,sgn n<=0↔n<=0:=by intro n;have:=Kq n;omega
 constructor
 ·rintro⟨i,hi,h⟩;refine⟨_,⟨i,hi,rfl⟩,?_⟩;intro v hv;rw[wK];exact(sg _).1 (h v hv)
 ·rintro⟨f,⟨i,hi,rfl⟩,h⟩;refine⟨i,hi,?_⟩;intro v hv;have:=h v hv;rw[wK]at this;exact(sg _).2 this
end Go.Proofs.YtdaeofhdgabhjaaGreat.Geo
namespace Go.Proofs.YtdaeofhdgabhjaaGreat.Geo
theorem kR:∀(L:List (Int×Int)) (ln ld hn hd:Int),ln*hd<hn*ld->(∀p∈L,¬(p.1<=0/\p.2<=0))->(∀p∈L,p.1<0-> -p.1*hd<hn*(p.2-p.1))->
  (∀q∈L,q.2<0->ln*(q.1-q.2)<q.1*ld)->(∀p∈L,∀q∈L,p.1<0->q.2<0-> -p.1*(q.1-q.2)<q.1*(p.2-p.1))->jL L ln ld hn hd=true
 |[],ln,ld,hn,hd,h0,_,_,_,_=>by simpa[jL]using h0
 |(a,b)::L,ln,ld,hn,hd,h0,h1,h2,h3,h4=>by
  have i1:∀p∈L,¬(p.1<=0/\p.2<=0):=fun p hp=>h1 p (List.mem_cons_of_mem _ hp)
  have i2:∀p∈L,p.1<0-> -p.1*hd<hn*(p.2-p.1):=fun p hp=>h2 p (List.mem_cons_of_mem _ hp)
  have i3:∀q∈L,q.2<0->ln*(q.1-q.2)<q.1*ld:=fun p hp=>h3 p (List.mem_cons_of_mem _ hp)
  have i4:∀p∈L,∀q∈L,p.1<0->q.2<0-> -p.1*(q.1-q.2)<q.1*(p.2-p.1):=fun p hp q hq=>h4 p (List.mem_cons_of_mem _ hp) q (List.mem_cons_of_mem _ hq)
  unfold jL;rw[if_neg (h1 (a,b) List.mem_cons_self)];split
  ·rename_i ha;split
   ·exact kR L _ _ _ _ (h2 (a,b) List.mem_cons_self ha) i1 i2 (fun q hq hq2=>h4 (a,b) List.mem_cons_self q (List.mem_cons_of_mem _ hq) ha hq2) i4
   ·exact kR L _ _ _ _ h0 i1 i2 i3 i4
  ·split
   ·rename_i hb;split
    ·exact kR L _ _ _ _ (h3 (a,b) List.mem_cons_self hb) i1 (fun p hp hp1=>h4 p (List.mem_cons_of_mem _ hp) (a,b) List.mem_cons_self hp1 hb) i3 i4
    ·exact kR L _ _ _ _ h0 i1 i2 i3 i4
   ·exact kR L _ _ _ _ h0 i1 i2 i3 i4
theorem enters_of{F:List P3}{s:S}(h1:∀f∈F,¬(ev f (pt s.a)<=0/\ev f (pt s.b)<=0))
  (h2:∀f∈F,∀g∈F,ev f (pt s.a)<0->ev g (pt s.b)<0->ev f (pt s.a)*ev g (pt s.b)<ev g (pt s.a)*ev f (pt s.b)):sX F s:=by
 have:jL (F.map fun f=>(ev f (pt s.a),ev f (pt s.b))) 0 1 1 1=true:=by
  refine kR _ _ _ _ _ (by decide) ?_ ?_ ?_ ?_
  ·intro p hp;obtain⟨f,hf,rfl⟩:=List.mem_map.1 hp;exact h1 f hf
  ·intro p hp hp1;obtain⟨f,hf,rfl⟩:=List.mem_map.1 hp;have:=h1 f hf;simp only at hp1|-;omega
  ·intro p hp hp1;obtain⟨f,hf,rfl⟩:=List.mem_map.1 hp;have:=h1 f hf;simp only at hp1|-;omega
  ·intro p hp q hq hp1 hq2;obtain⟨f,hf,rfl⟩:=List.mem_map.1 hp;obtain⟨g,hg,rfl⟩:=List.mem_map.1 hq;have:=h2 f hf g hg hp1 hq2;simp only;grind
 rw[kI _ _ _ _ _ (by decide) (by decide) (by decide) (by decide)]at this
 obtain⟨x,y,hx,hy,h,_⟩:=this;exact⟨x,y,hx,hy,fun g hg=>h _ (List.mem_map.2 ⟨g,hg,rfl⟩)⟩
theorem Tt{F:List P3}{Vs:List V}{Es:List S}{c:P3}(A:Poly F Vs Es c){s:S}(hne:s.a≠s.b):
  sX F s↔¬((∃f∈F,ev f (pt s.a)<=0/\ev f (pt s.b)<=0)\/(∀v∈Vs,ev (lin s.a s.b) (pt v)<=0)\/(∀v∈Vs,ev (lin s.b s.a) (pt v)<=0)):=by
 constructor
 ·rintro⟨x,y,hx,hy,h⟩;have hq:∀f∈F,0<ev f (cmb x (pt s.a) y (pt s.b)):=by intro f hf;rw[gU];have:=h f hf;grind
  have flat:∀g:P3,ev g (cmb x (pt s.a) y (pt s.b))=0->(∀v∈Vs,ev g (pt v)<=0)->∀r:P3,ev g r=0:=by
   intro g hg hv r;have near0:∀r:P3,0<=ev g r:=by
    intro r;obtain⟨N,n1,n2⟩:=big (cmb x (pt s.a) y (pt s.b)) (cmb (-1) r 0 r) F hq;have:=A.hull (cmb N (cmb x (pt s.a) y (pt s.b)) (-1) r) (fun f hf=>by have h5:=n2 f hf;have h6:=gU f r r (-1) 0;rw[gU f _ r N (-1)];omega) g hv
    rw[gU,hg]at this;omega
   have e1:=near0 r;have e2:=near0 (cmb (-1) r 0 r);rw[gU]at e2;omega
  have notflat:∀g:P3,(g=lin s.a s.b\/g=lin s.b s.a)->¬(∀v∈Vs,ev g (pt v)<=0):=by
   intro g hg hv;have h0:ev g (cmb x (pt s.a) y (pt s.b))=0:=by
    rw[gU];rcases hg with rfl|rfl
    ·rw[Ef,yA];omega
    ·rw[Ef,yA];omega
   have f1:=flat g h0 hv ⟨1,0,0⟩;have f2:=flat g h0 hv ⟨0,1,0⟩;apply hne;obtain⟨⟨ax,ay⟩,⟨bx,b_y⟩⟩:=s;simp only[V.mk.injEq];rcases hg with rfl|rfl<;>simp[ev,lin]at f1 f2<;>omega
  rintro(⟨f,hf,h1,h2⟩|h1|h1)
  ·have:=h f hf;have e1:=Int.mul_nonneg (show 0<= -ev f (pt s.a) by omega) (show 0<=x by omega)
   have e2:=Int.mul_nonneg (show 0<= -ev f (pt s.b) by omega) (show 0<=y by omega)
   rw[Int.neg_mul]at e1 e2;omega
  ·exact notflat _ (.inl rfl) h1
  ·exact notflat _ (.inr rfl) h1
 ·intro hno;refine enters_of ?_ ?_
  ·intro f hf h;exact hno (.inl ⟨f,hf,h⟩)
  ·intro f hf g hg h1 h2;apply Classical.byContradiction;intro h3;have hfb:0<ev f (pt s.b):=by
    rcases Int.lt_or_le 0 (ev f (pt s.b))with h|h
    ·exact h
    ·exact absurd (.inl ⟨f,hf,by omega,h⟩) hno
   have hga:0<ev g (pt s.a):=by
    rcases Int.lt_or_le 0 (ev g (pt s.a))with h|h
    ·exact h
    ·exact absurd (.inl ⟨g,hg,h,by omega⟩) hno
   have id:∀X:P3,(f.x*g.y-f.y*g.x)*ev (lin s.a s.b) X=(ev f (pt s.b)-ev f (pt s.a))*ev g X-(ev g (pt s.b)-ev g (pt s.a))*ev f X+(ev f (pt s.a)*ev g (pt s.b)-ev g (pt s.a)*ev f (pt s.b))*X.d:=by
    intro X;unfold ev lin pt;grind
   have val:∀X:P3,0<=ev f X->0<=ev g X->0<=X.d->0<=(f.x*g.y-f.y*g.x)*ev (lin s.a s.b) X:=by
    intro X hf hg hd;rw[id];have e1:=Int.mul_nonneg (show 0<=ev f (pt s.b)-ev f (pt s.a) by omega) hg
    have e2:=Int.mul_nonneg (show 0<= -(ev g (pt s.b)-ev g (pt s.a)) by omega) hf
    have e3:=Int.mul_nonneg (show 0<=ev f (pt s.a)*ev g (pt s.b)-ev g (pt s.a)*ev f (pt s.b) by omega) hd
    rw[Int.neg_mul]at e2;omega
   have hc:0<(f.x*g.y-f.y*g.x)*ev (lin s.a s.b) c:=by
    rw[id];have e1:=Int.mul_pos (show 0<ev f (pt s.b)-ev f (pt s.a) by omega) (A.cin g hg)
    have e2:=Int.mul_nonneg (show 0<= -(ev g (pt s.b)-ev g (pt s.a)) by omega) (show 0<=ev f c by have:=A.cin f hf;omega)
    have e3:=Int.mul_nonneg (show 0<=ev f (pt s.a)*ev g (pt s.b)-ev g (pt s.a)*ev f (pt s.b) by omega) (show 0<=c.d by have:=A.cd;omega)
    rw[Int.neg_mul]at e2;omega
   have hv:∀v∈Vs,0<=(f.x*g.y-f.y*g.x)*ev (lin s.a s.b) (pt v):=fun v hv=>val _ (A.nonneg f hf v hv) (A.nonneg g hg v hv) (show(0:Int)<=1 by decide)
   generalize f.x*g.y-f.y*g.x=k at*;apply hno;rcases Int.lt_trichotomy k 0 with hk|hk|hk
   ·refine .inr (.inl ?_);intro v hvm;rcases Int.lt_or_le 0 (ev (lin s.a s.b) (pt v))with h|h
    ·have:=Int.mul_neg_of_neg_of_pos hk h;have:=hv v hvm;omega
    ·exact h
   ·rw[hk,Int.zero_mul]at hc;omega
   ·refine .inr (.inr ?_);intro v hvm;have e:ev (lin s.b s.a) (pt v)= -ev (lin s.a s.b) (pt v):=by unfold ev lin pt;grind
    rw[e];rcases Int.lt_or_le (ev (lin s.a s.b) (pt v)) 0 with h|h
    ·have:=Int.mul_neg_of_pos_of_neg hk h;have:=hv v hvm;omega
    ·omega
theorem aDZ{x:Int}(h:x.tmod 3=0):x.tdiv 3*3=x:=by
 obtain⟨q,rfl⟩:=Int.dvd_of_tmod_eq_zero h;rw[Int.mul_tdiv_cancel_left q (by decide)];omega
theorem Zl(f:P3)(u v w:V):0<ev f ⟨(mC u v w).x,(mC u v w).y,(mC u v w).den⟩↔0<ev f ⟨u.x+v.x+w.x,u.y+v.y+w.y,3⟩:=by
 unfold mC;generalize u.x+v.x+w.x=x at*;generalize u.y+v.y+w.y=y at*;split
 ·rename_i h;have e1:=aDZ h.1;have e2:=aDZ h.2;have:ev f ⟨x,y,3⟩=3*ev f ⟨x.tdiv 3,y.tdiv 3,1⟩:=by unfold ev;grind
  rw[this];simp only;omega
 ·exact Iff.rfl
def iF(s:Shape)(r:aM):Bool:=(aY s).all (fun e=> !(cK e r))&&dZ s (mC (nth r 0) (nth r 1) (nth r 2))==2
def fF(s:Shape)(r:aM):Bool:=(aY s).all (fun e=>dB r [e.a,e.b])&&fH s (jG (r.take 3))==2
theorem VR.Ce{r:aM}(h:VR r){e:S}(he:e∈aD r):e.a≠e.b:=by
 have hn:=h.nodup;unfold aD at he;split at he
 ·cases he
 ·rename_i hl;obtain⟨i,hi,rfl⟩:=List.mem_map.1 he;have hi:=List.mem_range.1 hi;intro h2;have h3:nth r i=nth r ((i+1) % r.length):=h2;have:=h.inj hi (Nat.mod_lt _ (by omega)) h3
  by_cases h4:i+1<r.length
  ·rw[Nat.mod_eq_of_lt h4]at this;omega
  ·have h5:i+1=r.length:=by omega
   rw[h5,Nat.mod_self]at this;omega
theorem VS.Ce{s:Shape}(h:VS s){e:S}(he:e∈aY s):e.a≠e.b:=by
 unfold aY at he;obtain⟨r,hr,he⟩:=List.mem_flatMap.1 he;exact(h.ring hr).Ce he
end Go.Proofs.YtdaeofhdgabhjaaGreat.Geo
namespace Go.Proofs.YtdaeofhdgabhjaaGreat
open Go.RowKit
set_option maxRecDepth 100000
noncomputable section
open Geo (aM dB cD dW aY jG nth gT fH fF)
def swR(a b:aM)(n:Nat):aM:=if n % 2=0 then a else b
theorem aBp(a b:aM)(n:Nat):swR b a n=swR a b (n+1):=by unfold swR;split<;>split<;>first|rfl|omega
def rU(a b:aM)(i k:Nat):Bool:=(List.range k).all fun j=>decide (Geo.cT (nth a i) (nth a ((i+1) % a.length)) (nth b j)<=0)
theorem Vt(a b:aM)(i k:Nat):rU a b i (k+1)=(rU a b i k&&decide (Geo.cT (nth a i) (nth a ((i+1) % a.length)) (nth b k)<=0)):=by
 unfold rU;rw[List.range_succ,List.all_append];simp
theorem aGH(a b:aM)(i:Nat):rU a b i b.length=b.all fun v=>decide (Geo.cT (nth a i) (Geo.nxt a i) v<=0):=by
 unfold rU;rw[Bool.eq_iff_iff,List.all_eq_true,List.all_eq_true];constructor
 ·intro h v hv;obtain⟨j,hj,rfl⟩:=Geo.fJ.1 hv;exact h j (List.mem_range.2 hj)
 ·intro h j hj;exact h _ (Geo.dV (List.mem_range.1 hj))
theorem Ev(a b:aM):gT a b=(List.range a.length).any fun i=>rU a b i b.length:=by
 unfold gT;congr 1;funext i;rw[aGH]
theorem Sr{a b:aM}{i:Nat}(hi:i<a.length)(h:rU a b i b.length=true):gT a b=true:=by
 rw[Ev];exact List.any_eq_true.2 ⟨i,List.mem_range.2 hi,h⟩
theorem Ye{a b:aM}(h:aU (fun i=>rU a b i b.length=false) a.length):gT a b=false:=by
 rw[Ev];exact List.any_eq_false.2 fun i hi=>by rw[h i (List.mem_range.1 hi)];simp
theorem aCz{a b:aM}{n:Nat}(h:gT (swR a b n) (swR b a n)=true):true=dB a b:=by
 unfold swR at h;unfold dB;split at h
 ·rw[h];rfl
 ·rw[h];simp
theorem aCA{a b:aM}(h:aU (fun n=>gT (swR a b n) (swR b a n)=false) 2):false=dB a b:=by
 have h0:=h 0 (by omega)
 have h1:=h 1 (by omega)
 unfold swR at h0 h1;unfold dB;rw[show gT a b=false from h0,show gT b a=false from h1];rfl
def c77:Con:=con (ac (aL .V) (ac (aL .V) (a1 (aF 78)))) (fun(a,b,_)=>[a.length<=1000000,b.length<=1000000]) (fun(a,b,_)=> .int .i64 (cD a b))
theorem k77:c77.Ok Tryz.prog 77:=aX (bK aAh) (raw:=bO) (fun(a,b,_)=>[lp 2 13 a.length (fun k=>[k<=b.length,aU (fun j=>dW (nth a j) (nth b j)=0) k]) [] (fun _=>[]) (fun _=>[])]
  ) (fun(_,_,_)=>⟨_,rfl⟩) fun(a,b,u) hp=>bL (q:=(0=(0:Int)/\(0:Nat)<=a.length/\(0:Nat)<=b.length/\aU (fun j=>dW (nth a j) (nth b j)=0) 0)/\
 (∀x:Nat,x<=a.length/\x<=b.length/\aU (fun j=>dW (nth a j) (nth b j)=0) x->((x:Int)<a.length->ix (x:Int) a.length/\((b.length:Int)<=x->1=cD a b)/\
   (¬(b.length:Int)<=x->ix (x:Int) b.length/\(¬dW (nth a x) (nth b x)=0->dW (nth a x) (nth b x)=cD a b)/\
    (¬(¬dW (nth a x) (nth b x)=0)->aJ ((x:Int)+1)/\(x:Int)+1=((x+1:Nat):Int)/\x+1<=a.length/\x+1<=b.length/\aU (fun j=>dW (nth a j) (nth b j)=0) (x+1)/\a.length-(x+1)<a.length-x)))/\
  (¬(x:Int)<a.length->((a.length:Int)<b.length-> -1=cD a b)/\
   (¬(a.length:Int)<b.length->0=cD a b)))) (by kernel_rfl) (by
  change a.length<=1000000/\b.length<=1000000 at hp;have g1:∀x:Nat,(x:Int)<a.length->x<=b.length->aU (fun j=>dW (nth a j) (nth b j)=0) x->(b.length:Int)<=x->1=cD a b:=fun x h1 h2 h3 h4=>by
   rw[uD (k:=x) (by omega) h2 (.inr (by omega)) h3];unfold Geo.sgn;rw[if_pos (by omega)]
  have g2:∀x:Nat,¬(x:Int)<a.length->x<=a.length->x<=b.length->aU (fun j=>dW (nth a j) (nth b j)=0) x->cD a b=Geo.sgn ((a.length:Int)-b.length):=fun x h1 h2 h3 h4=>uD h2 h3 (.inl (by omega)) h4
  have s1:(a.length:Int)<b.length-> -1=Geo.sgn ((a.length:Int)-b.length):=fun h=>by unfold Geo.sgn;rw[if_neg (by omega),if_pos (by omega)]
  have s2:(a.length:Int)=b.length->0=Geo.sgn ((a.length:Int)-b.length):=fun h=>by unfold Geo.sgn;rw[if_neg (by omega),if_neg (by omega)]
  repeat' first|with_reducible apply And.intro|with_reducible intro
  all_goals repeat with_reducible cases‹_/\_›
  all_goals first|assumption|rfl|exact trivial|exact nb ‹_› |exact nb' ‹_› |omega|exact cQ (by omega)|(unfold ix;omega)|(unfold aJ;omega)|exact bC _|exact aE ‹_› ‹_› |(refine aE ‹_› ?_;simp_all;done)|exact(Fy ‹_› ‹_› (by omega) (by omega)).symm|exact g1 _ ‹_› ‹_› ‹_› ‹_› |(rw[g2 _ ‹_› ‹_› ‹_› ‹_›];first|exact s1 ‹_› |exact s2 (by omega))|exact aE ‹_› (Decidable.of_not_not ‹¬¬_›)|grind)
def t77:Tab:=cC [(77,c77)] aFV
theorem aHj:t77.Ok Tryz.prog:=aK aAh ⟨k77,trivial⟩
def c26:Con:=con (ac (aL .V) (a1 (aL .V))) (fun(a,b)=>[a.length<=1000000,b.length<=1000000]) (fun(a,b)=> .int .i64 (cD a b))
theorem k26:c26.Ok Tryz.prog 26:=aX (bK aHj) (raw:=bO) (fun(_,_)=>[]
 ) (fun(_,_)=>⟨_,rfl⟩) fun(a,b) hp=>bL (q:=a.length<=1000000/\b.length<=1000000/\cD a b=cD a b) (by kernel_rfl) (by
 change a.length<=1000000/\b.length<=1000000 at hp;exact⟨hp.1,hp.2,rfl⟩)
def t26:Tab:=cC [(26,c26)] t77
theorem aHH:t26.Ok Tryz.prog:=aK aHj ⟨k26,trivial⟩
def c93:Con:=con (ac (aL .V) (a1 (aL .V))) (fun(a,b)=>[a.length<=1000,b.length<=1000,(∀v∈a,bd 1000000000 v),(∀v∈b,bd 1000000000 v)]) (fun(a,b)=> .bool (dB a b))
theorem k93:c93.Ok Tryz.prog 93:=aX (bK aHH) (raw:=bO) (fun(a,b)=>[lp 2 5 2 (fun n=>[aU (fun j=>gT (swR a b j) (swR b a j)=false) n]) [] (fun n=>[(0,.lst .V (swR a b n)),(1,.lst .V (swR b a n))]) (fun _=>[]) fun n=>[cnt 5 6 (swR a b n).length (aU fun i=>rU (swR a b n) (swR b a n) i (swR b a n).length=false) fun i=>[lp 9 8 (swR b a n).length (fun _=>[]) [] (fun k=>[(7,.bool (rU (swR a b n) (swR b a n) i k))]) (fun _=>[])]]]
  ) (fun(_,_)=>⟨_,rfl⟩) fun(a,b) hp=>bL (q:=(0=(0:Int)/\a=swR a b 0/\b=swR b a 0/\(0:Nat)<=2/\aU (fun j=>gT (swR a b j) (swR b a j)=false) 0)/\
 (∀x:Nat,x<=2/\aU (fun j=>gT (swR a b j) (swR b a j)=false) x->((x:Int)<2->(0=(0:Int)/\(0:Nat)<=(swR a b x).length/\aU (fun i=>rU (swR a b x) (swR b a x) i (swR b a x).length=false) 0)/\
   (∀x_1:Nat,x_1<=(swR a b x).length/\aU (fun i=>rU (swR a b x) (swR b a x) i (swR b a x).length=false) x_1->((x_1:Int)<(swR a b x).length->(0=(0:Int)/\true=rU (swR a b x) (swR b a x) x_1 0/\(0:Nat)<=(swR b a x).length)/\
     (∀x_2:Nat,x_2<=(swR b a x).length->((x_2:Int)<(swR b a x).length->(rU (swR a b x) (swR b a x) x_1 x_2=true->ix (x_1:Int) (swR a b x).length/\aJ ((x_1:Int)+1)/\((swR a b x).length:Int)≠0/\ix (((x_1+1) % (swR a b x).length:Nat):Int) (swR a b x).length/\ix (x_2:Int) (swR b a x).length/\bd 1000000000 (nth (swR a b x) x_1)/\bd 1000000000 (nth (swR a b x) ((x_1+1) % (swR a b x).length))/\bd 1000000000 (nth (swR b a x) x_2)/\aJ ((x_2:Int)+1)/\(x_2:Int)+1=((x_2+1:Nat):Int)/\decide (Geo.cT (nth (swR a b x) x_1) (nth (swR a b x) ((x_1+1) % (swR a b x).length)) (nth (swR b a x) x_2)<=0)=rU (swR a b x) (swR b a x) x_1 (x_2+1)/\x_2+1<=(swR b a x).length/\(swR b a x).length-(x_2+1)<(swR b a x).length-x_2)/\
       (rU (swR a b x) (swR b a x) x_1 x_2=false->aJ ((x_2:Int)+1)/\(x_2:Int)+1=((x_2+1:Nat):Int)/\false=rU (swR a b x) (swR b a x) x_1 (x_2+1)/\x_2+1<=(swR b a x).length/\(swR b a x).length-(x_2+1)<(swR b a x).length-x_2))/\
      (¬(x_2:Int)<(swR b a x).length->(rU (swR a b x) (swR b a x) x_1 x_2=true->true=dB a b)/\
       (rU (swR a b x) (swR b a x) x_1 x_2=false->aJ ((x_1:Int)+1)/\(x_1:Int)+1=((x_1+1:Nat):Int)/\x_1+1<=(swR a b x).length/\aU (fun i=>rU (swR a b x) (swR b a x) i (swR b a x).length=false) (x_1+1)/\(swR a b x).length-(x_1+1)<(swR a b x).length-x_1))))/\
    (¬(x_1:Int)<(swR a b x).length->aJ ((x:Int)+1)/\(x:Int)+1=((x+1:Nat):Int)/\swR b a x=swR a b (x+1)/\swR a b x=swR b a (x+1)/\x+1<=2/\aU (fun j=>gT (swR a b j) (swR b a j)=false) (x+1)/\2-(x+1)<2-x)))/\
  (¬(x:Int)<2->false=dB a b))) (by kernel_rfl) (by
  change a.length<=1000/\b.length<=1000/\((∀v∈a,bd 1000000000 v))/\((∀v∈b,bd 1000000000 v))at hp;obtain⟨la,lb,va,vb⟩:=hp;have l1:∀n,(swR a b n).length<=1000:=fun n=>by unfold swR;split<;>assumption
  have l2:∀n,(swR b a n).length<=1000:=fun n=>by unfold swR;split<;>assumption
  have v1:∀n i,i<(swR a b n).length->bd 1000000000 (nth (swR a b n) i):=fun n i h=>by
   have:=Geo.dV h;unfold swR at this|-;split at this<;>rename_i e
   ·rw[if_pos e];exact va _ this
   ·rw[if_neg e];exact vb _ this
  have v2:∀n i,i<(swR b a n).length->bd 1000000000 (nth (swR b a n) i):=fun n i h=>by
   have:=Geo.dV h;unfold swR at this|-;split at this<;>rename_i e
   ·rw[if_pos e];exact vb _ this
   ·rw[if_neg e];exact va _ this
  have z:∀A B:aM,∀i,true=rU A B i 0:=fun A B i=>rfl
  have us:∀(A B:aM) (i k:Nat),rU A B i k=true->decide (Geo.cT (nth A i) (nth A ((i+1) % A.length)) (nth B k)<=0)=rU A B i (k+1):=fun A B i k h=>by rw[Vt,h,Bool.true_and]
  have uf:∀(A B:aM) (i k:Nat),rU A B i k=false->false=rU A B i (k+1):=fun A B i k h=>by rw[Vt,h,Bool.false_and]
  have yes:∀n i k:Nat,(i:Int)<(swR a b n).length->¬(k:Int)<(swR b a n).length->k<=(swR b a n).length->rU (swR a b n) (swR b a n) i k=true->true=dB a b:=fun n i k h1 h2 h3 h4=>by
   obtain rfl:k=(swR b a n).length:=by omega
   exact aCz (n:=n) (Sr (by omega) h4)
  have no:∀n i k:Nat,¬(k:Int)<(swR b a n).length->k<=(swR b a n).length->rU (swR a b n) (swR b a n) i k=false->aU (fun i=>rU (swR a b n) (swR b a n) i (swR b a n).length=false) i->aU (fun i=>rU (swR a b n) (swR b a n) i (swR b a n).length=false) (i+1):=fun n i k h2 h3 h4 h5=>by
   obtain rfl:k=(swR b a n).length:=by omega
   exact aE h5 h4
  have nx:∀n i:Nat,¬(i:Int)<(swR a b n).length->i<=(swR a b n).length->aU (fun i=>rU (swR a b n) (swR b a n) i (swR b a n).length=false) i->aU (fun j=>gT (swR a b j) (swR b a j)=false) n->aU (fun j=>gT (swR a b j) (swR b a j)=false) (n+1):=fun n i h1 h2 h3 h4=>by
   obtain rfl:i=(swR a b n).length:=by omega
   exact aE h4 (Ye h3)
  have fin:∀n:Nat,¬(n:Int)<2->n<=2->aU (fun j=>gT (swR a b j) (swR b a j)=false) n->false=dB a b:=fun n h1 h2 h3=>by
   obtain rfl:n=2:=by omega
   exact aCA h3
  have e0:a=swR a b 0:=rfl;have e1:b=swR b a 0:=rfl
  repeat' first|with_reducible apply And.intro|with_reducible intro
  all_goals repeat with_reducible cases‹_/\aU _ _›
  all_goals first|assumption|exact z _ _ _|exact us _ _ _ _ ‹_› |exact uf _ _ _ _ ‹_› |exact yes _ _ _ ‹_› ‹_› ‹_› ‹_› |exact no _ _ _ ‹_› ‹_› ‹_› ‹_› |exact nx _ _ ‹_› ‹_› ‹_› ‹_› |exact fin _ ‹_› ‹_› ‹_› |exact aBp _ _ _|exact bC _|exact v1 _ _ (by omega)|exact v2 _ _ (by omega)|exact v1 _ _ (Nat.mod_lt _ (by omega))|exact cQ (by omega)|omega|(have:=l1 ‹Nat›;unfold ix;omega)|(unfold aJ;have h1:=l1;have h2:=l2;omega)|(unfold ix;omega)|(have h1:=l1;have h2:=l2;exact cP (by grind))|grind)
def t93:Tab:=cC [(93,c93)] t26
theorem aLj:t93.Ok Tryz.prog:=aK aHH ⟨k93,trivial⟩
def t94:Tab:=t93
theorem aLi:t94.Ok Tryz.prog:=aLj
def c92:Con:=con (ac aSh (a1 (aL .V))) (fun(s,r)=>[Fit s,3<=r.length,r.length<=1000,(∀v∈r,bd 10000 v),(aY s).length<=1000000,(∀e∈aY s,bd 10000 e.a/\bd 10000 e.b)]) (fun(s,r)=> .bool (fF s r))
theorem k92:c92.Ok Tryz.prog 92:=aX (bK aLi) (raw:=bO) (fun(s,r)=>[cnt 3 6 (aY s).length (aU fun i=>dB r [(bB (aY s) i).a,(bB (aY s) i).b] =true)]
  ) (fun(_,_)=>⟨_,rfl⟩) fun(s,r) hp=>bL (q:=Fit s/\(0=(0:Int)/\(0:Nat)<=(aY s).length/\aU (fun i=>dB r [(bB (aY s) i).a,(bB (aY s) i).b] =true) 0)/\
 (∀x:Nat,x<=(aY s).length/\aU (fun i=>dB r [(bB (aY s) i).a,(bB (aY s) i).b] =true) x->((x:Int)<(aY s).length->ix (x:Int) (aY s).length/\ix (x:Int) (aY s).length/\r.length<=1000/\[(bB (aY s) x).a,(bB (aY s) x).b].length<=1000/\(∀v:Geo.V,v∈r->bd 1000000000 v)/\(∀v:Geo.V,v∈[(bB (aY s) x).a,(bB (aY s) x).b]->bd 1000000000 v)/\((!dB r [(bB (aY s) x).a,(bB (aY s) x).b])=true->false=fF s r)/\
   ((!dB r [(bB (aY s) x).a,(bB (aY s) x).b])=false->aJ ((x:Int)+1)/\(x:Int)+1=((x+1:Nat):Int)/\x+1<=(aY s).length/\aU (fun i=>dB r [(bB (aY s) i).a,(bB (aY s) i).b] =true) (x+1)/\(aY s).length-(x+1)<(aY s).length-x))/\
  (¬(x:Int)<(aY s).length->((0:Int)<=3/\3<=(r.length:Int))/\(0:Nat)<(List.take 3 r).length/\(List.take 3 r).length<=1000/\(∀v:Geo.V,v∈List.take 3 r->bd 10000 v)/\Fit s/\decide (fH s (jG (List.take 3 r))=2)=fF s r))) (by kernel_rfl) (by
  change Fit s/\3<=r.length/\r.length<=1000/\((∀v∈r,bd 10000 v))/\(aY s).length<=1000000/\((∀e∈aY s,bd 10000 e.a/\bd 10000 e.b))at hp;obtain⟨hf,l3,lr,vr,le,ve⟩:=hp;have ve:∀x:Nat,(x:Int)<(aY s).length->∀v∈[(bB (aY s) x).a,(bB (aY s) x).b],bd 1000000000 v:=fun x h v hv=>by
   have:=ve _ (List.getElem_mem (show x<(aY s).length by omega))
   rw[<-gP (by omega)]at this
   rcases List.mem_cons.1 hv with rfl|hv
   ·exact this.1.mono
   ·rw[List.mem_singleton.1 hv];exact this.2.mono
  have vr9:∀v∈r,bd 1000000000 v:=fun v hv=>(vr v hv).mono
  have vt:∀v∈List.take 3 r,bd 10000 v:=fun v hv=>vr v (List.mem_of_mem_take hv)
  have lt:(List.take 3 r).length=3:=by rw[List.length_take];omega
  have no:∀x:Nat,(x:Int)<(aY s).length->(!dB r [(bB (aY s) x).a,(bB (aY s) x).b])=true->false=fF s r:=fun x h h2=>by
   unfold fF;rw[show((aY s).all fun e=>dB r [e.a,e.b])=false from List.all_eq_false.2 ⟨_,List.getElem_mem (show x<(aY s).length by omega),by
    rw[<-gP (by omega),nb' h2];simp⟩]
   rfl
  have yes:∀x:Nat,¬(x:Int)<(aY s).length->x<=(aY s).length->aU (fun i=>dB r [(bB (aY s) i).a,(bB (aY s) i).b] =true) x->decide (fH s (jG (List.take 3 r))=2)=fF s r:=fun x h1 h2 h3=>by
   obtain rfl:x=(aY s).length:=by omega
   unfold fF;rw[show((aY s).all fun e=>dB r [e.a,e.b])=true from List.all_eq_true.2 fun e he=>by
    obtain⟨j,hj,rfl⟩:=List.getElem_of_mem he;have:=h3 j hj;dsimp only at this;rw[gP hj]at this;exact this]
   rw[Bool.true_and,Bool.eq_iff_iff];simp
  repeat' first|with_reducible apply And.intro|with_reducible intro
  all_goals repeat with_reducible cases‹_/\_›
  all_goals first|assumption|rfl|exact trivial|exact nb ‹_› |exact nb' ‹_› |omega|exact cQ (by omega)|(unfold ix;omega)|(unfold aJ;omega)|exact bC _|exact aE ‹_› ‹_› |(refine aE ‹_› ?_;simp_all;done)|exact ve _ ‹_› _ ‹_› |exact no _ ‹_› ‹_› |exact yes _ ‹_› ‹_› ‹_› |exact Nat.le_of_lt (by decide)|(show 2<=1000;omega)|exact aE ‹_› (nb ‹_›)|grind)
end
end Go.Proofs.YtdaeofhdgabhjaaGreat
namespace Go.Proofs.YtdaeofhdgabhjaaGreat.Geo
structure CR(r:aM):Prop where
 len:3<=r.length
 pos:∀i n,i<r.length->n<r.length->n≠i->n≠(i+1) % r.length->0<ev (lin (nth r i) (nxt r i)) (pt (nth r n))
 near:∀v∈r,bG v 2000=true
theorem kP{r:aM}(h:2<=r.length){f:P3}:f∈jX r↔∃i,i<r.length/\f=lin (nth r i) (nxt r i):=by
 unfold jX aD;rw[if_neg (by omega),List.map_map]
 simp only[List.mem_map,List.mem_range,Function.comp,dL];constructor
 ·rintro⟨i,hi,rfl⟩;exact⟨i,hi,rfl⟩
 ·rintro⟨i,hi,rfl⟩;exact⟨i,hi,rfl⟩
theorem CR.nonneg{r:aM}(h:CR r){i n:Nat}(hi:i<r.length)(hn:n<r.length):0<=ev (lin (nth r i) (nxt r i)) (pt (nth r n)):=by
 by_cases e1:n=i
 ·rw[e1,Ef];exact Int.le_refl _
 by_cases e2:n=(i+1) % r.length
 ·rw[e2];unfold nxt;rw[yA];exact Int.le_refl _
 exact Int.le_of_lt (h.pos i n hi hn e1 e2)
theorem id3(u v w:V)(h q:P3):ev (lin u v) (pt w)*ev h q=ev (lin v w) q*ev h (pt u)+ev (lin w u) q*ev h (pt v)+ev (lin u v) q*ev h (pt w):=by
 unfold ev lin pt;grind
theorem aB2(u v w:V):ev (lin u v) (pt w)=ev (lin v w) (pt u):=by unfold ev lin pt;grind
theorem Im(u v:V)(q:P3):ev (lin v u) q= -ev (lin u v) q:=by unfold ev lin;grind
theorem Ix{D:Nat->Int}:∀{n:Nat},0<=D 1->D (n+2)<0->∃i,1<=i/\i<=n+1/\0<=D i/\D (i+1)<0
 |0,h1,h2=>⟨1,by omega,by omega,h1,h2⟩
 |n+1,h1,h2=>by
  by_cases h:0<=D (n+2)
  ·exact⟨n+2,by omega,by omega,h,h2⟩
  ·obtain⟨i,a,b,c,d⟩:=Ix (n:=n) h1 (by omega)
   exact⟨i,a,by omega,c,d⟩
def aCL(r:aM):P3:=⟨(nth r 0).x+(nth r 1).x+(nth r 2).x,(nth r 0).y+(nth r 1).y+(nth r 2).y,3⟩
theorem CR.poly{r:aM}(h:CR r):Poly (jX r) r (aD r) (aCL r):=by
 have hl:=h.len;have c0:∀f:P3,ev f (aCL r)=ev f (pt (nth r 0))+ev f (pt (nth r 1))+ev f (pt (nth r 2)):=by intro f;unfold aCL ev pt;grind
 have md:∀i,i<r.length->(i+1) % r.length<r.length:=fun i _=>Nat.mod_lt _ (by omega)
 have mdc:∀i,i<r.length->((i+1) % r.length=i+1/\i+1<r.length)\/((i+1) % r.length=0/\i+1=r.length):=fun i hi=>by
  by_cases h4:i+1<r.length
  ·exact .inl ⟨Nat.mod_eq_of_lt h4,h4⟩
  ·have h5:i+1=r.length:=by omega
   exact .inr ⟨by rw[h5,Nat.mod_self],h5⟩
 refine⟨?_,(show(0:Int)<3 by decide),?_,?_,?_,?_⟩
 ·intro f hf v hv;obtain⟨i,hi,rfl⟩:=(kP (by omega)).1 hf
  obtain⟨n,hn,rfl⟩:=fJ.1 hv;exact h.nonneg hi hn
 ·intro f hf;obtain⟨i,hi,rfl⟩:=(kP (by omega)).1 hf
  rw[c0];have e0:=h.nonneg hi (show 0<r.length by omega)
  have e1:=h.nonneg hi (show 1<r.length by omega)
  have e2:=h.nonneg hi (show 2<r.length by omega)
  have:(0≠i/\0≠(i+1) % r.length)\/(1≠i/\1≠(i+1) % r.length)\/(2≠i/\2≠(i+1) % r.length):=by
   rcases mdc i hi with⟨a,b⟩|⟨a,b⟩<;>rw[a] <;>omega
  rcases this with⟨a,b⟩|⟨a,b⟩|⟨a,b⟩
  ·have:=h.pos i 0 hi (by omega) a b;omega
  ·have:=h.pos i 1 hi (by omega) a b;omega
  ·have:=h.pos i 2 hi (by omega) a b;omega
 ·intro s hs;unfold aD at hs;rw[if_neg (by omega)]at hs
  obtain⟨i,hi,rfl⟩:=List.mem_map.1 hs;have hi:=List.mem_range.1 hi;exact⟨fJ.2 ⟨i,hi,rfl⟩,fJ.2 ⟨_,md i hi,rfl⟩⟩
 ·rintro q hq ⟨f,hf,hz⟩ hn;obtain⟨i,hi,rfl⟩:=(kP (by omega)).1 hf
  have hj:=md i hi;obtain⟨p,hp,ep⟩:∃p,p<r.length/\(p+1) % r.length=i:=by
   by_cases h0:i=0
   ·exact⟨r.length-1,by omega,by rw[h0,Nat.sub_add_cancel (by omega),Nat.mod_self]⟩
   ·exact⟨i-1,by omega,by rw[Nat.sub_add_cancel (by omega),Nat.mod_eq_of_lt hi]⟩
  have hk:=md _ hj;have n1:=hn (lin (nth r ((i+1) % r.length)) (nxt r ((i+1) % r.length))) ((kP (by omega)).2 ⟨_,hj,rfl⟩)
  have n2:=hn (lin (nth r p) (nxt r p)) ((kP (by omega)).2 ⟨_,hp,rfl⟩)
  have ea:nxt r p=nth r i:=by unfold nxt;rw[ep]
  have eb:nxt r i=nth r ((i+1) % r.length):=rfl;rw[ea]at n2;have K1:0<ev (lin (nth r i) (nxt r i)) (pt (nxt r ((i+1) % r.length))):=by
   refine h.pos i _ hi hk ?_ ?_
   ·rcases mdc i hi with⟨a,b⟩|⟨a,b⟩<;>rw[a]
    ·rcases mdc (i+1) b with⟨c,d⟩|⟨c,d⟩<;>rw[c] <;>omega
    ·rw[Nat.mod_eq_of_lt (by omega)];omega
   ·rcases mdc i hi with⟨a,b⟩|⟨a,b⟩<;>rw[a]
    ·rcases mdc (i+1) b with⟨c,d⟩|⟨c,d⟩<;>rw[c] <;>omega
    ·rw[Nat.mod_eq_of_lt (by omega)];omega
  have K2:0<ev (lin (nth r p) (nth r i)) (pt (nxt r i)):=by
   have:=h.pos p ((i+1) % r.length) hp hj ?_ ?_
   ·rw[ea]at this;exact this
   ·rcases mdc p hp with⟨a,b⟩|⟨a,b⟩
    ·rcases mdc i hi with⟨c,d⟩|⟨c,d⟩<;>rw[c] <;>omega
    ·have:i=0:=by omega
     subst this;rw[Nat.mod_eq_of_lt (by omega)];omega
   ·rw[ep];rcases mdc i hi with⟨c,d⟩|⟨c,d⟩<;>rw[c] <;>omega
  have id:=fun g=>id3 (nth r i) (nxt r i) (nxt r ((i+1) % r.length)) g q
  rw[hz]at id;refine⟨dL r i,?_,ev (lin (nxt r i) (nxt r ((i+1) % r.length))) q,ev (lin (nxt r ((i+1) % r.length)) (nth r i)) q,_,n1,?_,K1,fun g=>by rw[id g];show _+_+0*_=_;rw[Int.zero_mul,Int.add_zero];rfl⟩
  ·unfold aD;rw[if_neg (by omega)];exact List.mem_map_of_mem (List.mem_range.2 hi)
  ·have e:=id (lin (nth r p) (nth r i));rw[yA,Int.mul_zero,Int.zero_add,Int.zero_mul,Int.add_zero]at e;rcases Int.lt_or_le (ev (lin (nxt r ((i+1) % r.length)) (nth r i)) q) 0 with h5|h5
   ·have:=Int.mul_neg_of_neg_of_pos h5 K2;have:=Int.mul_nonneg (Int.le_of_lt K1) n2;omega
   ·exact h5
 ·intro q hq g hg;have d1:=hq _ ((kP (by omega)).2 ⟨0,show 0<r.length by omega,rfl⟩)
  have d2:=hq _ ((kP (by omega)).2 ⟨r.length-1,show r.length-1<r.length by omega,rfl⟩)
  have e1:nxt r 0=nth r 1:=by unfold nxt;rw[Nat.mod_eq_of_lt (by omega)]
  have e2:nxt r (r.length-1)=nth r 0:=by unfold nxt;rw[Nat.sub_add_cancel (by omega),Nat.mod_self]
  rw[e1]at d1;rw[e2]at d2;have d3:=Im (nth r 0) (nth r (r.length-1)) q;obtain⟨i,a,b,c,d⟩:=Ix (D:=fun i=>ev (lin (nth r 0) (nth r i)) q) (n:=r.length-3) (Int.le_of_lt d1) (by show ev (lin (nth r 0) (nth r (r.length-3+2))) q<0;rw[show r.length-3+2=r.length-1 by omega];omega)
  have hi:i+1<r.length:=by omega
  have K:=h.pos i 0 (by omega) (by omega) (by omega) (by rw[Nat.mod_eq_of_lt hi];omega)
  have f1:=hq _ ((kP (by omega)).2 ⟨i,show i<r.length by omega,rfl⟩)
  have en:nxt r i=nth r (i+1):=by unfold nxt;rw[Nat.mod_eq_of_lt hi]
  rw[en]at K f1;rw[<-aB2]at K;have id:=id3 (nth r 0) (nth r i) (nth r (i+1)) g q;have g1:=hg _ (fJ.2 ⟨0,show 0<r.length by omega,rfl⟩)
  have g2:=hg _ (fJ.2 ⟨i,show i<r.length by omega,rfl⟩)
  have g3:=hg _ (fJ.2 ⟨i+1,hi,rfl⟩);have d4:=Im (nth r 0) (nth r (i+1)) q;have c:0<=ev (lin (nth r 0) (nth r i)) q:=c;have d:ev (lin (nth r 0) (nth r (i+1))) q<0:=d;have p1:=Int.mul_nonneg (Int.le_of_lt f1) (show 0<= -ev g (pt (nth r 0)) by omega)
  have p2:=Int.mul_nonneg (show 0<=ev (lin (nth r (i+1)) (nth r 0)) q by omega) (show 0<= -ev g (pt (nth r i)) by omega)
  have p3:=Int.mul_nonneg c (show 0<= -ev g (pt (nth r (i+1))) by omega)
  rw[Int.mul_neg]at p1 p2 p3;rcases Int.lt_or_le 0 (ev g q)with h1|h1
  ·have:=Int.mul_pos K h1;omega
  ·exact h1
def dA(r:aM):Bool:=decide (3<=r.length)&&(r.all (fun v=>bG v 2000)&&(List.range r.length).all fun i=>(List.range r.length).all fun n=>decide (n=i)||decide (n=(i+1) % r.length)||decide (0<cT (nth r i) (nxt r i) (nth r n)))
theorem CR.of{r:aM}(h:dA r=true):CR r:=by
 unfold dA at h;simp only[Bool.and_eq_true,decide_eq_true_eq,List.all_eq_true,List.mem_range,Bool.or_eq_true]at h;obtain⟨h1,h2,h3⟩:=h;refine⟨h1,fun i n hi hn e1 e2=> ?_,h2⟩
 rcases h3 i hi n hn with(h4|h4)|h4
 ·exact absurd h4 e1
 ·exact absurd h4 e2
 ·rw[wK];exact(Kq _).1 h4
def gC(r:aM)(p:Pt):Bool:=(aD r).all fun e=>decide (0<(e.b.x-e.a.x)*(p.y-e.a.y*p.den)-(e.b.y-e.a.y)*(p.x-e.a.x*p.den))
theorem Hd(r:aM)(p:Pt):gC r p=true↔∀g∈jX r,0<ev g ⟨p.x,p.y,p.den⟩:=by
 unfold gC jX;simp only[List.all_eq_true,decide_eq_true_eq,List.mem_map];have e:∀s:S,(s.b.x-s.a.x)*(p.y-s.a.y*p.den)-(s.b.y-s.a.y)*(p.x-s.a.x*p.den)=ev (lin s.a s.b) ⟨p.x,p.y,p.den⟩:=by intro s;unfold ev lin;grind
 constructor
 ·rintro h g ⟨s,hs,rfl⟩;rw[<-e];exact h s hs
 ·intro h s hs;rw[e];exact h _ ⟨s,hs,rfl⟩
def cV(a b:aM):Bool:=(aD a).any (fun s=>cK s b)||((aD b).any (fun s=>cK s a)||gC b (mC (nth a 0) (nth a 1) (nth a 2)))
theorem Az{a b:aM}(ha:CR a)(hb:CR b):cV a b= !(dB a b):=by
 have A:=ha.poly;have B:=hb.poly;have la:=ha.len;have lb:=hb.len;have h1:=Bu A B;have h2:=Gx A B;rw[Bool.eq_iff_iff];unfold cV dB;simp only[Bool.or_eq_true,List.any_eq_true,Bk,Hd,Bool.not_eq_true',Bool.or_eq_false_iff];simp only[Zl];show(_\/_\/∀g∈jX b,0<ev g (aCL a))↔_;rw[<-h1,h2];have r1:=rC a b (by omega)
 have r2:=rC b a (by omega)
 have nt:∀b:Bool,b=false↔¬b=true:=by decide
 rw[nt,nt,r1,r2];constructor
 ·rintro⟨h3,h4⟩;constructor
  ·rintro⟨f,hf,h5⟩;obtain⟨p,hp,h6⟩:=h4 f hf;have:=h5 p hp;omega
  ·rintro⟨f,hf,h5⟩;obtain⟨p,hp,h6⟩:=h3 f hf;have:=h5 p hp;omega
 ·rintro⟨h3,h4⟩;constructor
  ·intro g hg;apply Classical.byContradiction;intro hno;refine h4 ⟨g,hg,?_⟩;intro p hp;rcases Int.lt_or_le 0 (ev g (pt p))with h|h
   ·exact absurd ⟨p,hp,h⟩ hno
   ·exact h
  ·intro g hg;apply Classical.byContradiction;intro hno;refine h3 ⟨g,hg,?_⟩;intro p hp;rcases Int.lt_or_le 0 (ev g (pt p))with h|h
   ·exact absurd ⟨p,hp,h⟩ hno
   ·exact h
theorem Fv{r:aM}(hr:CR r){e:S}(hne:e.a≠e.b):cK e r= !(dB r [e.a,e.b]):=by
 have A:=hr.poly;have lr:=hr.len;have lE:jX [e.a,e.b] =[lin e.a e.b,lin e.b e.a] :=by simp[jX,aD,dL,nth,nxt,List.range_succ]
 have h1:=Tt A hne;have nt:∀b:Bool,b=false↔¬b=true:=by decide
 rw[Bool.eq_iff_iff,Bk,h1];unfold dB;rw[Bool.not_eq_true',nt,Bool.or_eq_true,rC _ _ (by omega),rC _ _ (by simp),lE]
 simp
theorem Sc{s:Shape}(hs:VS s){r:aM}(hr:CR r):iF s r=fF s r:=by
 unfold iF fF;have lr:=hr.len;have e1:(aY s).all (fun e=> !(cK e r))=(aY s).all (fun e=>dB r [e.a,e.b]):=by
  rw[Bool.eq_iff_iff,List.all_eq_true,List.all_eq_true];constructor
  ·intro h e he;have:=h e he;rw[Fv hr (hs.Ce he)]at this;simpa using this
  ·intro h e he;have:=h e he;rw[Fv hr (hs.Ce he),this];rfl
 rw[e1,El];match r,lr with
 |u::v::w::r,_=>
  rw[show(u::v::w::r).take 3=[u,v,w]from rfl,Sy]
  rfl
def bY(a b:List aM):Bool:=a.any fun r=>b.any fun o=>dA r&&(dA o&&cV r o)
end Go.Proofs.YtdaeofhdgabhjaaGreat.Geo
namespace Go.Proofs.YtdaeofhdgabhjaaGreat
open Go.RowKit
abbrev Q4:=Int×Int×Int×Int
def oW(q:Q4)(p:Int×Int):Q4:=
 if p.1<0 then(if q.1*(p.2-p.1)< -p.1*q.2.1 then(-p.1,p.2-p.1,q.2.2)else q)
 else if p.2<0 then(if p.1*q.2.2.2<q.2.2.1*(p.1-p.2)then(q.1,q.2.1,p.1,p.1-p.2)else q)else q
def Bp(p:Int×Int):Bool:=decide (p.1<=0)&&decide (p.2<=0)
theorem jB:∀(l:List (Int×Int)) (q:Q4),Geo.jL l q.1 q.2.1 q.2.2.1 q.2.2.2=(!(l.any Bp)&&decide ((l.foldl oW q).1*(l.foldl oW q).2.2.2<(l.foldl oW q).2.2.1*(l.foldl oW q).2.1))
 |[],q=>by simp[Geo.jL] <;>congr
 |(a,b)::l,(ln,ld,hn,hd)=>by
  unfold Geo.jL;rw[List.any_cons,List.foldl_cons];by_cases h1:a<=0/\b<=0
  ·have:Bp (a,b)=true:=by unfold Bp;simp[h1.1,h1.2]
   rw[if_pos h1,this];simp
  ·have h2:Bp (a,b)=false:=by unfold Bp;rw[Bool.and_eq_false_iff,decide_eq_false_iff_not,decide_eq_false_iff_not];omega
   rw[if_neg h1,h2,Bool.false_or];unfold oW;dsimp only;by_cases h3:a<0
   ·rw[if_pos h3,if_pos h3];by_cases h4:ln*(b-a)< -a*ld
    ·rw[if_pos h4,if_pos h4];exact jB l (-a,b-a,hn,hd)
    ·rw[if_neg h4,if_neg h4];exact jB l (ln,ld,hn,hd)
   ·rw[if_neg h3,if_neg h3];by_cases h5:b<0
    ·rw[if_pos h5,if_pos h5];by_cases h4:a*hd<hn*(a-b)
     ·rw[if_pos h4,if_pos h4];exact jB l (ln,ld,a,a-b)
     ·rw[if_neg h4,if_neg h4];exact jB l (ln,ld,hn,hd)
    ·rw[if_neg h5,if_neg h5];exact jB l (ln,ld,hn,hd)
def sO(s e:Geo.S):Int×Int:=(Geo.cross (Geo.sub e.b e.a) (Geo.sub s.a e.a),Geo.cross (Geo.sub e.b e.a) (Geo.sub s.b e.a))
def qT(s:Geo.S)(r:Geo.aM):List (Int×Int):=(Geo.aD r).map (sO s)
def stE(s:Geo.S)(r:Geo.aM)(k:Nat):Q4:=((qT s r).take k).foldl oW (0,1,1,1)
def lnE(s:Geo.S)(r:Geo.aM)(k:Nat):Int:=(stE s r k).1
def ldE(s:Geo.S)(r:Geo.aM)(k:Nat):Int:=(stE s r k).2.1
def hnE(s:Geo.S)(r:Geo.aM)(k:Nat):Int:=(stE s r k).2.2.1
def hdE(s:Geo.S)(r:Geo.aM)(k:Nat):Int:=(stE s r k).2.2.2
def ibd(m x:Int):Prop:= -m<=x/\x<=m
def vO(s:Geo.S)(r:Geo.aM)(k:Nat):Prop:=((qT s r).take k).any Bp=false/\ibd 1600000000 (lnE s r k)/\ibd 1600000000 (ldE s r k)/\ibd 1600000000 (hnE s r k)/\ibd 1600000000 (hdE s r k)
theorem Yt(s:Geo.S)(r:Geo.aM):vO s r 0:=by
 unfold vO lnE ldE hnE hdE stE ibd;simp
theorem If{s:Geo.S}{r:Geo.aM}{k:Nat}(hk:k<(Geo.aD r).length):(qT s r)[k]? =some (sO s (Geo.aD r)[k]):=by
 unfold qT;rw[List.getElem?_map,List.getElem?_eq_getElem hk];rfl
theorem Nh{s:Geo.S}{r:Geo.aM}{k:Nat}(hk:k<(Geo.aD r).length):stE s r (k+1)=oW (stE s r k) (sO s (Geo.aD r)[k]):=by
 unfold stE;rw[List.take_add_one,If hk,List.foldl_append];rfl
theorem Yu{s:Geo.S}{r:Geo.aM}{k:Nat}(hk:k<(Geo.aD r).length)(h:vO s r k)(ho:Bp (sO s (Geo.aD r)[k])=false)
  (ha:ibd 800000000 (sO s (Geo.aD r)[k]).1) (hb:ibd 800000000 (sO s (Geo.aD r)[k]).2):vO s r (k+1):=by
 obtain⟨h1,h2,h3,h4,h5⟩:=h;unfold vO;refine⟨?_,?_⟩
 ·rw[List.take_add_one,If hk,List.any_append,h1];simp[ho]
 ·unfold lnE ldE hnE hdE at*;rw[Nh hk];generalize sO s (Geo.aD r)[k] =p at ha hb|-;generalize stE s r k=q at h2 h3 h4 h5|-;obtain⟨a,b⟩:=p;obtain⟨ln,ld,hn,hd⟩:=q;unfold ibd at*;dsimp only at*;unfold oW;dsimp only;split
  ·split
   ·dsimp only;omega
   ·dsimp only;omega
  ·split
   ·split
    ·dsimp only;omega
    ·dsimp only;omega
   ·dsimp only;omega
theorem Ts{s:Geo.S}{r:Geo.aM}{k:Nat}(hk:k<(Geo.aD r).length)(ho:Bp (sO s (Geo.aD r)[k])=true):Geo.cK s r=false:=by
 have h:=jB (qT s r) (0,1,1,1);have hm:(qT s r).any Bp=true:=List.any_eq_true.2 ⟨_,List.mem_map.2 ⟨_,List.getElem_mem hk,rfl⟩,ho⟩;rw[hm]at h;exact h
theorem Tu{s:Geo.S}{r:Geo.aM}(h:vO s r (Geo.aD r).length):Geo.cK s r=decide (lnE s r (Geo.aD r).length*hdE s r (Geo.aD r).length<hnE s r (Geo.aD r).length*ldE s r (Geo.aD r).length):=by
 have hl:(qT s r).length=(Geo.aD r).length:=by unfold qT;rw[List.length_map]
 have h1:=h.1;have e:=jB (qT s r) (0,1,1,1);unfold lnE ldE hnE hdE stE;rw[<-hl,List.take_length]at h1|-;rw[h1]at e;exact e
structure TriOk(r:Geo.aM):Prop where
 three:3<=r.length
 len:r.length<=1000
 near:∀v∈r,Geo.bG v 10000=true
 aD:∀e∈Geo.aD r,Geo.bG e.a 10000=true/\Geo.bG e.b 10000=true
theorem aBl{r:Geo.aM}(h:Geo.VR r){e:Geo.S}(he:e∈Geo.aD r):Geo.bG e.a 10000=true/\Geo.bG e.b 10000=true:=by
 have h3:=h.three;unfold Geo.aD at he;rw[if_neg (by omega)]at he
 obtain⟨i,hi,rfl⟩:=List.mem_map.1 he;have hi:=List.mem_range.1 hi;exact⟨Geo.mR (Geo.qJ h.near i hi) (by omega),Geo.mR (Geo.qJ h.near _ (Nat.mod_lt _ (by omega))) (by omega)⟩
end Go.Proofs.YtdaeofhdgabhjaaGreat
namespace Go.Proofs.YtdaeofhdgabhjaaGreat
open Go.RowKit
set_option maxRecDepth 100000
noncomputable section
open Geo (aY nth)
def tC:Tab:=cC [(92,c92),(93,c93)] t48
theorem tCo:tC.Ok Tryz.prog:=aK aLt ⟨k92,k93,trivial⟩
structure ROk(r:Geo.aM):Prop where
 three:3<=r.length
 len:r.length<=1000
 near:∀v∈r,bd 10000 v
def eG(s:Geo.S)(r:Geo.aM)(k:Nat):Int×Int:=sO s (Geo.dL r k)
def gA(s:Geo.S)(r:Geo.aM)(k:Nat):Int:=(eG s r k).1
def gB(s:Geo.S)(r:Geo.aM)(k:Nat):Int:=(eG s r k).2
def gO(s:Geo.S)(r:Geo.aM)(k:Nat):Bool:=Bp (eG s r k)
theorem Ja{r:Geo.aM}(h:3<=r.length):(Geo.aD r).length=r.length:=by
 unfold Geo.aD;rw[if_neg (by omega),List.length_map,List.length_range]
theorem yD{r:Geo.aM}(h:3<=r.length){k:Nat}(hk:k<(Geo.aD r).length):(Geo.aD r)[k] =Geo.dL r k:=by
 have:∀(l:List Geo.S) (hl:l=(List.range r.length).map (Geo.dL r)) (hk:k<l.length),l[k] =Geo.dL r k:=fun l hl hk=>by
  subst hl;simp
 exact this _ (by unfold Geo.aD;rw[if_neg (by omega)]) hk
def aJW:Con:=con (ac aS (a1 (aL .V))) (fun(s,r)=>[bd 10000 s.a,bd 10000 s.b,ROk r]) (fun(s,r)=> .bool (Geo.cK s r))
set_option maxHeartbeats 2000000 in
theorem aMg:aJW.Ok Tryz.prog 167:=aX (bK tCo) (raw:=bO) (fun(s,r)=>[(3,.mk Nat (fun F _=>sQ F 16) [] (fun k=>[k<=r.length,vO s r k]) (fun k=>[(16,.int .i64 (k:Int)),(5,.int .i64 (lnE s r k)),(6,.int .i64 (ldE s r k)),(7,.int .i64 (hnE s r k)),(8,.int .i64 (hdE s r k))]) (fun _=>[]) (fun k=>r.length-k) fun k=>
  [jU 7 [(12,.int .i64 (gA s r k)),(13,.int .i64 (gB s r k))],jb 8 43 (gO s r k),jPU 15 [gO s r k=false] [(5,.int .i64 (lnE s r (k+1))),(6,.int .i64 (ldE s r (k+1))),(7,.int .i64 (hnE s r (k+1))),(8,.int .i64 (hdE s r (k+1)))]])]
  ) (fun(_,_)=>⟨_,rfl⟩) fun(s,r) hp=>bL (q:=(0=(0:Int)/\0=lnE s r 0/\1=ldE s r 0/\1=hnE s r 0/\1=hdE s r 0/\(0:Nat)<=r.length/\vO s r 0)/\
 (∀x:Nat,x<=r.length/\vO s r x->((x:Int)<r.length->(ix (x:Int) r.length/\aJ ((x:Int)+1)/\(r.length:Int)≠0/\ix (((x+1) % r.length:Nat):Int) r.length/\bd 1000000000 (nth r ((x+1) % r.length))/\bd 1000000000 (nth r x)/\(bd 1000000000 s.a/\bd 1000000000 (nth r x)/\cOK (Geo.sub (nth r ((x+1) % r.length)) (nth r x)) (Geo.sub s.a (nth r x))/\bd 1000000000 s.b/\bd 1000000000 (nth r x)/\cOK (Geo.sub (nth r ((x+1) % r.length)) (nth r x)) (Geo.sub s.b (nth r x))/\Geo.cross (Geo.sub (nth r ((x+1) % r.length)) (nth r x)) (Geo.sub s.a (nth r x))=gA s r x/\Geo.cross (Geo.sub (nth r ((x+1) % r.length)) (nth r x)) (Geo.sub s.b (nth r x))=gB s r x)/\
    (∀y:Unit,((gA s r x<=0->decide (gB s r x<=0)=gO s r x)/\
      (¬gA s r x<=0->false=gO s r x))/\
     (∀y_1:Unit,(gO s r x=true->false=Geo.cK s r)/\
      (gO s r x=false->(gA s r x<0->aJ (0-gA s r x)/\aJ ((0-gA s r x)*ldE s r x)/\aJ (gB s r x-gA s r x)/\aJ (lnE s r x*(gB s r x-gA s r x))/\(lnE s r x*(gB s r x-gA s r x)<(0-gA s r x)*ldE s r x->aJ (0-gA s r x)/\aJ (gB s r x-gA s r x)/\0-gA s r x=lnE s r (x+1)/\gB s r x-gA s r x=ldE s r (x+1)/\hnE s r x=hnE s r (x+1)/\hdE s r x=hdE s r (x+1)/\gO s r x=false)/\
        (¬lnE s r x*(gB s r x-gA s r x)<(0-gA s r x)*ldE s r x->lnE s r x=lnE s r (x+1)/\ldE s r x=ldE s r (x+1)/\hnE s r x=hnE s r (x+1)/\hdE s r x=hdE s r (x+1)/\gO s r x=false))/\
       (¬gA s r x<0->(gB s r x<0->aJ (gA s r x*hdE s r x)/\aJ (gA s r x-gB s r x)/\aJ (hnE s r x*(gA s r x-gB s r x))/\(gA s r x*hdE s r x<hnE s r x*(gA s r x-gB s r x)->aJ (gA s r x-gB s r x)/\lnE s r x=lnE s r (x+1)/\ldE s r x=ldE s r (x+1)/\gA s r x=hnE s r (x+1)/\gA s r x-gB s r x=hdE s r (x+1)/\gO s r x=false)/\
         (¬gA s r x*hdE s r x<hnE s r x*(gA s r x-gB s r x)->lnE s r x=lnE s r (x+1)/\ldE s r x=ldE s r (x+1)/\hnE s r x=hnE s r (x+1)/\hdE s r x=hdE s r (x+1)/\gO s r x=false))/\
        (¬gB s r x<0->lnE s r x=lnE s r (x+1)/\ldE s r x=ldE s r (x+1)/\hnE s r x=hnE s r (x+1)/\hdE s r x=hdE s r (x+1)/\gO s r x=false))))))/\
   (∀y:Unit,gO s r x=false->aJ ((x:Int)+1)/\(x:Int)+1=((x+1:Nat):Int)/\lnE s r (x+1)=lnE s r (x+1)/\ldE s r (x+1)=ldE s r (x+1)/\hnE s r (x+1)=hnE s r (x+1)/\hdE s r (x+1)=hdE s r (x+1)/\x+1<=r.length/\vO s r (x+1)/\r.length-(x+1)<r.length-x))/\
  (¬(x:Int)<r.length->aJ (lnE s r x*hdE s r x)/\aJ (hnE s r x*ldE s r x)/\decide (lnE s r x*hdE s r x<hnE s r x*ldE s r x)=Geo.cK s r))) (by kernel_rfl) (by
  change bd 10000 s.a/\bd 10000 s.b/\ROk r at hp;obtain⟨ha,hb,h3⟩:=hp;have l3:=h3.three;have hl:=h3.len;have hN:∀i:Nat,i<r.length->bd 10000 (nth r i):=fun i h=>h3.near _ (Geo.dV h)
  have el:(Geo.aD r).length=r.length:=Ja l3;have md:∀i:Nat,(i:Int)<r.length->(i+1) % r.length<r.length:=fun i h=>Nat.mod_lt _ (by omega)
  have ha9:bd 1000000000 s.a:=ha.mono;have hb9:bd 1000000000 s.b:=hb.mono;have e9a:∀i:Nat,(i:Int)<r.length->bd 1000000000 (nth r i):=fun i h=>(hN i (by omega)).mono
  have e9b:∀i:Nat,(i:Int)<r.length->bd 1000000000 (nth r ((i+1) % r.length)):=fun i h=>(hN _ (md i h)).mono
  have x1:∀i:Nat,(i:Int)<r.length->ix (((i+1) % r.length:Nat):Int) r.length:=fun i h=>eE (md i h)
  have cA:∀(v:Geo.V) (i:Nat),bd 10000 v->(i:Int)<r.length->cOK (Geo.sub (nth r ((i+1) % r.length)) (nth r i)) (Geo.sub v (nth r i)):=fun v i hv h=>by
   have:=iW (gS (hN _ (md i h)) (hN i (by omega))) (gS hv (hN i (by omega)))
   unfold cOK;omega
  have bA:∀i:Nat,(i:Int)<r.length->ibd 800000000 (gA s r i)/\ibd 800000000 (gB s r i):=fun i h=>by
   have h0:bd 10000 (Geo.nxt r i):=hN _ (md i h);have h1:=iW (gS h0 (hN i (by omega))) (gS ha (hN i (by omega)))
   have h2:=iW (gS h0 (hN i (by omega))) (gS hb (hN i (by omega)))
   unfold gA gB eG sO ibd Geo.dL;dsimp only;unfold Geo.cross;omega
  have sN:∀i:Nat,(i:Int)<r.length->stE s r (i+1)=oW (stE s r i) (eG s r i):=fun i h=>by
   rw[Nh (show i<(Geo.aD r).length by omega),yD l3];rfl
  have iN:∀i:Nat,(i:Int)<r.length->vO s r i->gO s r i=false->vO s r (i+1):=fun i h h1 h2=>by
   have hb:=bA i h;have hk:i<(Geo.aD r).length:=by omega
   have e:eG s r i=sO s (Geo.aD r)[i] :=by rw[yD l3];rfl
   refine Yu hk h1 ?_ ?_ ?_
   ·rw[<-e];exact h2
   ·rw[<-e];exact hb.1
   ·rw[<-e];exact hb.2
  have oY:∀i:Nat,(i:Int)<r.length->gO s r i=true->false=Geo.cK s r:=fun i h h2=>by
   symm;refine Ts (k:=i) (show i<(Geo.aD r).length by omega) ?_
   rw[yD l3];exact h2
  have oE:∀i:Nat,¬(i:Int)<r.length->i<=r.length->vO s r i->decide (lnE s r i*hdE s r i<hnE s r i*ldE s r i)=Geo.cK s r:=fun i h h2 h3=>by
   obtain rfl:i=r.length:=by omega
   rw[<-el]at h3|-;rw[Tu h3]
  have o1:∀i:Nat,gA s r i<=0->decide (gB s r i<=0)=gO s r i:=fun i h=>by
   unfold gO Bp;rw[decide_eq_true (show(eG s r i).1<=0 from h)];rfl
  have o2:∀i:Nat,¬gA s r i<=0->false=gO s r i:=fun i h=>by
   unfold gO Bp;rw[decide_eq_false (show¬(eG s r i).1<=0 from h)];rfl
  have nN:∀x:Int,0-x= -x:=fun x=>by omega
  have s1:∀i:Nat,(i:Int)<r.length->gA s r i<0->lnE s r i*(gB s r i-gA s r i)<(0-gA s r i)*ldE s r i->stE s r (i+1)=(0-gA s r i,gB s r i-gA s r i,hnE s r i,hdE s r i):=fun i h h1 h2=>by
   rw[sN i h];unfold oW;rw[if_pos (show(eG s r i).1<0 from h1)];rw[nN]at h2;exact(if_pos (show(stE s r i).1*((eG s r i).2-(eG s r i).1)< -(eG s r i).1*(stE s r i).2.1 from h2)).trans (by rw[nN];rfl)
  have s2:∀i:Nat,(i:Int)<r.length->gA s r i<0->¬lnE s r i*(gB s r i-gA s r i)<(0-gA s r i)*ldE s r i->stE s r (i+1)=stE s r i:=fun i h h1 h2=>by
   rw[sN i h];unfold oW;rw[if_pos (show(eG s r i).1<0 from h1)];rw[nN]at h2;exact if_neg h2
  have s3:∀i:Nat,(i:Int)<r.length->¬gA s r i<0->gB s r i<0->gA s r i*hdE s r i<hnE s r i*(gA s r i-gB s r i)->stE s r (i+1)=(lnE s r i,ldE s r i,gA s r i,gA s r i-gB s r i):=fun i h h1 h2 h3=>by
   rw[sN i h];unfold oW;rw[if_neg (show¬(eG s r i).1<0 from h1),if_pos (show(eG s r i).2<0 from h2)];exact if_pos h3
  have s4:∀i:Nat,(i:Int)<r.length->¬gA s r i<0->gB s r i<0->¬gA s r i*hdE s r i<hnE s r i*(gA s r i-gB s r i)->stE s r (i+1)=stE s r i:=fun i h h1 h2 h3=>by
   rw[sN i h];unfold oW;rw[if_neg (show¬(eG s r i).1<0 from h1),if_pos (show(eG s r i).2<0 from h2)];exact if_neg h3
  have s5:∀i:Nat,(i:Int)<r.length->¬gA s r i<0->¬gB s r i<0->stE s r (i+1)=stE s r i:=fun i h h1 h2=>by
   rw[sN i h];unfold oW;rw[if_neg (show¬(eG s r i).1<0 from h1)];exact if_neg (show¬(eG s r i).2<0 from h2)
  have w:∀i:Nat,(i:Int)<r.length->vO s r i->aJ (0-gA s r i)/\aJ ((0-gA s r i)*ldE s r i)/\aJ (gB s r i-gA s r i)/\aJ (lnE s r i*(gB s r i-gA s r i))/\aJ (gA s r i*hdE s r i)/\aJ (gA s r i-gB s r i)/\aJ (hnE s r i*(gA s r i-gB s r i)):=fun i h hI=>by
   obtain⟨h1,h2⟩:=bA i h;obtain⟨_,g1,g2,g3,g4⟩:=hI;unfold ibd at h1 h2 g1 g2 g3 g4;have m1:=fR (x:=0-gA s r i) (y:=ldE s r i) (A:=1600000000) (B:=1600000000) (by omega) (by omega)
   have m2:=fR (x:=lnE s r i) (y:=gB s r i-gA s r i) (A:=1600000000) (B:=1600000000) (by omega) (by omega)
   have m3:=fR (x:=gA s r i) (y:=hdE s r i) (A:=1600000000) (B:=1600000000) (by omega) (by omega)
   have m4:=fR (x:=hnE s r i) (y:=gA s r i-gB s r i) (A:=1600000000) (B:=1600000000) (by omega) (by omega)
   exact⟨cP (by omega),cP (by omega),cP (by omega),cP (by omega),cP (by omega),cP (by omega),cP (by omega)⟩
  have wE:∀i:Nat,vO s r i->aJ (lnE s r i*hdE s r i)/\aJ (hnE s r i*ldE s r i):=fun i hI=>by
   obtain⟨_,g1,g2,g3,g4⟩:=hI;unfold ibd at g1 g2 g3 g4;have m1:=fR (x:=lnE s r i) (y:=hdE s r i) (A:=1600000000) (B:=1600000000) (by omega) (by omega)
   have m2:=fR (x:=hnE s r i) (y:=ldE s r i) (A:=1600000000) (B:=1600000000) (by omega) (by omega)
   exact⟨cP (by omega),cP (by omega)⟩
  have z:=Yt s r;have q1:∀i:Nat,(i:Int)<r.length->gA s r i<0->lnE s r i*(gB s r i-gA s r i)<(0-gA s r i)*ldE s r i->0-gA s r i=lnE s r (i+1)/\gB s r i-gA s r i=ldE s r (i+1)/\hnE s r i=hnE s r (i+1)/\hdE s r i=hdE s r (i+1):=fun i h0 h1 h2=>by
   have e:=s1 i h0 h1 h2;exact⟨(congrArg (fun q:Q4=>q.1) e).symm,(congrArg (fun q:Q4=>q.2.1) e).symm,(congrArg (fun q:Q4=>q.2.2.1) e).symm,(congrArg (fun q:Q4=>q.2.2.2) e).symm⟩
  have q2:∀i:Nat,(i:Int)<r.length->gA s r i<0->¬lnE s r i*(gB s r i-gA s r i)<(0-gA s r i)*ldE s r i->lnE s r i=lnE s r (i+1)/\ldE s r i=ldE s r (i+1)/\hnE s r i=hnE s r (i+1)/\hdE s r i=hdE s r (i+1):=fun i h0 h1 h2=>by
   have e:=s2 i h0 h1 h2;exact⟨(congrArg (fun q:Q4=>q.1) e).symm,(congrArg (fun q:Q4=>q.2.1) e).symm,(congrArg (fun q:Q4=>q.2.2.1) e).symm,(congrArg (fun q:Q4=>q.2.2.2) e).symm⟩
  have q3:∀i:Nat,(i:Int)<r.length->¬gA s r i<0->gB s r i<0->gA s r i*hdE s r i<hnE s r i*(gA s r i-gB s r i)->lnE s r i=lnE s r (i+1)/\ldE s r i=ldE s r (i+1)/\gA s r i=hnE s r (i+1)/\gA s r i-gB s r i=hdE s r (i+1):=fun i h0 h1 h2 h3=>by
   have e:=s3 i h0 h1 h2 h3;exact⟨(congrArg (fun q:Q4=>q.1) e).symm,(congrArg (fun q:Q4=>q.2.1) e).symm,(congrArg (fun q:Q4=>q.2.2.1) e).symm,(congrArg (fun q:Q4=>q.2.2.2) e).symm⟩
  have q4:∀i:Nat,(i:Int)<r.length->¬gA s r i<0->gB s r i<0->¬gA s r i*hdE s r i<hnE s r i*(gA s r i-gB s r i)->lnE s r i=lnE s r (i+1)/\ldE s r i=ldE s r (i+1)/\hnE s r i=hnE s r (i+1)/\hdE s r i=hdE s r (i+1):=fun i h0 h1 h2 h3=>by
   have e:=s4 i h0 h1 h2 h3;exact⟨(congrArg (fun q:Q4=>q.1) e).symm,(congrArg (fun q:Q4=>q.2.1) e).symm,(congrArg (fun q:Q4=>q.2.2.1) e).symm,(congrArg (fun q:Q4=>q.2.2.2) e).symm⟩
  have q5:∀i:Nat,(i:Int)<r.length->¬gA s r i<0->¬gB s r i<0->lnE s r i=lnE s r (i+1)/\ldE s r i=ldE s r (i+1)/\hnE s r i=hnE s r (i+1)/\hdE s r i=hdE s r (i+1):=fun i h0 h1 h2=>by
   have e:=s5 i h0 h1 h2;exact⟨(congrArg (fun q:Q4=>q.1) e).symm,(congrArg (fun q:Q4=>q.2.1) e).symm,(congrArg (fun q:Q4=>q.2.2.1) e).symm,(congrArg (fun q:Q4=>q.2.2.2) e).symm⟩
  clear sN bA nN s1 s2 s3 s4 s5 hN md
  repeat' first|with_reducible apply And.intro|with_reducible intro
  all_goals repeat with_reducible cases‹_/\vO _ _ _›
  all_goals first|assumption|with_reducible rfl|(with_reducible exact e9a _ ‹_›)|(with_reducible exact e9b _ ‹_›)|(with_reducible exact x1 _ ‹_›)|(with_reducible exact cA _ _ ‹_› ‹_›)|(with_reducible exact oY _ ‹_› ‹_›)|(with_reducible exact oE _ ‹_› ‹_› ‹_›)|(with_reducible exact o1 _ ‹_›)|(with_reducible exact o2 _ ‹_›)|(with_reducible exact(w _ ‹_› ‹_›).1)|(with_reducible exact(w _ ‹_› ‹_›).2.1)|(with_reducible exact(w _ ‹_› ‹_›).2.2.1)|(with_reducible exact(w _ ‹_› ‹_›).2.2.2.1)|(with_reducible exact(w _ ‹_› ‹_›).2.2.2.2.1)|(with_reducible exact(w _ ‹_› ‹_›).2.2.2.2.2.1)|(with_reducible exact(w _ ‹_› ‹_›).2.2.2.2.2.2)|(with_reducible exact(wE _ ‹_›).1)|(with_reducible exact(wE _ ‹_›).2)|(with_reducible exact iN _ ‹_› ‹_› ‹_›)|(with_reducible exact(q1 _ ‹_› ‹_› ‹_›).1)|(with_reducible exact(q1 _ ‹_› ‹_› ‹_›).2.1)|(with_reducible exact(q1 _ ‹_› ‹_› ‹_›).2.2.1)|(with_reducible exact(q1 _ ‹_› ‹_› ‹_›).2.2.2)|(with_reducible exact(q2 _ ‹_› ‹_› ‹_›).1)|(with_reducible exact(q2 _ ‹_› ‹_› ‹_›).2.1)|(with_reducible exact(q2 _ ‹_› ‹_› ‹_›).2.2.1)|(with_reducible exact(q2 _ ‹_› ‹_› ‹_›).2.2.2)|(with_reducible exact(q3 _ ‹_› ‹_› ‹_› ‹_›).1)|(with_reducible exact(q3 _ ‹_› ‹_› ‹_› ‹_›).2.1)|(with_reducible exact(q3 _ ‹_› ‹_› ‹_› ‹_›).2.2.1)|(with_reducible exact(q3 _ ‹_› ‹_› ‹_› ‹_›).2.2.2)|(with_reducible exact(q4 _ ‹_› ‹_› ‹_› ‹_›).1)|(with_reducible exact(q4 _ ‹_› ‹_› ‹_› ‹_›).2.1)|(with_reducible exact(q4 _ ‹_› ‹_› ‹_› ‹_›).2.2.1)|(with_reducible exact(q4 _ ‹_› ‹_› ‹_› ‹_›).2.2.2)|(with_reducible exact(q5 _ ‹_› ‹_› ‹_›).1)|(with_reducible exact(q5 _ ‹_› ‹_› ‹_›).2.1)|(with_reducible exact(q5 _ ‹_› ‹_› ‹_›).2.2.1)|(with_reducible exact(q5 _ ‹_› ‹_› ‹_›).2.2.2)|omega|(unfold ix;omega)|(unfold aJ;omega)|rfl)
def aIk:Tab:=cC [(167,aJW)] tC
theorem aEy:aIk.Ok Tryz.prog:=aK tCo ⟨aMg,trivial⟩
def kU(r:Geo.aM):Geo.Pt:=Geo.mC (nth r 0) (nth r 1) (nth r 2)
theorem aDM{r:Geo.aM}(h:ROk r): -1000000<=(kU r).x/\(kU r).x<=1000000/\ -1000000<=(kU r).y/\(kU r).y<=1000000/\0<=(kU r).den/\(kU r).den<=100:=by
 have v:∀i,i<r.length->bd 10000 (nth r i):=fun i hi=>h.near _ (Geo.dV hi)
 have l3:=h.three;have v0:=v 0 (by omega)
 have v1:=v 1 (by omega)
 have v2:=v 2 (by omega)
 unfold bd at v0 v1 v2;have q1:=lK (x:=(nth r 0).x+(nth r 1).x+(nth r 2).x) (g:=3) (B:=30000) (by omega)
 have q2:=lK (x:=(nth r 0).y+(nth r 1).y+(nth r 2).y) (g:=3) (B:=30000) (by omega)
 unfold kU Geo.mC;split<;>dsimp only<;>omega
theorem aFF{r:Geo.aM}{p:Geo.Pt}(h:3<=r.length):Geo.gC r p=(List.range r.length).all fun i=>decide (0<((nth r ((i+1) % r.length)).x-(nth r i).x)*(p.y-(nth r i).y*p.den)-((nth r ((i+1) % r.length)).y-(nth r i).y)*(p.x-(nth r i).x*p.den)):=by
 unfold Geo.gC Geo.aD;rw[if_neg (by omega),List.all_map];rfl
theorem aDX{t:LT}{l:List t.ty}{q:t.ty->Bool}{j:Nat}(hj:j<l.length)(h:q (t.nth l j)=true):l.any q=true:=
 List.any_eq_true.2 ⟨_,List.getElem_mem hj,by rw[<-t.nth_eq l hj];exact h⟩
theorem Rz{t:LT}{l:List t.ty}{q:t.ty->Bool}(h:aU (fun j=>q (t.nth l j)=false) l.length):l.any q=false:=
 List.any_eq_false.2 fun x hx=>by
  obtain⟨j,hj,rfl⟩:=List.getElem_of_mem hx;have:=h j hj;dsimp only at this;rw[t.nth_eq l hj]at this;rw[this];simp
def aJV:Con:=con (a1 (aL .V)) (fun r=>[ROk r]) (fun r=>aT.enc (kU r)
 )
theorem aMf:aJV.Ok Tryz.prog 168:=aX (bK aEy) (raw:=bO) (fun _=>[]) (fun _=>⟨_,rfl⟩) fun r hp=>bL (q:=ix 0 r.length/\ix 1 r.length/\aJ ((nth r 0).x+(nth r 1).x)/\ix 2 r.length/\aJ ((nth r 0).x+(nth r 1).x+(nth r 2).x)/\ix 0 r.length/\ix 1 r.length/\aJ ((nth r 0).y+(nth r 1).y)/\ix 2 r.length/\aJ ((nth r 0).y+(nth r 1).y+(nth r 2).y)/\(3:Int)≠0/\(Int.tmod ((nth r 0).x+(nth r 1).x+(nth r 2).x) 3=0->(3:Int)≠0/\(Int.tmod ((nth r 0).y+(nth r 1).y+(nth r 2).y) 3=0->(3:Int)≠0/\aJ (Int.tdiv ((nth r 0).x+(nth r 1).x+(nth r 2).x) 3)/\(3:Int)≠0/\aJ (Int.tdiv ((nth r 0).y+(nth r 1).y+(nth r 2).y) 3)/\Int.tdiv ((nth r 0).x+(nth r 1).x+(nth r 2).x) 3=(kU r).x/\Int.tdiv ((nth r 0).y+(nth r 1).y+(nth r 2).y) 3=(kU r).y/\1=(kU r).den)/\
  (¬Int.tmod ((nth r 0).y+(nth r 1).y+(nth r 2).y) 3=0->(nth r 0).x+(nth r 1).x+(nth r 2).x=(kU r).x/\(nth r 0).y+(nth r 1).y+(nth r 2).y=(kU r).y/\3=(kU r).den))/\
 (¬Int.tmod ((nth r 0).x+(nth r 1).x+(nth r 2).x) 3=0->(nth r 0).x+(nth r 1).x+(nth r 2).x=(kU r).x/\(nth r 0).y+(nth r 1).y+(nth r 2).y=(kU r).y/\3=(kU r).den)) (by kernel_rfl) (by
  change ROk r at hp;have v:∀i,i<r.length->bd 10000 (nth r i):=fun i h=>hp.near _ (Geo.dV h)
  have l3:=hp.three;have v0:=v 0 (by omega)
  have v1:=v 1 (by omega)
  have v2:=v 2 (by omega)
  have m1:Int.tmod ((nth r 0).x+(nth r 1).x+(nth r 2).x) 3=0->Int.tmod ((nth r 0).y+(nth r 1).y+(nth r 2).y) 3=0->kU r=⟨Int.tdiv ((nth r 0).x+(nth r 1).x+(nth r 2).x) 3,Int.tdiv ((nth r 0).y+(nth r 1).y+(nth r 2).y) 3,1⟩:=fun h1 h2=>if_pos ⟨h1,h2⟩
  have m2:¬(Int.tmod ((nth r 0).x+(nth r 1).x+(nth r 2).x) 3=0/\Int.tmod ((nth r 0).y+(nth r 1).y+(nth r 2).y) 3=0)->kU r=⟨(nth r 0).x+(nth r 1).x+(nth r 2).x,(nth r 0).y+(nth r 1).y+(nth r 2).y,3⟩:=fun h=>if_neg h
  unfold bd at v0 v1 v2;have q1:=lK (x:=(nth r 0).x+(nth r 1).x+(nth r 2).x) (g:=3) (B:=4000000000) (by omega)
  have q2:=lK (x:=(nth r 0).y+(nth r 1).y+(nth r 2).y) (g:=3) (B:=4000000000) (by omega)
  have x0:ix 0 r.length:=⟨by omega,by omega⟩
  have x1:ix 1 r.length:=⟨by omega,by omega⟩
  have x2:ix 2 r.length:=⟨by omega,by omega⟩
  refine⟨x0,x1,cP (by omega),x2,cP (by omega),x0,x1,cP (by omega),x2,cP (by omega),by decide,fun h1=>⟨by decide,fun h2=>⟨by decide,cP (by omega),by decide,cP (by omega),?_⟩,fun h2=> ?_⟩,fun h1=> ?_⟩
  ·rw[m1 h1 h2];exact⟨rfl,rfl,rfl⟩
  ·rw[m2 fun h=>h2 h.2];exact⟨rfl,rfl,rfl⟩
  ·rw[m2 fun h=>h1 h.1];exact⟨rfl,rfl,rfl⟩)
def aIj:Tab:=cC [(168,aJV)] aIk
theorem aEx:aIj.Ok Tryz.prog:=aK aEy ⟨aMf,trivial⟩
def aJT:Con:=con (ac (aL .V) (a1 aT)) (fun(r,p)=>[ROk r,-1000000<=p.x,p.x<=1000000,-1000000<=p.y,p.y<=1000000,0<=p.den,p.den<=100]) (fun(r,p)=> .bool (Geo.gC r p))
theorem aMd:aJT.Ok Tryz.prog 170:=aX (bK aEx) (raw:=bO) (fun(r,p)=>[cnt 2 10 r.length (aU fun i=>0<((nth r ((i+1) % r.length)).x-(nth r i).x)*(p.y-(nth r i).y*p.den)-((nth r ((i+1) % r.length)).y-(nth r i).y)*(p.x-(nth r i).x*p.den))]
  ) (fun(_,_)=>⟨_,rfl⟩) fun(r,p) hp=>bL (q:=(0=(0:Int)/\(0:Nat)<=r.length/\aU (fun i=>0<((nth r ((i+1) % r.length)).x-(nth r i).x)*(p.y-(nth r i).y*p.den)-((nth r ((i+1) % r.length)).y-(nth r i).y)*(p.x-(nth r i).x*p.den)) 0)/\
 (∀x:Nat,x<=r.length/\aU (fun i=>0<((nth r ((i+1) % r.length)).x-(nth r i).x)*(p.y-(nth r i).y*p.den)-((nth r ((i+1) % r.length)).y-(nth r i).y)*(p.x-(nth r i).x*p.den)) x->((x:Int)<r.length->ix (x:Int) r.length/\aJ ((x:Int)+1)/\(r.length:Int)≠0/\ix (((x+1) % r.length:Nat):Int) r.length/\bd 1000000000 (nth r ((x+1) % r.length))/\bd 1000000000 (nth r x)/\aJ ((nth r x).y*p.den)/\aJ (p.y-(nth r x).y*p.den)/\aJ ((Geo.sub (nth r ((x+1) % r.length)) (nth r x)).x*(p.y-(nth r x).y*p.den))/\aJ ((nth r x).x*p.den)/\aJ (p.x-(nth r x).x*p.den)/\aJ ((Geo.sub (nth r ((x+1) % r.length)) (nth r x)).y*(p.x-(nth r x).x*p.den))/\aJ ((Geo.sub (nth r ((x+1) % r.length)) (nth r x)).x*(p.y-(nth r x).y*p.den)-(Geo.sub (nth r ((x+1) % r.length)) (nth r x)).y*(p.x-(nth r x).x*p.den))/\((Geo.sub (nth r ((x+1) % r.length)) (nth r x)).x*(p.y-(nth r x).y*p.den)-(Geo.sub (nth r ((x+1) % r.length)) (nth r x)).y*(p.x-(nth r x).x*p.den)<=0->false=Geo.gC r p)/\
   (¬(Geo.sub (nth r ((x+1) % r.length)) (nth r x)).x*(p.y-(nth r x).y*p.den)-(Geo.sub (nth r ((x+1) % r.length)) (nth r x)).y*(p.x-(nth r x).x*p.den)<=0->aJ ((x:Int)+1)/\(x:Int)+1=((x+1:Nat):Int)/\x+1<=r.length/\aU (fun i=>0<((nth r ((i+1) % r.length)).x-(nth r i).x)*(p.y-(nth r i).y*p.den)-((nth r ((i+1) % r.length)).y-(nth r i).y)*(p.x-(nth r i).x*p.den)) (x+1)/\r.length-(x+1)<r.length-x))/\
  (¬(x:Int)<r.length->true=Geo.gC r p))) (by kernel_rfl) (by
  change ROk r/\ -1000000<=p.x/\p.x<=1000000/\ -1000000<=p.y/\p.y<=1000000/\0<=p.den/\p.den<=100 at hp;obtain⟨hr,px1,px2,py1,py2,pd1,pd2⟩:=hp;have l3:=hr.three;have hl:=hr.len;have v:∀i,i<r.length->bd 10000 (nth r i):=fun i h=>hr.near _ (Geo.dV h)
  have md:∀i:Nat,(i:Int)<r.length->(i+1) % r.length<r.length:=fun i h=>Nat.mod_lt _ (by omega)
  have x1:∀i:Nat,(i:Int)<r.length->ix (((i+1) % r.length:Nat):Int) r.length:=fun i h=>eE (md i h)
  have b1:∀i:Nat,(i:Int)<r.length->bd 1000000000 (nth r i):=fun i h=>(v i (by omega)).mono
  have b2:∀i:Nat,(i:Int)<r.length->bd 1000000000 (nth r ((i+1) % r.length)):=fun i h=>(v _ (md i h)).mono
  have k:∀a:Int,-10000<=a/\a<=10000-> -1000000<=a*p.den/\a*p.den<=1000000:=fun a h=>by
   have:=fR (x:=a) (y:=p.den) (A:=10000) (B:=100) ⟨h.1,h.2⟩ ⟨by omega,by omega⟩
   omega
  have m:∀a b:Int,-20000<=a/\a<=20000-> -2000000<=b/\b<=2000000-> -40000000000<=a*b/\a*b<=40000000000:=fun a b h1 h2=>by
   have:=fR (x:=a) (y:=b) (A:=20000) (B:=2000000) h1 h2;omega
  have w:∀i:Nat,(i:Int)<r.length->aJ ((nth r i).y*p.den)/\aJ (p.y-(nth r i).y*p.den)/\aJ ((Geo.sub (nth r ((i+1) % r.length)) (nth r i)).x*(p.y-(nth r i).y*p.den))/\aJ ((nth r i).x*p.den)/\aJ (p.x-(nth r i).x*p.den)/\aJ ((Geo.sub (nth r ((i+1) % r.length)) (nth r i)).y*(p.x-(nth r i).x*p.den))/\aJ ((Geo.sub (nth r ((i+1) % r.length)) (nth r i)).x*(p.y-(nth r i).y*p.den)-(Geo.sub (nth r ((i+1) % r.length)) (nth r i)).y*(p.x-(nth r i).x*p.den)):=fun i h=>by
   have h1:=v i (by omega)
   have h2:=v _ (md i h);unfold bd at h1 h2;have k1:=k _ (show-10000<=(nth r i).x/\(nth r i).x<=10000 by omega)
   have k2:=k _ (show-10000<=(nth r i).y/\(nth r i).y<=10000 by omega)
   have d1: -20000<=(Geo.sub (nth r ((i+1) % r.length)) (nth r i)).x/\(Geo.sub (nth r ((i+1) % r.length)) (nth r i)).x<=20000:=by unfold Geo.sub;dsimp only;omega
   have d2: -20000<=(Geo.sub (nth r ((i+1) % r.length)) (nth r i)).y/\(Geo.sub (nth r ((i+1) % r.length)) (nth r i)).y<=20000:=by unfold Geo.sub;dsimp only;omega
   have m1:=m _ (p.y-(nth r i).y*p.den) d1 (by omega)
   have m2:=m _ (p.x-(nth r i).x*p.den) d2 (by omega)
   exact⟨cP (by omega),cP (by omega),cP (by omega),cP (by omega),cP (by omega),cP (by omega),cP (by omega)⟩
  have no:∀i:Nat,(i:Int)<r.length->(Geo.sub (nth r ((i+1) % r.length)) (nth r i)).x*(p.y-(nth r i).y*p.den)-(Geo.sub (nth r ((i+1) % r.length)) (nth r i)).y*(p.x-(nth r i).x*p.den)<=0->false=Geo.gC r p:=fun i h h2=>by
   rw[aFF l3];symm;refine List.all_eq_false.2 ⟨i,List.mem_range.2 (by omega),?_⟩
   intro h3;have:=of_decide_eq_true h3;unfold Geo.sub at h2;dsimp only at h2;omega
  have yes:∀i:Nat,¬(i:Int)<r.length->i<=r.length->aU (fun i=>0<((nth r ((i+1) % r.length)).x-(nth r i).x)*(p.y-(nth r i).y*p.den)-((nth r ((i+1) % r.length)).y-(nth r i).y)*(p.x-(nth r i).x*p.den)) i->true=Geo.gC r p:=fun i h h2 h3=>by
   rw[aFF l3];symm;refine List.all_eq_true.2 fun j hj=>decide_eq_true (h3 j ?_)
   have:=List.mem_range.1 hj;omega
  have nx:∀i:Nat,¬(Geo.sub (nth r ((i+1) % r.length)) (nth r i)).x*(p.y-(nth r i).y*p.den)-(Geo.sub (nth r ((i+1) % r.length)) (nth r i)).y*(p.x-(nth r i).x*p.den)<=0->0<((nth r ((i+1) % r.length)).x-(nth r i).x)*(p.y-(nth r i).y*p.den)-((nth r ((i+1) % r.length)).y-(nth r i).y)*(p.x-(nth r i).x*p.den):=fun i h=>by
   unfold Geo.sub at h;dsimp only at h;omega
  clear k m v md
  repeat' first|with_reducible apply And.intro|with_reducible intro
  all_goals repeat with_reducible cases‹_/\_›
  all_goals first|with_reducible assumption|with_reducible rfl|with_reducible exact x1 _ ‹_› |with_reducible exact b1 _ ‹_› |with_reducible exact b2 _ ‹_› |with_reducible exact(w _ ‹_›).1|with_reducible exact(w _ ‹_›).2.1|with_reducible exact(w _ ‹_›).2.2.1|with_reducible exact(w _ ‹_›).2.2.2.1|with_reducible exact(w _ ‹_›).2.2.2.2.1|with_reducible exact(w _ ‹_›).2.2.2.2.2.1|with_reducible exact(w _ ‹_›).2.2.2.2.2.2|with_reducible exact no _ ‹_› ‹_› |with_reducible exact yes _ ‹_› ‹_› ‹_› |exact bC _|exact aE ‹_› (nx _ ‹_›)|omega|(unfold ix;omega)|(unfold aJ;omega))
def aIg:Tab:=cC [(170,aJT)] aIj
theorem aEv:aIg.Ok Tryz.prog:=aK aEx ⟨aMd,trivial⟩
def aJU:Con:=con (ac (aL .V) (a1 (aL .V))) (fun(a,b)=>[ROk a,ROk b]) (fun(a,b)=> .bool ((Geo.aD a).any fun s=>Geo.cK s b))
theorem aMe:aJU.Ok Tryz.prog 169:=aX (bK aEv) (raw:=bO) (fun(a,b)=>[cnt 2 10 (Geo.aD a).length (aU fun i=>Geo.cK (bB (Geo.aD a) i) b=false)]
  ) (fun(_,_)=>⟨_,rfl⟩) fun(a,b) hp=>bL (q:=a.length<=1000/\(0=(0:Int)/\(0:Nat)<=(Geo.aD a).length/\aU (fun i=>Geo.cK (bB (Geo.aD a) i) b=false) 0)/\
 (∀x:Nat,x<=(Geo.aD a).length/\aU (fun i=>Geo.cK (bB (Geo.aD a) i) b=false) x->((x:Int)<(Geo.aD a).length->ix (x:Int) (Geo.aD a).length/\x<(Geo.aD a).length/\bd 10000 (bB (Geo.aD a) x).a/\bd 10000 (bB (Geo.aD a) x).b/\ROk b/\(Geo.cK (bB (Geo.aD a) x) b=true->true=List.any (Geo.aD a) (fun s=>Geo.cK s b))/\
   (Geo.cK (bB (Geo.aD a) x) b=false->aJ ((x:Int)+1)/\(x:Int)+1=((x+1:Nat):Int)/\x+1<=(Geo.aD a).length/\aU (fun i=>Geo.cK (bB (Geo.aD a) i) b=false) (x+1)/\(Geo.aD a).length-(x+1)<(Geo.aD a).length-x))/\
  (¬(x:Int)<(Geo.aD a).length->false=List.any (Geo.aD a) (fun s=>Geo.cK s b)))) (by kernel_rfl) (by
  change ROk a/\ROk b at hp;obtain⟨ha,hb⟩:=hp;have la:=ha.three;have lb:=ha.len;have el:=Ja la;have e1:∀i:Nat,(i:Int)<(Geo.aD a).length->bd 10000 (bB (Geo.aD a) i).a/\bd 10000 (bB (Geo.aD a) i).b:=fun i h=>by
   rw[gP (show i<(Geo.aD a).length by omega),yD la]
   exact⟨ha.near _ (Geo.dV (by omega)),ha.near _ (Geo.dV (Nat.mod_lt _ (by omega)))⟩
  have yes:∀i:Nat,(i:Int)<(Geo.aD a).length->Geo.cK (bB (Geo.aD a) i) b=true->true=List.any (Geo.aD a) (fun s=>Geo.cK s b):=fun i h h2=>
   (aDX (t:= .S) (l:=Geo.aD a) (q:=fun s=>Geo.cK s b) (j:=i) (by omega) h2).symm
  have no:∀i:Nat,¬(i:Int)<(Geo.aD a).length->i<=(Geo.aD a).length->aU (fun i=>Geo.cK (bB (Geo.aD a) i) b=false) i->false=List.any (Geo.aD a) (fun s=>Geo.cK s b):=fun i h h2 h3=>by
   obtain rfl:i=(Geo.aD a).length:=by omega
   exact(Rz (t:= .S) (l:=Geo.aD a) (q:=fun s=>Geo.cK s b) h3).symm
  repeat' first|with_reducible apply And.intro|with_reducible intro
  all_goals repeat with_reducible cases‹_/\_›
  all_goals first|with_reducible assumption|with_reducible rfl|with_reducible exact(e1 _ ‹_›).1|with_reducible exact(e1 _ ‹_›).2|with_reducible exact yes _ ‹_› ‹_› |with_reducible exact no _ ‹_› ‹_› ‹_› |exact bC _|exact aE ‹_› ‹_› |omega|(unfold ix;omega)|(unfold aJ;omega))
def aIi:Tab:=cC [(169,aJU)] aIg
theorem aEw:aIi.Ok Tryz.prog:=aK aEv ⟨aMe,trivial⟩
def aKB:Con:=con (ac (aL .V) (a1 (aL .V))) (fun(a,b)=>[ROk a,ROk b]) (fun(a,b)=> .bool (Geo.cV a b)
 )
theorem aMV:aKB.Ok Tryz.prog 110:=aX (bK aEw) (raw:=bO) (fun(_,_)=>[]) (fun(_,_)=>⟨_,rfl⟩) fun(a,b) hp=>bL (q:=ROk a/\ROk b/\(List.any (Geo.aD a) (fun s=>Geo.cK s b)=true->true=Geo.cV a b)/\
 (List.any (Geo.aD a) (fun s=>Geo.cK s b)=false->ROk b/\ROk a/\(List.any (Geo.aD b) (fun s=>Geo.cK s a)=true->true=Geo.cV a b)/\
  (List.any (Geo.aD b) (fun s=>Geo.cK s a)=false->ROk a/\ROk b/\ -1000000<=(kU a).x/\(kU a).x<=1000000/\ -1000000<=(kU a).y/\(kU a).y<=1000000/\0<=(kU a).den/\(kU a).den<=100/\Geo.gC b (kU a)=Geo.cV a b))) (by kernel_rfl) (by
  change ROk a/\ROk b at hp;obtain⟨ha,hb⟩:=hp;have c:=aDM ha;have o:Geo.cV a b=((List.any (Geo.aD a) fun s=>Geo.cK s b)||((List.any (Geo.aD b) fun s=>Geo.cK s a)||Geo.gC b (kU a))):=rfl
  refine⟨ha,hb,fun h=>by rw[o,h];rfl,fun h=>⟨hb,ha,fun h2=>by rw[o,h,h2];rfl,fun h2=>⟨ha,hb,c.1,c.2.1,c.2.2.1,c.2.2.2.1,c.2.2.2.2.1,c.2.2.2.2.2,by rw[o,h,h2];rfl⟩⟩⟩)
def aI1:Tab:=cC [(110,aKB)] aIi
theorem aFi:aI1.Ok Tryz.prog:=aK aEw ⟨aMV,trivial⟩
def aKD:Con:=con (ac aSh (a1 (aL .V))) (fun(s,r)=>[Fit s,ROk r,(aY s).length<=1000000,(∀e∈aY s,Geo.bG e.a 10000=true/\Geo.bG e.b 10000=true)]) (fun(s,r)=> .bool (Geo.iF s r))
theorem aMX:aKD.Ok Tryz.prog 108:=aX (bK aFi) (raw:=bO) (fun(s,r)=>[cnt 2 10 (aY s).length (aU fun i=>Geo.cK (bB (aY s) i) r=false)]
  ) (fun(_,_)=>⟨_,rfl⟩) fun(s,r) hp=>bL (q:=Fit s/\(0=(0:Int)/\(0:Nat)<=(aY s).length/\aU (fun i=>Geo.cK (bB (aY s) i) r=false) 0)/\
 (∀x:Nat,x<=(aY s).length/\aU (fun i=>Geo.cK (bB (aY s) i) r=false) x->((x:Int)<(aY s).length->ix (x:Int) (aY s).length/\bd 10000 (bB (aY s) x).a/\bd 10000 (bB (aY s) x).b/\ROk r/\(Geo.cK (bB (aY s) x) r=true->false=Geo.iF s r)/\
   (Geo.cK (bB (aY s) x) r=false->aJ ((x:Int)+1)/\(x:Int)+1=((x+1:Nat):Int)/\x+1<=(aY s).length/\aU (fun i=>Geo.cK (bB (aY s) i) r=false) (x+1)/\(aY s).length-(x+1)<(aY s).length-x))/\
  (¬(x:Int)<(aY s).length->ROk r/\Fit s/\decide (Geo.dZ s (kU r)=2)=Geo.iF s r))) (by kernel_rfl) (by
  change Fit s/\ROk r/\(aY s).length<=1000000/\((∀e∈aY s,Geo.bG e.a 10000=true/\Geo.bG e.b 10000=true))at hp;obtain⟨hf,hr,hl,he⟩:=hp;have e1:∀i:Nat,(i:Int)<(aY s).length->bd 10000 (bB (aY s) i).a:=fun i h=>by rw[gP (by omega)];exact xK (he _ (List.getElem_mem _)).1
  have e2:∀i:Nat,(i:Int)<(aY s).length->bd 10000 (bB (aY s) i).b:=fun i h=>by rw[gP (by omega)];exact xK (he _ (List.getElem_mem _)).2
  have t1:∀i:Nat,(i:Int)<(aY s).length->Geo.cK (bB (aY s) i) r=true->false=Geo.iF s r:=fun i h h2=>by
   unfold Geo.iF;rw[Kh (t:= .S) (l:=aY s) (q:=fun e=> !Geo.cK e r) (j:=i) (by omega) (by rw[show Geo.cK (LT.S.nth (aY s) i) r=true from h2];rfl)];rfl
  have t3:∀x:Nat,¬(x:Int)<(aY s).length->x<=(aY s).length->aU (fun i=>Geo.cK (bB (aY s) i) r=false) x->decide (Geo.dZ s (kU r)=2)=Geo.iF s r:=fun x h1 h2 h3=>by
   obtain rfl:x=(aY s).length:=by omega
   unfold Geo.iF;rw[Ck (t:= .S) (l:=aY s) (q:=fun e=> !Geo.cK e r) (fun j hj=>by show(!Geo.cK (bB (aY s) j) r)=true;rw[show Geo.cK (bB (aY s) j) r=false from h3 j hj];rfl),Bool.true_and,Bool.eq_iff_iff];unfold kU;simp
  clear he
  repeat' first|with_reducible apply And.intro|with_reducible intro
  all_goals repeat with_reducible cases‹_/\_›
  all_goals first|with_reducible assumption|with_reducible rfl|with_reducible exact e1 _ ‹_› |with_reducible exact e2 _ ‹_› |with_reducible exact t1 _ ‹_› ‹_› |with_reducible exact t3 _ ‹_› ‹_› ‹_› |exact bC _|exact aE ‹_› ‹_› |omega|(unfold ix;omega)|(unfold aJ;omega))
def aFW:Tab:=cC [(108,aKD)] aI1
theorem aAi:aFW.Ok Tryz.prog:=aK aFi ⟨aMX,trivial⟩
end
end Go.Proofs.YtdaeofhdgabhjaaGreat
namespace Go.Proofs.YtdaeofhdgabhjaaGreat
open Go.RowKit
def Qz(l:List Geo.aM):Prop:=l.length<=1000000000000000000/\∀r∈l,r.length<=1000000000000000000
end Go.Proofs.YtdaeofhdgabhjaaGreat
namespace Go.Proofs.YtdaeofhdgabhjaaGreat
open Go.RowKit
set_option maxRecDepth 100000
noncomputable section
open Geo (nth aC)
def Jj(a b:Geo.V):Geo.V:=⟨IntKind.i64.wrap (a.x-b.x),IntKind.i64.wrap (a.y-b.y)⟩
def zC(a b:Geo.V):Int:=IntKind.i64.wrap (IntKind.i64.wrap (a.x*b.y)-IntKind.i64.wrap (a.y*b.x))
def Cn(a b c:Geo.V):Int:=Geo.fG (zC (Jj b a) (Jj c a)) 0
theorem Vg{a b:Geo.V}(ha:bd 1000000000 a)(hb:bd 1000000000 b):Jj a b=Geo.sub a b:=by
 unfold bd at ha hb;unfold Jj Geo.sub;rw[nR (cP (by omega)),nR (cP (by omega))]
theorem Zh{a b:Geo.V}(ha:bd 2000000000 a)(hb:bd 2000000000 b):zC a b=Geo.cross a b:=by
 have:=iW ha hb;unfold zC Geo.cross;rw[nR (x:=a.x*b.y) (cP (by omega)),nR (x:=a.y*b.x) (cP (by omega)),nR (cP (by omega))]
theorem aBm{a b c:Geo.V}(ha:bd 1000000000 a)(hb:bd 1000000000 b)(hc:bd 1000000000 c):Cn a b c=Geo.cT a b c:=by
 have e:∀n,Geo.fG n 0=Geo.sgn n:=fun n=>by unfold Geo.fG Geo.sgn;grind
 unfold Cn;rw[Vg hb ha,Vg hc ha,Zh (gS hb ha) (gS hc ha),e];rfl
def aFI:Con:=con (ac aV (a1 aV)) (fun(_,_)=>[True]) (fun(a,b)=>aV.enc (Jj a b))
theorem aK5:aFI.Ok Tryz.prog 138:=aX (bK aAi) (raw:=fun _ _=>true
 ) (fun(_,_)=>[]) (fun(_,_)=>⟨_,rfl⟩) fun(a,b) hp=>bL (q:=IntKind.wrap IntKind.i64 (a.x-b.x)=(Jj a b).x/\IntKind.wrap IntKind.i64 (a.y-b.y)=(Jj a b).y) (by kernel_rfl) (by
 change True at hp;exact⟨rfl,rfl⟩)
def aEY:Tab:=cC [(138,aFI)] aFW
theorem aAP:aEY.Ok Tryz.prog:=aK aAi ⟨aK5,trivial⟩
def aFJ:Con:=con (ac aV (a1 aV)) (fun(_,_)=>[True]) (fun(a,b)=> .int .i64 (zC a b))
theorem aK6:aFJ.Ok Tryz.prog 111:=aX (bK aAP) (raw:=fun _ _=>true
 ) (fun(_,_)=>[]) (fun(_,_)=>⟨_,rfl⟩) fun(a,b) hp=>bL (q:=IntKind.wrap IntKind.i64 (IntKind.wrap IntKind.i64 (a.x*b.y)-IntKind.wrap IntKind.i64 (a.y*b.x))=zC a b) (by kernel_rfl) (by
 change True at hp;rfl)
def aFf:Tab:=cC [(111,aFJ)] aEY
theorem aAQ:aFf.Ok Tryz.prog:=aK aAP ⟨aK6,trivial⟩
def aJm:Con:=con (ac aV (ac aV (a1 aV))) (fun(_,_,_)=>[True]) (fun(a,b,c)=> .int .i64 (Cn a b c)
 )
theorem aLH:aJm.Ok Tryz.prog 63:=aX (bK aAQ) (raw:=bO) (fun(_,_,_)=>[]) (fun(_,_,_)=>⟨_,rfl⟩) fun(a,b,c) hp=>bL (q:=True/\True/\True/\Geo.fG (zC (Jj b a) (Jj c a)) 0=Cn a b c) (by kernel_rfl) (by
 change True at hp;exact⟨trivial,trivial,trivial,rfl⟩)
def aLs:Tab:=cC [(63,aJm)] aFf
theorem aKR:aLs.Ok Tryz.prog:=aK aAQ ⟨aLH,trivial⟩
def cvZ(r:Geo.aM)(i n:Nat):Bool:=decide (n=i)||(decide (n=(i+1) % r.length)||decide (0<Cn (nth r i) (nth r ((i+1) % r.length)) (nth r n)))
def cvR(r:Geo.aM)(i:Nat):Bool:=(List.range r.length).all (cvZ r i)&&Geo.bG (nth r i) 2000
def cvN(r:Geo.aM)(i n:Nat):Bool:=decide (n=i)||(decide (n=(i+1) % r.length)||decide (0<Geo.cT (nth r i) (nth r ((i+1) % r.length)) (nth r n)))
theorem Ym{r:Geo.aM}:(r.all fun v=>Geo.bG v 2000)=(List.range r.length).all fun i=>Geo.bG (nth r i) 2000:=by
 rw[Bool.eq_iff_iff,List.all_eq_true,List.all_eq_true];constructor
 ·intro h i hi;exact h _ (Geo.dV (List.mem_range.1 hi))
 ·intro h v hv;obtain⟨i,hi,rfl⟩:=Geo.fJ.1 hv;exact h i (List.mem_range.2 hi)
theorem Lj(r:Geo.aM):Geo.dA r=(decide (3<=r.length)&&(((List.range r.length).all fun i=>Geo.bG (nth r i) 2000)&&(List.range r.length).all fun i=>(List.range r.length).all (cvN r i))):=by
 have e:(fun i=>(List.range r.length).all fun n=>decide (n=i)||decide (n=(i+1) % r.length)||decide (0<Geo.cT (nth r i) (Geo.nxt r i) (nth r n)))=fun i=>(List.range r.length).all (cvN r i):=by
  funext i;congr 1;funext n;exact Bool.or_assoc ..
 unfold Geo.dA;rw[Ym,e]
theorem nT{v:Geo.V}(h:Geo.bG v 2000=true):bd 10000 v:=by
 unfold Geo.bG at h;simp only[Bool.and_eq_true,decide_eq_true_eq]at h;unfold bd;omega
theorem xS(r:Geo.aM):Geo.dA r=(decide (3<=r.length)&&(List.range r.length).all (cvR r)):=by
 rw[Lj]
 congr 1
 have key:((List.range r.length).all fun i=>Geo.bG (nth r i) 2000)=true->∀i n,i<r.length->n<r.length->cvZ r i n=cvN r i n:=fun h i n hi hn=>by
  have h:=List.all_eq_true.1 h;have b:∀i,i<r.length->bd 1000000000 (nth r i):=fun i hi=>(nT (h i (List.mem_range.2 hi))).mono
  unfold cvZ cvN;rw[aBm (b _ hi) (b _ (Nat.mod_lt _ (by omega))) (b _ hn)]
 rw[Bool.eq_iff_iff];constructor
 ·intro h;rw[Bool.and_eq_true]at h;refine List.all_eq_true.2 fun i hi=> ?_
  unfold cvR;rw[Bool.and_eq_true];refine⟨List.all_eq_true.2 fun n hn=> ?_,List.all_eq_true.1 h.1 i hi⟩
  rw[key h.1 i n (List.mem_range.1 hi) (List.mem_range.1 hn)];exact List.all_eq_true.1 (List.all_eq_true.1 h.2 i hi) n hn
 ·intro h;have h:=List.all_eq_true.1 h;have h1:((List.range r.length).all fun i=>Geo.bG (nth r i) 2000)=true:=List.all_eq_true.2 fun i hi=>by
   have:=h i hi;unfold cvR at this;rw[Bool.and_eq_true]at this;exact this.2
  rw[Bool.and_eq_true];refine⟨h1,List.all_eq_true.2 fun i hi=>List.all_eq_true.2 fun n hn=> ?_⟩
  rw[<-key h1 i n (List.mem_range.1 hi) (List.mem_range.1 hn)];have:=h i hi;unfold cvR at this;rw[Bool.and_eq_true]at this;exact List.all_eq_true.1 this.1 n hn
theorem Jv{r:Geo.aM}(h:Geo.dA r=true)(hl:r.length<=1000):ROk r:=by
 have:=Geo.CR.of h;exact⟨this.len,hl,fun v hv=>nT (this.near v hv)⟩
theorem sZ{q:Nat->Bool}{n:Nat}(h:aU (fun j=>q j=true) n):(List.range n).all q=true:=List.all_eq_true.2 fun i hi=>h i (List.mem_range.1 hi)
theorem uS{q:Nat->Bool}{n i:Nat}(hi:i<n)(h:q i=false):(List.range n).all q=false:=List.all_eq_false.2 ⟨i,List.mem_range.2 hi,by rw[h];simp⟩
def aKE:Con:=con (a1 (aL .V)) (fun r=>[r.length<=1000]) (fun r=> .bool (Geo.dA r))
theorem aMY:aKE.Ok Tryz.prog 107:=aX (bK aKR) (raw:=bO) (fun r=>[lp 2 10 r.length (fun i=>[aU (fun i=>cvR r i=true) i]) [] (fun _=>[]) (fun _=>[]) fun i=>[cnt 6 25 r.length (aU fun n=>cvZ r i n=true) fun n=>[jb 9 48 (!cvZ r i n)]]]
  ) (fun _=>⟨_,rfl⟩) fun r hp=>bL (q:=(0=(0:Int)/\(0:Nat)<=r.length/\aU (fun i=>cvR r i=true) 0)/\
 (∀x:Nat,x<=r.length/\aU (fun i=>cvR r i=true) x->((x:Int)<r.length->ix (x:Int) r.length/\aJ ((x:Int)+1)/\(r.length:Int)≠0/\ix (((x+1) % r.length:Nat):Int) r.length/\(0=(0:Int)/\(0:Nat)<=r.length/\aU (fun n=>cvZ r x n=true) 0)/\
   (∀x_1:Nat,x_1<=r.length/\aU (fun n=>cvZ r x n=true) x_1->((x_1:Int)<r.length->ix (x_1:Int) r.length/\((¬(x_1:Int)=x->aJ ((x:Int)+1)/\(r.length:Int)≠0/\(¬(x_1:Int)=(((x+1) % r.length:Nat):Int)->True/\decide (Cn (nth r x) (nth r ((x+1) % r.length)) (nth r x_1)<=0)=(!cvZ r x x_1))/\
       (¬(¬(x_1:Int)=(((x+1) % r.length:Nat):Int))->false=(!cvZ r x x_1)))/\
      (¬(¬(x_1:Int)=x)->false=(!cvZ r x x_1)))/\
     (∀y:Unit,((!cvZ r x x_1)=true->false=Geo.dA r)/\
      ((!cvZ r x x_1)=false->aJ ((x_1:Int)+1)/\(x_1:Int)+1=((x_1+1:Nat):Int)/\x_1+1<=r.length/\aU (fun n=>cvZ r x n=true) (x_1+1)/\r.length-(x_1+1)<r.length-x_1)))/\
    (¬(x_1:Int)<r.length->(0:Int)<=2000/\(2000:Int)<=9000000000000000000/\((!Geo.bG (nth r x) 2000)=true->false=Geo.dA r)/\
     ((!Geo.bG (nth r x) 2000)=false->aJ ((x:Int)+1)/\(x:Int)+1=((x+1:Nat):Int)/\x+1<=r.length/\aU (fun i=>cvR r i=true) (x+1)/\r.length-(x+1)<r.length-x))))/\
  (¬(x:Int)<r.length->decide (3<=(r.length:Int))=Geo.dA r))) (by kernel_rfl) (by
  change r.length<=1000 at hp;have x1:∀x:Nat,(x:Int)<r.length->ix (((x+1) % r.length:Nat):Int) r.length:=fun x h=>eE (Nat.mod_lt _ (by omega))
  have z1:∀x y:Nat,¬(y:Int)=x->¬(y:Int)=(((x+1) % r.length:Nat):Int)->decide (Cn (nth r x) (nth r ((x+1) % r.length)) (nth r y)<=0)=(!cvZ r x y):=fun x y h1 h2=>by
   unfold cvZ;rw[decide_eq_false (show¬y=x by omega),decide_eq_false (show¬y=(x+1) % r.length by omega),Bool.false_or,Bool.false_or,<-decide_not]
   exact decide_eq_decide.2 (by omega)
  have z2:∀x y:Nat,¬¬(y:Int)=(((x+1) % r.length:Nat):Int)->false=(!cvZ r x y):=fun x y h=>by
   unfold cvZ;rw[decide_eq_true (show y=(x+1) % r.length by omega)];simp
  have z3:∀x y:Nat,¬¬(y:Int)=x->false=(!cvZ r x y):=fun x y h=>by
   unfold cvZ;rw[decide_eq_true (show y=x by omega)];simp
  have no:∀x y:Nat,(!cvZ r x y)=true->(x:Int)<r.length->(y:Int)<r.length->false=Geo.dA r:=fun x y h3 h1 h2=>by
   rw[xS,uS (i:=x) (by omega) (by unfold cvR;rw[uS (i:=y) (by omega) (nb' h3)];rfl)];simp
  have no2:∀x:Nat,(!Geo.bG (nth r x) 2000)=true->(x:Int)<r.length->false=Geo.dA r:=fun x h3 h1=>by
   rw[xS,uS (i:=x) (by omega) (by unfold cvR;rw[nb' h3];simp)];simp
  have st:∀x y:Nat,aU (fun n=>cvZ r x n=true) y->¬(y:Int)<r.length->y<=r.length->(!Geo.bG (nth r x) 2000)=false->cvR r x=true:=fun x y h3 h1 h2 h4=>by
   obtain rfl:y=r.length:=by omega
   unfold cvR;rw[sZ h3,nb h4];rfl
  have fin:∀x:Nat,¬(x:Int)<r.length->x<=r.length->aU (fun i=>cvR r i=true) x->decide (3<=(r.length:Int))=Geo.dA r:=fun x h1 h2 h3=>by
   obtain rfl:x=r.length:=by omega
   rw[xS,sZ h3,Bool.and_true];exact decide_eq_decide.2 (by omega)
  repeat' first|with_reducible apply And.intro|with_reducible intro
  all_goals repeat with_reducible cases‹_/\_›
  all_goals first|with_reducible assumption|with_reducible rfl|with_reducible exact x1 _ ‹_› |with_reducible exact z1 _ _ ‹_› ‹_› |with_reducible exact z2 _ _ ‹_› |with_reducible exact z3 _ _ ‹_› |with_reducible exact no _ _ ‹_› ‹_› ‹_› |with_reducible exact no2 _ ‹_› ‹_› |with_reducible exact fin _ ‹_› ‹_› ‹_› |exact trivial|exact bC _|exact aE ‹_› (nb ‹_›)|exact aE ‹_› (st _ _ ‹_› ‹_› ‹_› ‹_›)|omega|(unfold ix;omega)|(unfold aJ;omega))
def tE:Tab:=cC [(107,aKE),(150,aGj)] aFW
theorem tEo:tE.Ok Tryz.prog:=aK aAi ⟨aMY,aJh,trivial⟩
def aKz:Con:=con (a1 (aL .V)) (fun r=>[r.length<=1000]) (fun r=> .bool (Geo.dA r))
theorem aMT:aKz.Ok Tryz.prog 112:=aX (bK tEo) (raw:=bO) (fun r=>[cnt 4 3 r.length (aU fun i=>Geo.bG (nth r i) 2000=true),lp 9 4 r.length (fun i=>[aU (fun i=>(List.range r.length).all (cvN r i)=true) i]) [] (fun _=>[]) (fun _=>[]) fun i=>[cnt 13 6 r.length (aU fun n=>cvN r i n=true) fun n=>[jb 16 62 (!cvN r i n)]]]
  ) (fun _=>⟨_,rfl⟩) fun r hp=>bL (q:=((r.length:Int)<3->false=Geo.dA r)/\
 (¬(r.length:Int)<3->(0=(0:Int)/\(0:Nat)<=r.length/\aU (fun i=>Geo.bG (nth r i) 2000=true) 0)/\
  (∀x:Nat,x<=r.length/\aU (fun i=>Geo.bG (nth r i) 2000=true) x->((x:Int)<r.length->ix (x:Int) r.length/\(0:Int)<=2000/\(2000:Int)<=1000000000000/\((!Geo.bG (nth r x) 2000)=true->false=Geo.dA r)/\
    ((!Geo.bG (nth r x) 2000)=false->aJ ((x:Int)+1)/\(x:Int)+1=((x+1:Nat):Int)/\x+1<=r.length/\aU (fun i=>Geo.bG (nth r i) 2000=true) (x+1)/\r.length-(x+1)<r.length-x))/\
   (¬(x:Int)<r.length->(0=(0:Int)/\(0:Nat)<=r.length/\aU (fun i=>List.all (List.range r.length) (cvN r i)=true) 0)/\
    (∀x_1:Nat,x_1<=r.length/\aU (fun i=>List.all (List.range r.length) (cvN r i)=true) x_1->((x_1:Int)<r.length->aJ ((x_1:Int)+1)/\(r.length:Int)≠0/\(0=(0:Int)/\(0:Nat)<=r.length/\aU (fun n=>cvN r x_1 n=true) 0)/\
      (∀x_2:Nat,x_2<=r.length/\aU (fun n=>cvN r x_1 n=true) x_2->((x_2:Int)<r.length->((¬(x_2:Int)=x_1->(¬(x_2:Int)=(((x_1+1) % r.length:Nat):Int)->ix (x_1:Int) r.length/\ix (((x_1+1) % r.length:Nat):Int) r.length/\ix (x_2:Int) r.length/\bd 1000000000 (nth r x_1)/\bd 1000000000 (nth r ((x_1+1) % r.length))/\bd 1000000000 (nth r x_2)/\decide (Geo.cT (nth r x_1) (nth r ((x_1+1) % r.length)) (nth r x_2)<=0)=(!cvN r x_1 x_2))/\
          (¬(¬(x_2:Int)=(((x_1+1) % r.length:Nat):Int))->false=(!cvN r x_1 x_2)))/\
         (¬(¬(x_2:Int)=x_1)->false=(!cvN r x_1 x_2)))/\
        (∀y:Unit,((!cvN r x_1 x_2)=true->false=Geo.dA r)/\
         ((!cvN r x_1 x_2)=false->aJ ((x_2:Int)+1)/\(x_2:Int)+1=((x_2+1:Nat):Int)/\x_2+1<=r.length/\aU (fun n=>cvN r x_1 n=true) (x_2+1)/\r.length-(x_2+1)<r.length-x_2)))/\
       (¬(x_2:Int)<r.length->aJ ((x_1:Int)+1)/\(x_1:Int)+1=((x_1+1:Nat):Int)/\x_1+1<=r.length/\aU (fun i=>List.all (List.range r.length) (cvN r i)=true) (x_1+1)/\r.length-(x_1+1)<r.length-x_1)))/\
     (¬(x_1:Int)<r.length->true=Geo.dA r)))))) (by kernel_rfl) (by
  change r.length<=1000 at hp;have x1:∀x:Nat,(x:Int)<r.length->ix (((x+1) % r.length:Nat):Int) r.length:=fun x h=>eE (Nat.mod_lt _ (by omega))
  have c0:(r.length:Int)<3->false=Geo.dA r:=fun h=>by
   rw[xS,decide_eq_false (by omega)];rfl
  have n1:∀x:Nat,(!Geo.bG (nth r x) 2000)=true->(x:Int)<r.length->false=Geo.dA r:=fun x h3 h1=>by
   rw[xS,uS (i:=x) (by omega) (by unfold cvR;rw[nb' h3];simp)];simp
  have b1:∀x y:Nat,aU (fun i=>Geo.bG (nth r i) 2000=true) x->¬(x:Int)<r.length->x<=r.length->(y:Int)<r.length->bd 1000000000 (nth r y):=fun x y h3 h1 h2 h4=>(nT (h3 y (by omega))).mono
  have b2:∀x y:Nat,aU (fun i=>Geo.bG (nth r i) 2000=true) x->¬(x:Int)<r.length->x<=r.length->(y:Int)<r.length->bd 1000000000 (nth r ((y+1) % r.length)):=fun x y h3 h1 h2 h4=>(nT (h3 _ (by have:=Nat.mod_lt (y+1) (show 0<r.length by omega);omega))).mono
  have z1:∀x y:Nat,¬(y:Int)=x->¬(y:Int)=(((x+1) % r.length:Nat):Int)->decide (Geo.cT (nth r x) (nth r ((x+1) % r.length)) (nth r y)<=0)=(!cvN r x y):=fun x y h1 h2=>by
   unfold cvN;rw[decide_eq_false (show¬y=x by omega),decide_eq_false (show¬y=(x+1) % r.length by omega),Bool.false_or,Bool.false_or,<-decide_not]
   exact decide_eq_decide.2 (by omega)
  have z2:∀x y:Nat,¬¬(y:Int)=(((x+1) % r.length:Nat):Int)->false=(!cvN r x y):=fun x y h=>by
   unfold cvN;rw[decide_eq_true (show y=(x+1) % r.length by omega)];simp
  have z3:∀x y:Nat,¬¬(y:Int)=x->false=(!cvN r x y):=fun x y h=>by
   unfold cvN;rw[decide_eq_true (show y=x by omega)];simp
  have no:∀x y:Nat,(!cvN r x y)=true->(x:Int)<r.length->(y:Int)<r.length->false=Geo.dA r:=fun x y h3 h1 h2=>by
   rw[Lj,uS (q:=fun i=>(List.range r.length).all (cvN r i)) (i:=x) (by omega) (uS (i:=y) (by omega) (nb' h3))];simp
  have st:∀x y:Nat,aU (fun n=>cvN r x n=true) y->¬(y:Int)<r.length->y<=r.length->List.all (List.range r.length) (cvN r x)=true:=fun x y h3 h1 h2=>by
   obtain rfl:y=r.length:=by omega
   exact sZ h3
  have fin:∀x y:Nat,¬(r.length:Int)<3->aU (fun i=>Geo.bG (nth r i) 2000=true) x->¬(x:Int)<r.length->x<=r.length->aU (fun i=>List.all (List.range r.length) (cvN r i)=true) y->¬(y:Int)<r.length->y<=r.length->true=Geo.dA r:=fun x y h0 h3 h1 h2 h6 h4 h5=>by
   obtain rfl:x=r.length:=by omega
   obtain rfl:y=r.length:=by omega
   rw[Lj,sZ (q:=fun i=>Geo.bG (nth r i) 2000) h3,sZ (q:=fun i=>List.all (List.range r.length) (cvN r i)) h6,decide_eq_true (by omega)];rfl
  repeat' first|with_reducible apply And.intro|with_reducible intro
  all_goals repeat with_reducible cases‹_/\_›
  all_goals first|with_reducible assumption|with_reducible rfl|with_reducible exact x1 _ ‹_› |with_reducible exact c0 ‹_› |with_reducible exact n1 _ ‹_› ‹_› |with_reducible exact b1 _ _ ‹_› ‹_› ‹_› ‹_› |with_reducible exact b2 _ _ ‹_› ‹_› ‹_› ‹_› |with_reducible exact z1 _ _ ‹_› ‹_› |with_reducible exact z2 _ _ ‹_› |with_reducible exact z3 _ _ ‹_› |with_reducible exact no _ _ ‹_› ‹_› ‹_› |with_reducible exact fin _ _ ‹_› ‹_› ‹_› ‹_› ‹_› ‹_› ‹_› |exact trivial|exact bC _|exact aE ‹_› (nb ‹_›)|exact aE ‹_› (st _ _ ‹_› ‹_› ‹_›)|omega|(unfold ix;omega)|(unfold aJ;omega))
def aIZ:Tab:=cC [(112,aKz)] tE
theorem aFe:aIZ.Ok Tryz.prog:=aK tEo ⟨aMT,trivial⟩
def fgn(v:List Geo.V)(p:Geo.V):Bool:= !v.any fun u=>decide (p=u)
def c82:Con:=con (ac (aL .V) (a1 aV)) (fun(l,_)=>[l.length<=1000000]) (fun(l,v)=> .bool (l.any fun u=>decide (v=u))
 )
theorem k82:c82.Ok Tryz.prog 82:=aX (bK aFe) (raw:=bO) (fun(_,_)=>[]) (fun(_,_)=>⟨_,rfl⟩) fun(l,v) hp=>bL (q:=l.length<=1000000/\decide (0<=fI (fun u=>decide (v=u)) l)=List.any l (fun u=>decide (v=u))) (by kernel_rfl) (by
 change l.length<=1000000 at hp;exact⟨hp,zA _ _⟩)
def t82:Tab:=cC [(82,c82)] aIZ
theorem aHg:t82.Ok Tryz.prog:=aK aFe ⟨k82,trivial⟩
def aKF:Con:=con (ac aV (a1 aPR)) (fun(_,l)=>[l.length<=1000000]) (fun(v,l)=> .bool (fgn l v)
 )
theorem aMZ:aKF.Ok Tryz.prog 106:=aX (bK aHg) (raw:=bO) (fun(_,_)=>[]) (fun(_,_)=>⟨_,rfl⟩) fun(v,l) hp=>bL (q:=l.length<=1000000/\(!List.any l (fun u=>decide (v=u)))=fgn l v) (by kernel_rfl) (by
 change l.length<=1000000 at hp;exact⟨hp,rfl⟩)
def aI3:Tab:=cC [(106,aKF)] t82
theorem aFk:aI3.Ok Tryz.prog:=aK aHg ⟨aMZ,trivial⟩
def aFQ:Ar (Geo.aM×Unit):=aCl 106 (ac aPR a0)
def aFP:Ar (Geo.aM×Unit):=aCl 109 (ac aPR a0)
def aFG:Con:=con (ac (aL .V) (a1 aFQ)) (fun(l,c)=>[l.length<=1000000,c.1.length<=1000000]) (fun(l,c)=> .int .i64 (fI (fgn c.1) l))
theorem aK3:aFG.Ok Tryz.prog 157:=aX (bK aFk) (raw:=bO) (fun(l,c)=>[cnt 2 8 l.length (aU fun j=>fgn c.1 (nth l j)=false)]
  ) (fun(_,_)=>⟨_,rfl⟩) fun(l,c) hp=>bL (q:=(0=(0:Int)/\(0:Nat)<=l.length/\aU (fun j=>fgn c.1 (nth l j)=false) 0)/\
 (∀x:Nat,x<=l.length/\aU (fun j=>fgn c.1 (nth l j)=false) x->((x:Int)<l.length->ix (x:Int) l.length/\c.1.length<=1000000/\(fgn c.1 (nth l x)=true->(x:Int)=fI (fgn c.1) l)/\
   (fgn c.1 (nth l x)=false->aJ ((x:Int)+1)/\(x:Int)+1=((x+1:Nat):Int)/\x+1<=l.length/\aU (fun j=>fgn c.1 (nth l j)=false) (x+1)/\l.length-(x+1)<l.length-x))/\
  (¬(x:Int)<l.length-> -1=fI (fgn c.1) l))) (by kernel_rfl) (by
  change l.length<=1000000/\c.1.length<=1000000 at hp
  repeat' first|with_reducible apply And.intro|with_reducible intro
  all_goals repeat with_reducible cases‹_/\_›
  all_goals first|assumption|rfl|exact trivial|exact nb ‹_› |exact nb' ‹_› |omega|exact cQ (by omega)|(unfold ix;omega)|(unfold aJ;omega)|exact bC _|exact aE ‹_› ‹_› |(refine aE ‹_› ?_;simp_all;done)|exact xJ (t:= .V) (by omega) ‹_› ‹_› |(obtain rfl:_=l.length:=Nat.le_antisymm ‹_› (by omega);exact wJ (t:= .V) ‹_›)|exact aE ‹_› ‹_› |grind)
def aEH:Tab:=cC [(157,aFG)] aI3
theorem aAN:aEH.Ok Tryz.prog:=aK aFk ⟨aK3,trivial⟩
def aJl:Con:=con (ac (aL .V) (a1 aFQ)) (fun(l,c)=>[l.length<=1000000,c.1.length<=1000000]) (fun(l,c)=> .bool (l.any (fgn c.1))
 )
theorem aLG:aJl.Ok Tryz.prog 84:=aX (bK aAN) (raw:=bO) (fun(_,_)=>[]) (fun(_,_)=>⟨_,rfl⟩) fun(l,c) hp=>bL (q:=l.length<=1000000/\c.fst.length<=1000000/\decide (0<=fI (fgn c.fst) l)=List.any l (fgn c.1)) (by kernel_rfl) (by
 change l.length<=1000000/\c.1.length<=1000000 at hp;exact⟨hp.1,hp.2,zA _ _⟩)
def aHe:Tab:=cC [(84,aJl)] aEH
theorem aD1:aHe.Ok Tryz.prog:=aK aAN ⟨aLG,trivial⟩
def aKC:Con:=con (ac (aL .V) (a1 aPR)) (fun(o,r)=>[ROk r,ROk o]) (fun(o,r)=> .bool (Geo.cV r o)
 )
theorem aMW:aKC.Ok Tryz.prog 109:=aX (bK aD1) (raw:=bO) (fun(_,_)=>[]) (fun(_,_)=>⟨_,rfl⟩) fun(o,r) hp=>bL (q:=ROk r/\ROk o/\Geo.cV r o=Geo.cV r o) (by kernel_rfl) (by
 change ROk r/\ROk o at hp;exact⟨hp.1,hp.2,rfl⟩)
def aI2:Tab:=cC [(109,aKC)] aHe
theorem aFj:aI2.Ok Tryz.prog:=aK aD1 ⟨aMW,trivial⟩
def aJ3:Con:=con (ac (aL .R) (a1 aFP)) (fun(l,c)=>[l.length<=1000000,ROk c.1,(∀o∈l,ROk o)]) (fun(l,c)=> .int .i64 (fI (Geo.cV c.1) l))
theorem aMn:aJ3.Ok Tryz.prog 159:=aX (bK aFj) (raw:=bO) (fun(l,c)=>[cnt 2 8 l.length (aU fun j=>Geo.cV c.1 (aC l j)=false)]
  ) (fun(_,_)=>⟨_,rfl⟩) fun(l,c) hp=>bL (q:=(0=(0:Int)/\(0:Nat)<=l.length/\aU (fun j=>Geo.cV c.1 (aC l j)=false) 0)/\
 (∀x:Nat,x<=l.length/\aU (fun j=>Geo.cV c.1 (aC l j)=false) x->((x:Int)<l.length->ix (x:Int) l.length/\ROk c.1/\ROk (aC l x)/\(Geo.cV c.1 (aC l x)=true->(x:Int)=fI (Geo.cV c.1) l)/\
   (Geo.cV c.1 (aC l x)=false->aJ ((x:Int)+1)/\(x:Int)+1=((x+1:Nat):Int)/\x+1<=l.length/\aU (fun j=>Geo.cV c.1 (aC l j)=false) (x+1)/\l.length-(x+1)<l.length-x))/\
  (¬(x:Int)<l.length-> -1=fI (Geo.cV c.1) l))) (by kernel_rfl) (by
  change l.length<=1000000/\ROk c.1/\((∀o∈l,ROk o))at hp;have hm:∀x:Nat,(x:Int)<l.length->ROk (aC l x):=fun x h=>hp.2.2 _ (Geo.eM (by omega))
  repeat' first|with_reducible apply And.intro|with_reducible intro
  all_goals repeat with_reducible cases‹_/\_›
  all_goals first|assumption|rfl|exact trivial|exact nb ‹_› |exact nb' ‹_› |omega|exact cQ (by omega)|(unfold ix;omega)|(unfold aJ;omega)|exact bC _|exact aE ‹_› ‹_› |(refine aE ‹_› ?_;simp_all;done)|exact hm _ ‹_› |exact xJ (t:= .R) (by omega) ‹_› ‹_› |(obtain rfl:_=l.length:=Nat.le_antisymm ‹_› (by omega);exact wJ (t:= .R) ‹_›)|grind)
def aIr:Tab:=cC [(159,aJ3)] aI2
theorem aEF:aIr.Ok Tryz.prog:=aK aFj ⟨aMn,trivial⟩
def c86:Con:=con (ac (aL .R) (a1 aFP)) (fun(l,c)=>[l.length<=1000000,ROk c.1,(∀o∈l,ROk o)]) (fun(l,c)=> .bool (l.any (Geo.cV c.1))
 )
theorem k86:c86.Ok Tryz.prog 86:=aX (bK aEF) (raw:=bO) (fun(_,_)=>[]) (fun(_,_)=>⟨_,rfl⟩) fun(l,c) hp=>bL (q:=l.length<=1000000/\ROk c.fst/\(∀o:Geo.aM,o∈l->ROk o)/\decide (0<=fI (Geo.cV c.fst) l)=List.any l (Geo.cV c.1)) (by kernel_rfl) (by
 change l.length<=1000000/\ROk c.1/\((∀o∈l,ROk o))at hp;exact⟨hp.1,hp.2.1,hp.2.2,zA _ _⟩)
def t86:Tab:=cC [(86,c86)] aIr
theorem aHc:t86.Ok Tryz.prog:=aK aEF ⟨k86,trivial⟩
end
end Go.Proofs.YtdaeofhdgabhjaaGreat
namespace Go.Proofs.YtdaeofhdgabhjaaGreat
open Go.RowKit
set_option maxRecDepth 100000
noncomputable section
open Geo (aY nth aC)
theorem Dk{s:Geo.Shape}(h:Geo.VS s):∀e∈aY s,Geo.bG e.a 10000=true/\Geo.bG e.b 10000=true:=by
 intro e he;unfold aY at he;obtain⟨r,hr,her⟩:=List.mem_flatMap.1 he;exact aBl (h.ring hr) her
def ccA(s:Geo.Shape)(r:Geo.aM):Bool:=(!Geo.dA r||(r.any (fgn (vOf s))|| !Geo.iF s r))
def ccB(l:List Geo.aM)(i:Nat):Bool:=(l.take i).any (Geo.cV (aC l i))
def cc(s:Geo.Shape)(l:List Geo.aM)(i:Nat):Prop:=ccA s (aC l i)=false/\ccB l i=false
def arS(l:List Geo.aM)(k:Nat):Int:=((l.take k).map Geo.dX).sum
def eF(s:Geo.Shape)(l:List Geo.aM):Bool:=Geo.aR s&&((List.range l.length).all fun i=> !ccA s (aC l i)&& !ccB l i)&&decide (arS l l.length=gZ s)
theorem Ek{l:List Geo.aM}{x:Nat}(h:x<l.length):arS l x+Geo.dX (aC l x)=arS l (x+1):=by
 unfold arS;rw[List.take_succ_eq_append_getElem (by omega),List.map_append,List.sum_append,gQ (by omega)];simp
theorem tK{s:Geo.Shape}{r:Geo.aM}(h:ccA s r=false):Geo.dA r=true:=by
 unfold ccA at h;cases e:Geo.dA r with
 |true=>rfl
 |false=>rw[e]at h;simp at h
theorem Ag{r:Geo.aM}(h:Geo.dA r=true):Geo.near r=true:=by
 have:=(Geo.CR.of h).near;unfold Geo.near;exact List.all_eq_true.2 this
theorem Ry{l:List Geo.aM}(hl:∀x:Nat,x<l.length->(aC l x).length<=1000):∀x:Nat,x<=l.length->(∀j,j<x->Geo.near (aC l j)=true)-> -(40000000000*(x:Int))<=arS l x/\arS l x<=40000000000*(x:Int)
 |0,_,_=>by unfold arS;simp
 |x+1,h,hn=>by
  have h1:=Ry hl x (by omega) fun j hj=>hn j (by omega)
  have h2:=Cw (hn x (by omega)) (aC l x).length (Nat.le_refl _)
  have h3:=hl x (by omega)
  have e:ar (aC l x) (aC l x).length=Geo.dX (aC l x):=rfl;rw[<-Ek (show x<l.length by omega)]
  rw[e]at h2;omega
def c43:Con:=con (ac aSh (a1 (aL .R))) (fun(s,l)=>[Fit s,l.length<=1000,(∀r∈l,r.length<=1000)]) (fun(s,l)=> .bool (eF s l))
set_option maxHeartbeats 2000000 in
theorem k43:c43.Ok Tryz.prog 43:=aX (bK aHc) (raw:=bO) (fun(s,l)=>[lp 6 22 l.length (fun k=>[aU (cc s l) k]) [] (fun k=>[(7,.int .i64 (arS l k))]) (fun _=>[]) fun k=>[jb 10 41 (ccA s (aC l k)),lp 14 49 (aC l k).length (fun _=>[]) [] (fun j=>[(7,.int .i64 (arS l k+ar (aC l k) j))]) (fun _=>[])]]
  ) (fun(_,_)=>⟨_,rfl⟩) fun(s,l) hp=>bL (q:=Fit s/\(¬eOf s=0->false=eF s l)/\
 (¬(¬eOf s=0)->(0=(0:Int)/\0=arS l 0/\(0:Nat)<=l.length/\aU (cc s l) 0)/\
  (∀x:Nat,x<=l.length/\aU (cc s l) x->((x:Int)<l.length->ix (x:Int) l.length/\((aC l x).length<=1000/\((!Geo.dA (aC l x))=true->true=ccA s (aC l x))/\
     ((!Geo.dA (aC l x))=false->(aC l x).length<=1000000/\(vOf s).length<=1000000/\(List.any (aC l x) (fgn (vOf s))=true->true=ccA s (aC l x))/\
      (List.any (aC l x) (fgn (vOf s))=false->Fit s/\ROk (aC l x)/\(aY s).length<=1000000/\(∀e:Geo.S,e∈aY s->Geo.bG e.a 10000=true/\Geo.bG e.b 10000=true)/\(!Geo.iF s (aC l x))=ccA s (aC l x))))/\
    (∀y:Unit,(ccA s (aC l x)=true->false=eF s l)/\
     (ccA s (aC l x)=false->(0<=(x:Int)/\(x:Int)<=l.length)/\(List.take x l).length<=1000000/\ROk (aC l x)/\(∀o:Geo.aM,o∈List.take x l->ROk o)/\(List.any (List.take x l) (Geo.cV (aC l x))=true->false=eF s l)/\
      (List.any (List.take x l) (Geo.cV (aC l x))=false->(0=(0:Int)/\arS l x=arS l x+ar (aC l x) 0/\(0:Nat)<=(aC l x).length)/\
       (∀x_1:Nat,x_1<=(aC l x).length->((x_1:Int)<(aC l x).length->ix (x_1:Int) (aC l x).length/\aJ ((x_1:Int)+1)/\((aC l x).length:Int)≠0/\ix (((x_1+1) % (aC l x).length:Nat):Int) (aC l x).length/\cOK (nth (aC l x) x_1) (nth (aC l x) ((x_1+1) % (aC l x).length))/\aJ (arS l x+ar (aC l x) x_1+Geo.cross (nth (aC l x) x_1) (nth (aC l x) ((x_1+1) % (aC l x).length)))/\aJ ((x_1:Int)+1)/\(x_1:Int)+1=((x_1+1:Nat):Int)/\arS l x+ar (aC l x) x_1+Geo.cross (nth (aC l x) x_1) (nth (aC l x) ((x_1+1) % (aC l x).length))=arS l x+ar (aC l x) (x_1+1)/\x_1+1<=(aC l x).length/\(aC l x).length-(x_1+1)<(aC l x).length-x_1)/\
        (¬(x_1:Int)<(aC l x).length->aJ ((x:Int)+1)/\(x:Int)+1=((x+1:Nat):Int)/\arS l x+ar (aC l x) x_1=arS l (x+1)/\x+1<=l.length/\aU (cc s l) (x+1)/\l.length-(x+1)<l.length-x))))))/\
   (¬(x:Int)<l.length->Fit s/\decide (arS l x=(if Geo.aR s=true then gZ s else 0))=eF s l)))) (by kernel_rfl) (by
  change Fit s/\l.length<=1000/\((∀r∈l,r.length<=1000))at hp;obtain⟨hf,hl,hr⟩:=hp;have R:¬¬eOf s=0->Geo.bP s=true:=fun h=>Lg h
  have hvP:¬¬eOf s=0->Geo.aR s=true:=fun h=>by rw[Geo.iG];exact R h
  have V:¬¬eOf s=0->Geo.VS s:=fun h=>vsR (R h)
  have hv:=wF s;have hvl:(vOf s).length<=1000000:=by omega
  have he:¬¬eOf s=0->(aY s).length<=1000000:=fun h=>by have:=tQ (V h);omega
  have hw:¬¬eOf s=0->∀e∈aY s,Geo.bG e.a 10000=true/\Geo.bG e.b 10000=true:=fun h=>Dk (V h)
  have hr:∀x:Nat,(x:Int)<l.length->(aC l x).length<=1000:=fun x h=>hr _ (Geo.eM (by omega))
  have hr6:∀x:Nat,(x:Int)<l.length->(aC l x).length<=1000000:=fun x h=>by have:=hr x h;omega
  have c0:¬eOf s=0->false=eF s l:=fun h=>by
   unfold eF;rw[Geo.iG];cases e:Geo.bP s with
   |false=>rfl
   |true=>exact absurd (by unfold eOf;rw[e];rfl) h
  have a1:∀x:Nat,(!Geo.dA (aC l x))=true->true=ccA s (aC l x):=fun x h=>by unfold ccA;rw[h];rfl
  have a3:∀x:Nat,List.any (aC l x) (fgn (vOf s))=true->true=ccA s (aC l x):=fun x h=>by unfold ccA;rw[h];simp
  have a4:∀x:Nat,(!Geo.dA (aC l x))=false->List.any (aC l x) (fgn (vOf s))=false->(!Geo.iF s (aC l x))=ccA s (aC l x):=fun x h2 h3=>by
   unfold ccA;rw[h2,h3];rfl
  have tO:∀x:Nat,(!Geo.dA (aC l x))=false->(x:Int)<l.length->ROk (aC l x):=fun x h h2=>Jv (nb h) (hr x h2)
  have tO2:∀x:Nat,ccA s (aC l x)=false->(x:Int)<l.length->ROk (aC l x):=fun x h h2=>Jv (tK h) (hr x h2)
  have tO3:∀x:Nat,x<=l.length->aU (cc s l) x->∀o∈List.take x l,ROk o:=fun x hx h o ho=>by
   obtain⟨j,hj,rfl⟩:=List.getElem_of_mem ho;rw[List.length_take]at hj;rw[List.getElem_take,<-gQ (by omega)]
   exact tO2 j (h j (by omega)).1 (by omega)
  have tl:∀x:Nat,(List.take x l).length<=1000000:=fun x=>by rw[List.length_take];omega
  have no:∀x:Nat,(ccA s (aC l x)=true\/List.any (List.take x l) (Geo.cV (aC l x))=true)->(x:Int)<l.length->false=eF s l:=fun x h2 h=>by
   unfold eF;rw[show((List.range l.length).all fun i=> !ccA s (aC l i)&& !ccB l i)=false from List.all_eq_false.2 ⟨x,List.mem_range.2 (by omega),by
    rcases h2 with h2|h2
    ·rw[h2];simp
    ·rw[show ccB l x=true from h2];simp⟩]
   simp
  have nr:∀x:Nat,ccA s (aC l x)=false->Geo.near (aC l x)=true:=fun x h=>Ag (tK h)
  have b0:∀x i:Nat,ccA s (aC l x)=false->(i:Int)<(aC l x).length->cOK (nth (aC l x) i) (nth (aC l x) ((i+1) % (aC l x).length)):=fun x i h h2=>by
   have h0:=lH (nr x h) (i:=i) (by omega) (M:=2000000000)
   have h1:=lH (nr x h) (i:=(i+1) % (aC l x).length) (Nat.mod_lt _ (by omega)) (M:=2000000000)
   have:=iW h0 h1;unfold cOK;omega
  have x1:∀x i:Nat,(i:Int)<(aC l x).length->ix (((i+1) % (aC l x).length:Nat):Int) (aC l x).length:=fun x i h=>eE (Nat.mod_lt _ (by omega))
  have bS:∀x:Nat,aU (cc s l) x->x<=l.length-> -(40000000000*(x:Int))<=arS l x/\arS l x<=40000000000*(x:Int):=fun x h hx=>Ry (fun y hy=>hr y (by omega)) x hx fun j hj=>nr j (h j hj).1
  have sS:∀x i:Nat,arS l x+ar (aC l x) i+Geo.cross (nth (aC l x) i) (nth (aC l x) ((i+1) % (aC l x).length))=arS l x+ar (aC l x) (i+1):=fun x i=>by rw[Cj];omega
  have wS:∀x i:Nat,aU (cc s l) x->x<=l.length->ccA s (aC l x)=false->(x:Int)<l.length->(i:Int)<(aC l x).length->aJ (arS l x+ar (aC l x) i+Geo.cross (nth (aC l x) i) (nth (aC l x) ((i+1) % (aC l x).length))):=fun x i h hx h2 h3 h4=>by
   rw[sS];have h5:=bS x h hx;have h6:=Cw (nr x h2) (i+1) (by omega)
   have h7:=hr x h3;exact cP (by omega)
  have w1:∀x i:Nat,(i:Int)<(aC l x).length->(x:Int)<l.length->aJ ((i:Int)+1):=fun x i h h2=>cP (by have:=hr x h2;omega)
  have z0:arS l 0=0:=rfl;have z1:∀x,ar (aC l x) 0=0:=fun x=>rfl
  have z2:∀x,arS l x=arS l x+ar (aC l x) 0:=fun x=>by rw[z1];omega
  have sE:∀x i:Nat,(x:Int)<l.length->¬(i:Int)<(aC l x).length->i<=(aC l x).length->arS l x+ar (aC l x) i=arS l (x+1):=fun x i h h2 h3=>by
   obtain rfl:i=(aC l x).length:=by omega
   rw[<-Ek (show x<l.length by omega)];rfl
  have st:∀x:Nat,aU (cc s l) x->ccA s (aC l x)=false->List.any (List.take x l) (Geo.cV (aC l x))=false->aU (cc s l) (x+1):=fun x h h1 h2=>aE h ⟨h1,h2⟩
  have yE:¬¬eOf s=0->∀x:Nat,aU (cc s l) x->¬(x:Int)<l.length->x<=l.length->decide (arS l x=(if Geo.aR s=true then gZ s else 0))=eF s l:=fun h x h3 h1 h2=>by
   obtain rfl:x=l.length:=by omega
   unfold eF;rw[if_pos (hvP h),hvP h,show((List.range l.length).all fun i=> !ccA s (aC l i)&& !ccB l i)=true from List.all_eq_true.2 fun i hi=>by
    obtain⟨g1,g2⟩:=h3 i (List.mem_range.1 hi);rw[g1,g2];rfl]
   simp
  clear V nr bS hvP R
  repeat' first|with_reducible apply And.intro|with_reducible intro
  all_goals repeat with_reducible cases‹_/\aU _ _›
  all_goals first|assumption|with_reducible rfl|(with_reducible exact c0 ‹_›)|(with_reducible exact he ‹_›)|(with_reducible exact(hw ‹_› _ ‹_›).1)|(with_reducible exact(hw ‹_› _ ‹_›).2)|(with_reducible exact hr _ ‹_›)|(with_reducible exact hr6 _ ‹_›)|(with_reducible exact a1 _ ‹_›)|(with_reducible exact a3 _ ‹_›)|(with_reducible exact a4 _ ‹_› ‹_›)|(with_reducible exact tO _ ‹_› ‹_›)|(with_reducible exact tO2 _ ‹_› ‹_›)|(with_reducible exact tO3 _ ‹_› ‹_› _ ‹_›)|(with_reducible exact tl _)|(with_reducible exact no _ (.inl ‹_›) ‹_›)|(with_reducible exact no _ (.inr ‹_›) ‹_›)|with_reducible exact b0 _ _ ‹_› ‹_› |with_reducible exact x1 _ _ ‹_› |with_reducible exact wS _ _ ‹_› ‹_› ‹_› ‹_› ‹_› |with_reducible exact w1 _ _ ‹_› ‹_› |with_reducible exact sS _ _|with_reducible exact z2 _|exact z0.symm|with_reducible exact sE _ _ ‹_› ‹_› ‹_› |with_reducible exact st _ ‹_› ‹_› ‹_› |(with_reducible exact yE ‹_› _ ‹_› ‹_› ‹_›)|exact bC _|omega|(unfold ix;omega)|(unfold aJ;omega)|rfl)
def t43:Tab:=cC [(43,c43)] t86
theorem aHB:t43.Ok Tryz.prog:=aK aHc ⟨k43,trivial⟩
def mmC(r o:Geo.aM):Bool:=Geo.dA r&&(Geo.dA o&&Geo.cV r o)
def mmR(a b:List Geo.aM)(i:Nat):Bool:=b.any fun o=>mmC (aC a i) o
def c46:Con:=con (ac (aL .R) (a1 (aL .R))) (fun(a,b)=>[a.length<=1000,(∀r∈a,r.length<=1000),b.length<=1000,(∀r∈b,r.length<=1000)]) (fun(a,b)=> .bool (Geo.bY a b))
theorem k46:c46.Ok Tryz.prog 46:=aX (bK aHB) (raw:=bO) (fun(a,b)=>[lp 2 11 a.length (fun i=>[aU (fun i=>mmR a b i=false) i]) [] (fun _=>[]) (fun _=>[]) fun i=>[cnt 5 17 b.length (aU fun k=>mmC (aC a i) (aC b k)=false) fun k=>[jb 8 31 (mmC (aC a i) (aC b k))]]]
  ) (fun(_,_)=>⟨_,rfl⟩) fun(a,b) hp=>bL (q:=(0=(0:Int)/\(0:Nat)<=a.length/\aU (fun i=>mmR a b i=false) 0)/\
 (∀x:Nat,x<=a.length/\aU (fun i=>mmR a b i=false) x->((x:Int)<a.length->ix (x:Int) a.length/\(0=(0:Int)/\(0:Nat)<=b.length/\aU (fun k=>mmC (aC a x) (aC b k)=false) 0)/\
   (∀x_1:Nat,x_1<=b.length/\aU (fun k=>mmC (aC a x) (aC b k)=false) x_1->((x_1:Int)<b.length->ix (x_1:Int) b.length/\((aC a x).length<=1000/\(Geo.dA (aC a x)=true->(aC b x_1).length<=1000/\(Geo.dA (aC b x_1)=true->ROk (aC a x)/\ROk (aC b x_1)/\Geo.cV (aC a x) (aC b x_1)=mmC (aC a x) (aC b x_1))/\
       (Geo.dA (aC b x_1)=false->false=mmC (aC a x) (aC b x_1)))/\
      (Geo.dA (aC a x)=false->false=mmC (aC a x) (aC b x_1)))/\
     (∀y:Unit,(mmC (aC a x) (aC b x_1)=true->true=Geo.bY a b)/\
      (mmC (aC a x) (aC b x_1)=false->aJ ((x_1:Int)+1)/\(x_1:Int)+1=((x_1+1:Nat):Int)/\x_1+1<=b.length/\aU (fun k=>mmC (aC a x) (aC b k)=false) (x_1+1)/\b.length-(x_1+1)<b.length-x_1)))/\
    (¬(x_1:Int)<b.length->aJ ((x:Int)+1)/\(x:Int)+1=((x+1:Nat):Int)/\x+1<=a.length/\aU (fun i=>mmR a b i=false) (x+1)/\a.length-(x+1)<a.length-x)))/\
  (¬(x:Int)<a.length->false=Geo.bY a b))) (by kernel_rfl) (by
  change a.length<=1000/\((∀r∈a,r.length<=1000))/\b.length<=1000/\((∀r∈b,r.length<=1000))at hp;obtain⟨hla,ha,hlb,hb⟩:=hp;have la:∀x:Nat,(x:Int)<a.length->(aC a x).length<=1000:=fun x h=>ha _ (Geo.eM (by omega))
  have lb:∀x:Nat,(x:Int)<b.length->(aC b x).length<=1000:=fun x h=>hb _ (Geo.eM (by omega))
  have oa:∀x:Nat,Geo.dA (aC a x)=true->(x:Int)<a.length->ROk (aC a x):=fun x h h2=>Jv h (la x h2)
  have ob:∀x:Nat,Geo.dA (aC b x)=true->(x:Int)<b.length->ROk (aC b x):=fun x h h2=>Jv h (lb x h2)
  have m1:∀r o:Geo.aM,Geo.dA r=true->Geo.dA o=true->Geo.cV r o=mmC r o:=fun r o h1 h2=>by unfold mmC;rw[h1,h2];rfl
  have m2:∀r o:Geo.aM,Geo.dA o=false->false=mmC r o:=fun r o h=>by unfold mmC;rw[h];simp
  have m3:∀r o:Geo.aM,Geo.dA r=false->false=mmC r o:=fun r o h=>by unfold mmC;rw[h];rfl
  have m4:∀r o:Geo.aM,Geo.dA r=true->Geo.dA o=true->(!Geo.dB r o)=mmC r o:=fun r o h1 h2=>by rw[<-m1 r o h1 h2,Geo.Az (Geo.CR.of h1) (Geo.CR.of h2)]
  have v9:∀r:Geo.aM,∀v,v∈r->Geo.dA r=true->bd 1000000000 v:=fun r v hv h=>(nT ((Geo.CR.of h).near v hv)).mono
  have yes:∀x y:Nat,mmC (aC a x) (aC b y)=true->(x:Int)<a.length->(y:Int)<b.length->true=Geo.bY a b:=fun x y h h1 h2=>
   (List.any_eq_true.2 ⟨_,Geo.eM (show x<a.length by omega),List.any_eq_true.2 ⟨_,Geo.eM (show y<b.length by omega),h⟩⟩).symm
  have st:∀x y:Nat,aU (fun k=>mmC (aC a x) (aC b k)=false) y->¬(y:Int)<b.length->y<=b.length->mmR a b x=false:=fun x y h h1 h2=>by
   obtain rfl:y=b.length:=by omega
   exact Rz (t:= .R) (l:=b) (q:=fun o=>mmC (aC a x) o) h
  have fin:∀x:Nat,aU (fun i=>mmR a b i=false) x->¬(x:Int)<a.length->x<=a.length->false=Geo.bY a b:=fun x h h1 h2=>by
   obtain rfl:x=a.length:=by omega
   exact(Rz (t:= .R) (l:=a) (q:=fun r=>b.any fun o=>Geo.dA r&&(Geo.dA o&&Geo.cV r o)) h).symm
  repeat' first|with_reducible apply And.intro|with_reducible intro
  all_goals repeat with_reducible cases‹_/\_›
  all_goals first|with_reducible assumption|with_reducible rfl|with_reducible exact la _ ‹_› |with_reducible exact lb _ ‹_› |with_reducible exact oa _ ‹_› ‹_› |with_reducible exact ob _ ‹_› ‹_› |with_reducible exact m1 _ _ ‹_› ‹_› |with_reducible exact m2 _ _ ‹_› |with_reducible exact m3 _ _ ‹_› |with_reducible exact m4 _ _ ‹_› ‹_› |with_reducible exact v9 _ _ ‹_› ‹_› |with_reducible exact yes _ _ ‹_› ‹_› ‹_› |with_reducible exact fin _ ‹_› ‹_› ‹_› |exact bC _|exact aE ‹_› (st _ _ ‹_› ‹_› ‹_›)|exact aE ‹_› ‹_› |omega|(unfold ix;omega)|(unfold aJ;omega))
def t46:Tab:=cC [(46,c46)] t43
theorem aLu:t46.Ok Tryz.prog:=aK aHB ⟨k46,trivial⟩
def t45:Tab:=t46
theorem aHz:t45.Ok Tryz.prog:=aLu
def rfP(k:Nat)(r:Geo.aM)(i:Nat):Bool:=(decide (k=0)&&decide (Geo.cT (nth r ((i+r.length-1) % r.length)) (nth r i) (nth r ((i+1) % r.length))<0))||(decide (0<k)&&decide (0<Geo.cT (nth r ((i+r.length-1) % r.length)) (nth r i) (nth r ((i+1) % r.length))))
def rfR(k:Nat)(r:Geo.aM)(i:Nat):Nat:=((List.range i).filter (rfP k r)).length
def rfS(R:List Geo.aM):Nat->Nat
 |0=>0
 |k+1=>rfS R k+rfR k (aC R k) (aC R k).length
def Jm(s:Geo.Shape):Nat:=if Geo.aR s=true then rfS (Geo.aA s) (Geo.aA s).length else 0
def c53:Con:=con (a1 aSh) (fun s=>[Fit s]) (fun s=> .int .i64 (Jm s:Nat))
theorem k53:c53.Ok Tryz.prog 53:=aX (bK aHz) (raw:=bO) (fun s=>[lp 5 15 (Geo.aA s).length (fun _=>[]) [] (fun k=>[(3,.int .i64 (rfS (Geo.aA s) k:Nat))]) (fun _=>[]) fun k=>[lp 8 22 (aC (Geo.aA s) k).length (fun _=>[]) [] (fun i=>[(3,.int .i64 (rfS (Geo.aA s) k+rfR k (aC (Geo.aA s) k) i:Nat))]) (fun _=>[]) fun i=>[jb 12 61 (rfP k (aC (Geo.aA s) k) i),jU 13 [(3,.int .i64 (rfS (Geo.aA s) k+rfR k (aC (Geo.aA s) k) (i+1):Nat))]]]]
  ) (fun _=>⟨_,rfl⟩) fun s hp=>bL (q:=Fit s/\((!Geo.aR s)=true->0=(Jm s:Int))/\
 ((!Geo.aR s)=false->Fit s/\(0:Nat)<s.outer.length/\(∀r:Geo.aM,r∈s.holes->(0:Nat)<r.length)/\(0=(0:Int)/\0=(rfS (Geo.aA s) 0:Int)/\(0:Nat)<=(Geo.aA s).length)/\
  (∀x:Nat,x<=(Geo.aA s).length->((x:Int)<(Geo.aA s).length->ix (x:Int) (Geo.aA s).length/\(0=(0:Int)/\(rfS (Geo.aA s) x:Int)=((rfS (Geo.aA s) x+rfR x (aC (Geo.aA s) x) 0:Nat):Int)/\(0:Nat)<=(aC (Geo.aA s) x).length)/\
    (∀x_1:Nat,x_1<=(aC (Geo.aA s) x).length->((x_1:Int)<(aC (Geo.aA s) x).length->(ix (x_1:Int) (aC (Geo.aA s) x).length/\aJ ((x_1:Int)+(aC (Geo.aA s) x).length)/\aJ ((x_1:Int)+(aC (Geo.aA s) x).length-1)/\((aC (Geo.aA s) x).length:Int)≠0/\ix (Int.tmod ((x_1:Int)+(aC (Geo.aA s) x).length-1) ((aC (Geo.aA s) x).length:Int)) (aC (Geo.aA s) x).length/\aJ ((x_1:Int)+1)/\((aC (Geo.aA s) x).length:Int)≠0/\ix (((x_1+1) % (aC (Geo.aA s) x).length:Nat):Int) (aC (Geo.aA s) x).length/\bd 1000000000 (nth (aC (Geo.aA s) x) (Int.tmod ((x_1:Int)+(aC (Geo.aA s) x).length-1) ((aC (Geo.aA s) x).length:Int)).toNat)/\bd 1000000000 (nth (aC (Geo.aA s) x) x_1)/\bd 1000000000 (nth (aC (Geo.aA s) x) ((x_1+1) % (aC (Geo.aA s) x).length))/\(((x:Int)=0->(Geo.cT (nth (aC (Geo.aA s) x) (Int.tmod ((x_1:Int)+(aC (Geo.aA s) x).length-1) ((aC (Geo.aA s) x).length:Int)).toNat) (nth (aC (Geo.aA s) x) x_1) (nth (aC (Geo.aA s) x) ((x_1+1) % (aC (Geo.aA s) x).length))<0->true=rfP x (aC (Geo.aA s) x) x_1)/\
         (¬Geo.cT (nth (aC (Geo.aA s) x) (Int.tmod ((x_1:Int)+(aC (Geo.aA s) x).length-1) ((aC (Geo.aA s) x).length:Int)).toNat) (nth (aC (Geo.aA s) x) x_1) (nth (aC (Geo.aA s) x) ((x_1+1) % (aC (Geo.aA s) x).length))<0->(0<(x:Int)->decide (0<Geo.cT (nth (aC (Geo.aA s) x) (Int.tmod ((x_1:Int)+(aC (Geo.aA s) x).length-1) ((aC (Geo.aA s) x).length:Int)).toNat) (nth (aC (Geo.aA s) x) x_1) (nth (aC (Geo.aA s) x) ((x_1+1) % (aC (Geo.aA s) x).length)))=rfP x (aC (Geo.aA s) x) x_1)/\
          (¬0<(x:Int)->false=rfP x (aC (Geo.aA s) x) x_1)))/\
        (¬(x:Int)=0->(0<(x:Int)->decide (0<Geo.cT (nth (aC (Geo.aA s) x) (Int.tmod ((x_1:Int)+(aC (Geo.aA s) x).length-1) ((aC (Geo.aA s) x).length:Int)).toNat) (nth (aC (Geo.aA s) x) x_1) (nth (aC (Geo.aA s) x) ((x_1+1) % (aC (Geo.aA s) x).length)))=rfP x (aC (Geo.aA s) x) x_1)/\
         (¬0<(x:Int)->false=rfP x (aC (Geo.aA s) x) x_1)))/\
       (∀y:Unit,(rfP x (aC (Geo.aA s) x) x_1=true->aJ (((rfS (Geo.aA s) x+rfR x (aC (Geo.aA s) x) x_1:Nat):Int)+1)/\((rfS (Geo.aA s) x+rfR x (aC (Geo.aA s) x) x_1:Nat):Int)+1=((rfS (Geo.aA s) x+rfR x (aC (Geo.aA s) x) (x_1+1):Nat):Int))/\
        (rfP x (aC (Geo.aA s) x) x_1=false->((rfS (Geo.aA s) x+rfR x (aC (Geo.aA s) x) x_1:Nat):Int)=((rfS (Geo.aA s) x+rfR x (aC (Geo.aA s) x) (x_1+1):Nat):Int))))/\
      (∀y:Unit,aJ ((x_1:Int)+1)/\(x_1:Int)+1=((x_1+1:Nat):Int)/\((rfS (Geo.aA s) x+rfR x (aC (Geo.aA s) x) (x_1+1):Nat):Int)=((rfS (Geo.aA s) x+rfR x (aC (Geo.aA s) x) (x_1+1):Nat):Int)/\x_1+1<=(aC (Geo.aA s) x).length/\(aC (Geo.aA s) x).length-(x_1+1)<(aC (Geo.aA s) x).length-x_1))/\
     (¬(x_1:Int)<(aC (Geo.aA s) x).length->aJ ((x:Int)+1)/\(x:Int)+1=((x+1:Nat):Int)/\((rfS (Geo.aA s) x+rfR x (aC (Geo.aA s) x) x_1:Nat):Int)=rfS (Geo.aA s) (x+1)/\x+1<=(Geo.aA s).length/\(Geo.aA s).length-(x+1)<(Geo.aA s).length-x)))/\
   (¬(x:Int)<(Geo.aA s).length->(rfS (Geo.aA s) x:Int)=Jm s)))) (by kernel_rfl) (by
  change Fit s at hp;have V:(!Geo.aR s)=false->Geo.VS s:=fun h=>(Geo.iZ s).1 (nb h)
  have lR:(Geo.aA s).length<=2000:=by have:=hp.2.1;unfold Geo.aA;rw[List.length_cons];omega
  have e0:(!Geo.aR s)=true->0=(Jm s:Int):=fun h=>by unfold Jm;rw[nb' h];rfl
  have o1:(!Geo.aR s)=false->0<s.outer.length:=fun h=>by have:=(V h).outer.three;omega
  have o2:(!Geo.aR s)=false->∀r∈s.holes,0<r.length:=fun h r hr=>by
   have:=((V h).ring (show r∈Geo.aA s from List.mem_cons_of_mem _ hr)).three;omega
  have rg:(!Geo.aR s)=false->∀x:Nat,(x:Int)<(Geo.aA s).length->Geo.VR (aC (Geo.aA s) x):=fun h x hx=>(V h).ring (Geo.eM (by omega))
  have l40:(!Geo.aR s)=false->∀x:Nat,(x:Int)<(Geo.aA s).length->(aC (Geo.aA s) x).length<=40:=fun h x hx=>(rg h x hx).most
  have tm:∀x i:Nat,(i:Int)<(aC (Geo.aA s) x).length->Int.tmod ((i:Int)+(aC (Geo.aA s) x).length-1) ((aC (Geo.aA s) x).length:Int)=(((i+(aC (Geo.aA s) x).length-1) % (aC (Geo.aA s) x).length:Nat):Int):=fun x i h=>by
   rw[show(i:Int)+(aC (Geo.aA s) x).length-1=((i+(aC (Geo.aA s) x).length-1:Nat):Int) by omega,Int.tmod_eq_emod_of_nonneg (by omega)];rfl
  have x1:∀x i:Nat,(i:Int)<(aC (Geo.aA s) x).length->ix (Int.tmod ((i:Int)+(aC (Geo.aA s) x).length-1) ((aC (Geo.aA s) x).length:Int)) (aC (Geo.aA s) x).length:=fun x i h=>by rw[tm x i h];exact eE (Nat.mod_lt _ (by omega))
  have x2:∀x i:Nat,(i:Int)<(aC (Geo.aA s) x).length->ix (((i+1) % (aC (Geo.aA s) x).length:Nat):Int) (aC (Geo.aA s) x).length:=fun x i h=>eE (Nat.mod_lt _ (by omega))
  have bN:(!Geo.aR s)=false->∀x:Nat,(x:Int)<(Geo.aA s).length->∀i:Nat,i<(aC (Geo.aA s) x).length->bd 1000000000 (nth (aC (Geo.aA s) x) i):=fun h x hx i hi=>lH (rg h x hx).near hi (by decide)
  have b1:(!Geo.aR s)=false->∀x i:Nat,(i:Int)<(aC (Geo.aA s) x).length->(x:Int)<(Geo.aA s).length->bd 1000000000 (nth (aC (Geo.aA s) x) (Int.tmod ((i:Int)+(aC (Geo.aA s) x).length-1) ((aC (Geo.aA s) x).length:Int)).toNat):=fun h x i hi hx=>by rw[tm x i hi,Int.toNat_natCast];exact bN h x hx _ (Nat.mod_lt _ (by omega))
  have b2:(!Geo.aR s)=false->∀x i:Nat,(i:Int)<(aC (Geo.aA s) x).length->(x:Int)<(Geo.aA s).length->bd 1000000000 (nth (aC (Geo.aA s) x) i):=fun h x i hi hx=>bN h x hx i (by omega)
  have b3:(!Geo.aR s)=false->∀x i:Nat,(i:Int)<(aC (Geo.aA s) x).length->(x:Int)<(Geo.aA s).length->bd 1000000000 (nth (aC (Geo.aA s) x) ((i+1) % (aC (Geo.aA s) x).length)):=fun h x i hi hx=>bN h x hx _ (Nat.mod_lt _ (by omega))
  have p1:∀x i:Nat,(i:Int)<(aC (Geo.aA s) x).length->(x:Int)=0->Geo.cT (nth (aC (Geo.aA s) x) (Int.tmod ((i:Int)+(aC (Geo.aA s) x).length-1) ((aC (Geo.aA s) x).length:Int)).toNat) (nth (aC (Geo.aA s) x) i) (nth (aC (Geo.aA s) x) ((i+1) % (aC (Geo.aA s) x).length))<0->true=rfP x (aC (Geo.aA s) x) i:=fun x i h h2 h3=>by
   rw[tm x i h,Int.toNat_natCast]at h3;unfold rfP;rw[decide_eq_true (show x=0 by omega),decide_eq_true h3];rfl
  have p2:∀x i:Nat,(i:Int)<(aC (Geo.aA s) x).length->0<(x:Int)->decide (0<Geo.cT (nth (aC (Geo.aA s) x) (Int.tmod ((i:Int)+(aC (Geo.aA s) x).length-1) ((aC (Geo.aA s) x).length:Int)).toNat) (nth (aC (Geo.aA s) x) i) (nth (aC (Geo.aA s) x) ((i+1) % (aC (Geo.aA s) x).length)))=rfP x (aC (Geo.aA s) x) i:=fun x i h h2=>by
   rw[tm x i h,Int.toNat_natCast];unfold rfP;rw[decide_eq_false (show¬x=0 by omega),decide_eq_true (show 0<x by omega)];simp
  have p3:∀x i:Nat,(i:Int)<(aC (Geo.aA s) x).length->¬Geo.cT (nth (aC (Geo.aA s) x) (Int.tmod ((i:Int)+(aC (Geo.aA s) x).length-1) ((aC (Geo.aA s) x).length:Int)).toNat) (nth (aC (Geo.aA s) x) i) (nth (aC (Geo.aA s) x) ((i+1) % (aC (Geo.aA s) x).length))<0->¬0<(x:Int)->false=rfP x (aC (Geo.aA s) x) i:=fun x i h h3 h2=>by
   rw[tm x i h,Int.toNat_natCast]at h3;unfold rfP;rw[decide_eq_false h3,decide_eq_false (show¬0<x by omega)];simp
  have p4:∀x i:Nat,¬(x:Int)=0->¬0<(x:Int)->false=rfP x (aC (Geo.aA s) x) i:=fun x i h h2=>by omega
  have q1:∀x i:Nat,rfP x (aC (Geo.aA s) x) i=true->rfR x (aC (Geo.aA s) x) (i+1)=rfR x (aC (Geo.aA s) x) i+1:=fun x i h=>by
   unfold rfR;rw[List.range_succ,List.filter_append,List.filter_cons_of_pos h,List.length_append];rfl
  have q2:∀x i:Nat,rfP x (aC (Geo.aA s) x) i=false->rfR x (aC (Geo.aA s) x) (i+1)=rfR x (aC (Geo.aA s) x) i:=fun x i h=>by
   unfold rfR;rw[List.range_succ,List.filter_append,List.filter_cons_of_neg (by rw[h];simp)];simp
  have q3:∀x i:Nat,rfR x (aC (Geo.aA s) x) i<=i:=fun x i=>by
   have:=List.length_filter_le (rfP x (aC (Geo.aA s) x)) (List.range i);rw[List.length_range]at this;exact this
  have q4:(!Geo.aR s)=false->∀x:Nat,x<=(Geo.aA s).length->rfS (Geo.aA s) x<=40*x:=fun h x=>by
   induction x with
   |zero=>intro _;exact Nat.le_refl _
   |succ x ih=>
    intro hx;have h1:=ih (by omega)
    have h2:=q3 x (aC (Geo.aA s) x).length;have h3:=l40 h x (by omega)
    show rfS (Geo.aA s) x+rfR x (aC (Geo.aA s) x) (aC (Geo.aA s) x).length<=_;omega
  have w1:(!Geo.aR s)=false->∀x i:Nat,(i:Int)<(aC (Geo.aA s) x).length->(x:Int)<(Geo.aA s).length->aJ (((rfS (Geo.aA s) x+rfR x (aC (Geo.aA s) x) i:Nat):Int)+1):=fun h x i hi hx=>by
   have h1:=q4 h x (by omega)
   have h2:=q3 x i;have h3:=l40 h x hx;exact cP (by omega)
  have w2:(!Geo.aR s)=false->∀x i:Nat,(i:Int)<(aC (Geo.aA s) x).length->(x:Int)<(Geo.aA s).length->aJ ((i:Int)+(aC (Geo.aA s) x).length)/\aJ ((i:Int)+(aC (Geo.aA s) x).length-1)/\aJ ((i:Int)+1):=fun h x i hi hx=>by
   have h3:=l40 h x hx;exact⟨cP (by omega),cP (by omega),cP (by omega)⟩
  have w3:∀x:Nat,(x:Int)<(Geo.aA s).length->aJ ((x:Int)+1):=fun x hx=>cP (by omega)
  have s1:∀x i:Nat,rfP x (aC (Geo.aA s) x) i=true->((rfS (Geo.aA s) x+rfR x (aC (Geo.aA s) x) i:Nat):Int)+1=((rfS (Geo.aA s) x+rfR x (aC (Geo.aA s) x) (i+1):Nat):Int):=fun x i h=>by rw[q1 x i h];omega
  have s2:∀x i:Nat,rfP x (aC (Geo.aA s) x) i=false->((rfS (Geo.aA s) x+rfR x (aC (Geo.aA s) x) i:Nat):Int)=((rfS (Geo.aA s) x+rfR x (aC (Geo.aA s) x) (i+1):Nat):Int):=fun x i h=>by rw[q2 x i h]
  have s3:∀x i:Nat,¬(i:Int)<(aC (Geo.aA s) x).length->i<=(aC (Geo.aA s) x).length->((rfS (Geo.aA s) x+rfR x (aC (Geo.aA s) x) i:Nat):Int)=rfS (Geo.aA s) (x+1):=fun x i h h2=>by
   obtain rfl:i=(aC (Geo.aA s) x).length:=by omega
   rfl
  have s4:(!Geo.aR s)=false->∀x:Nat,¬(x:Int)<(Geo.aA s).length->x<=(Geo.aA s).length->(rfS (Geo.aA s) x:Int)=Jm s:=fun h x h1 h2=>by
   obtain rfl:x=(Geo.aA s).length:=by omega
   unfold Jm;rw[nb h,if_pos rfl]
  have s5:∀x:Nat,(rfS (Geo.aA s) x:Int)=((rfS (Geo.aA s) x+rfR x (aC (Geo.aA s) x) 0:Nat):Int):=fun x=>rfl
  clear V rg bN tm q1 q2 q3 q4
  repeat' first|with_reducible apply And.intro|with_reducible intro
  all_goals repeat with_reducible cases‹_/\_›
  all_goals first|with_reducible assumption|with_reducible rfl|with_reducible exact e0 ‹_› |with_reducible exact o1 ‹_› |with_reducible exact o2 ‹_› _ ‹_› |with_reducible exact x1 _ _ ‹_› |with_reducible exact x2 _ _ ‹_› |with_reducible exact b1 ‹_› _ _ ‹_› ‹_› |with_reducible exact b2 ‹_› _ _ ‹_› ‹_› |with_reducible exact b3 ‹_› _ _ ‹_› ‹_› |with_reducible exact p1 _ _ ‹_› ‹_› ‹_› |with_reducible exact p2 _ _ ‹_› ‹_› |with_reducible exact p3 _ _ ‹_› ‹_› ‹_› |with_reducible exact p4 _ _ ‹_› ‹_› |with_reducible exact w1 ‹_› _ _ ‹_› ‹_› |with_reducible exact(w2 ‹_› _ _ ‹_› ‹_›).1|with_reducible exact(w2 ‹_› _ _ ‹_› ‹_›).2.1|with_reducible exact(w2 ‹_› _ _ ‹_› ‹_›).2.2|with_reducible exact w3 _ ‹_› |with_reducible exact s1 _ _ ‹_› |with_reducible exact s2 _ _ ‹_› |with_reducible exact s3 _ _ ‹_› ‹_› |with_reducible exact s4 ‹_› _ ‹_› ‹_› |with_reducible exact s5 _|omega|(unfold ix;omega)|(unfold aJ;omega)|rfl)
def t53:Tab:=cC [(53,c53)] t45
theorem aHx:t53.Ok Tryz.prog:=aK aHz ⟨k53,trivial⟩
end
end Go.Proofs.YtdaeofhdgabhjaaGreat
namespace Go.Proofs.YtdaeofhdgabhjaaGreat
open Go.RowKit
set_option maxRecDepth 100000
noncomputable section
open Geo (aY nth aC)
def arH(s:Geo.Shape)(k:Nat):Int:=Geo.dX s.outer-((s.holes.take k).map Geo.dX).sum
def qA(l:List Geo.V)(v:Geo.V)(k:Nat):Bool:=(l.take k).any fun u=>decide (u=v)
theorem Iw{l:List Geo.V}{v:Geo.V}{k:Nat}(h:k<l.length):qA l v (k+1)=(qA l v k||decide (nth l k=v)):=by
 unfold qA;rw[List.take_succ_eq_append_getElem h,List.any_append,nth_eq h];simp
theorem Ou(l:List Geo.V)(v:Geo.V):qA l v l.length= !fgn l v:=by
 unfold qA fgn;rw[List.take_length,Bool.not_not]
 congr 1;funext u;exact decide_eq_decide.2 eq_comm
def ccR(s:Geo.Shape)(r:Geo.aM):Bool:=(!Geo.dA r|| !Geo.fF s r)
def c95:Con:=con (a1 aSh) (fun s=>[Fit s]) (fun s=> .int .i64 (if Geo.bP s=true then gZ s else 0))
theorem k95:c95.Ok Tryz.prog 95:=aX (bK aHx) (raw:=bO) (fun s=>[lp 5 4 s.holes.length (fun _=>[]) [] (fun k=>[(3,.int .i64 (arH s k))]) (fun _=>[])]
  ) (fun _=>⟨_,rfl⟩) fun s hp=>bL (q:=Fit s/\((!Geo.bP s)=true->0=(if Geo.bP s=true then gZ s else 0))/\
 ((!Geo.bP s)=false->Geo.near s.outer=true/\s.outer.length<=100000/\(0=(0:Int)/\Geo.dX s.outer=arH s 0/\(0:Nat)<=s.holes.length)/\
  (∀x:Nat,x<=s.holes.length->((x:Int)<s.holes.length->ix (x:Int) s.holes.length/\Geo.near (aC s.holes x)=true/\(aC s.holes x).length<=100000/\aJ (arH s x-Geo.dX (aC s.holes x))/\aJ ((x:Int)+1)/\(x:Int)+1=((x+1:Nat):Int)/\arH s x-Geo.dX (aC s.holes x)=arH s (x+1)/\x+1<=s.holes.length/\s.holes.length-(x+1)<s.holes.length-x)/\
   (¬(x:Int)<s.holes.length->arH s x=(if Geo.bP s=true then gZ s else 0))))) (by kernel_rfl) (by
  change Fit s at hp;have V:(!Geo.bP s)=false->Geo.VS s:=fun h=>vsR (nb h)
  have e1:(!Geo.bP s)=true->0=(if Geo.bP s=true then gZ s else 0):=fun h=>by rw[nb' h];rfl
  have eh:(!Geo.bP s)=false->∀x:Nat,x<s.holes.length->Geo.VR (aC s.holes x):=fun h x hx=>(V h).hole x hx
  have n1:(!Geo.bP s)=false->Geo.near s.outer=true/\s.outer.length<=100000:=fun h=>⟨(V h).outer.near,by have:=(V h).outer.most;omega⟩
  have n2:(!Geo.bP s)=false->∀x:Nat,(x:Int)<s.holes.length->Geo.near (aC s.holes x)=true/\(aC s.holes x).length<=100000:=fun h x hx=>⟨(eh h x (by omega)).near,by have:=(eh h x (by omega)).most;omega⟩
  have z:Geo.dX s.outer=arH s 0:=by unfold arH;simp
  have st:∀x:Nat,(x:Int)<s.holes.length->arH s x-Geo.dX (aC s.holes x)=arH s (x+1):=fun x hx=>by
   unfold arH;rw[List.take_succ_eq_append_getElem (by omega),List.map_append,List.sum_append,gQ (by omega)]
   simp only[List.map_cons,List.map_nil,List.sum_cons,List.sum_nil];omega
  have bd0:∀r:Geo.aM,Geo.VR r-> -8000000000<=Geo.dX r/\Geo.dX r<=8000000000:=fun r h=>Ci ((Geo.eZ r).2 h)
  have bS:(!Geo.bP s)=false->∀x:Nat,x<=s.holes.length-> -(8000000000*((x:Int)+1))<=arH s x/\arH s x<=8000000000*((x:Int)+1):=fun h x=>by
   induction x with
   |zero=>intro _;rw[<-z];have:=bd0 _ (V h).outer;omega
   |succ x ih=>
    intro hx;have h1:=ih (by omega)
    have h2:=bd0 _ (eh h x (by omega))
    rw[<-st x (by omega)];omega
  have w:(!Geo.bP s)=false->∀x:Nat,(x:Int)<s.holes.length->aJ (arH s x-Geo.dX (aC s.holes x)):=fun h x hx=>by
   have h1:=bS h x (by omega)
   have h2:=bd0 _ (eh h x (by omega))
   have:=(V h).few;exact cP (by omega)
  have wx:(!Geo.bP s)=false->∀x:Nat,(x:Int)<s.holes.length->aJ ((x:Int)+1):=fun h x hx=>cP (by have:=(V h).few;omega)
  have f:(!Geo.bP s)=false->∀x:Nat,¬(x:Int)<s.holes.length->x<=s.holes.length->arH s x=(if Geo.bP s=true then gZ s else 0):=fun h x h1 h2=>by
   obtain rfl:x=s.holes.length:=by omega
   rw[nb h,if_pos rfl];unfold arH gZ;rw[List.take_length]
  clear bS eh V
  repeat' first|with_reducible apply And.intro|with_reducible intro
  all_goals first|assumption|rfl|exact e1 ‹_› |exact(n1 ‹_›).1|exact(n1 ‹_›).2|exact(n2 ‹_› _ ‹_›).1|exact(n2 ‹_› _ ‹_›).2|exact st _ ‹_› |exact w ‹_› _ ‹_› |exact wx ‹_› _ ‹_› |exact f ‹_› _ ‹_› ‹_› |omega|(unfold ix;omega))
def t95:Tab:=cC [(95,c95)] t53
theorem aHa:t95.Ok Tryz.prog:=aK aHx ⟨k95,trivial⟩
def c44:Con:=con (ac aSh (a1 (aL .R))) (fun(s,l)=>[Fit s,l.length<=1000,(∀r∈l,r.length<=1000)]) (fun(s,l)=> .bool (eF s l))
set_option maxHeartbeats 2000000 in
theorem k44:c44.Ok Tryz.prog 44:=aX (bK aHa) (raw:=bO) (fun(s,l)=>[lp 6 8 l.length (fun k=>[aU (cc s l) k]) [] (fun k=>[(7,.int .i64 (arS l k))]) (fun _=>[]) fun k=>[jb 9 40 (ccR s (aC l k)),cnt 11 9 (aC l k).length (aU fun j=>fgn (vOf s) (nth (aC l k) j)=false) fun j=>[lp 15 11 (vOf s).length (fun _=>[]) [] (fun n=>[(10,.bool (qA (vOf s) (nth (aC l k) j) n))]) (fun _=>[])],cnt 21 12 k (aU fun j=>Geo.dB (aC l k) (aC l j)=true)]]
  ) (fun(_,_)=>⟨_,rfl⟩) fun(s,l) hp=>bL (q:=Fit s/\(¬eOf s=0->false=eF s l)/\
 (¬(¬eOf s=0)->(0=(0:Int)/\0=arS l 0/\(0:Nat)<=l.length/\aU (cc s l) 0)/\
  (∀x:Nat,x<=l.length/\aU (cc s l) x->((x:Int)<l.length->(ix (x:Int) l.length/\(aC l x).length<=1000/\((!Geo.dA (aC l x))=true->true=ccR s (aC l x))/\
     ((!Geo.dA (aC l x))=false->ix (x:Int) l.length/\Fit s/\(3:Nat)<=(aC l x).length/\(aC l x).length<=1000/\(∀v:Geo.V,v∈aC l x->bd 10000 v)/\(aY s).length<=1000000/\(∀e:Geo.S,e∈aY s->bd 10000 e.a/\bd 10000 e.b)/\(!Geo.fF s (aC l x))=ccR s (aC l x)))/\
    (∀y:Unit,(ccR s (aC l x)=true->false=eF s l)/\
     (ccR s (aC l x)=false->(0=(0:Int)/\(0:Nat)<=(aC l x).length/\aU (fun j=>fgn (vOf s) (nth (aC l x) j)=false) 0)/\
      (∀x_1:Nat,x_1<=(aC l x).length/\aU (fun j=>fgn (vOf s) (nth (aC l x) j)=false) x_1->ix (x:Int) l.length/\((x_1:Int)<(aC l x).length->(0=(0:Int)/\false=qA (vOf s) (nth (aC l x) x_1) 0/\(0:Nat)<=(vOf s).length)/\
        (∀x_2:Nat,x_2<=(vOf s).length->((x_2:Int)<(vOf s).length->(qA (vOf s) (nth (aC l x) x_1) x_2=true->aJ ((x_2:Int)+1)/\(x_2:Int)+1=((x_2+1:Nat):Int)/\true=qA (vOf s) (nth (aC l x) x_1) (x_2+1)/\x_2+1<=(vOf s).length/\(vOf s).length-(x_2+1)<(vOf s).length-x_2)/\
          (qA (vOf s) (nth (aC l x) x_1) x_2=false->ix (x_2:Int) (vOf s).length/\ix (x:Int) l.length/\ix (x_1:Int) (aC l x).length/\aJ ((x_2:Int)+1)/\(x_2:Int)+1=((x_2+1:Nat):Int)/\decide ((nth (vOf s) x_2)=(nth (aC l x) x_1))=qA (vOf s) (nth (aC l x) x_1) (x_2+1)/\x_2+1<=(vOf s).length/\(vOf s).length-(x_2+1)<(vOf s).length-x_2))/\
         (¬(x_2:Int)<(vOf s).length->((!qA (vOf s) (nth (aC l x) x_1) x_2)=true->false=eF s l)/\
          ((!qA (vOf s) (nth (aC l x) x_1) x_2)=false->aJ ((x_1:Int)+1)/\(x_1:Int)+1=((x_1+1:Nat):Int)/\x_1+1<=(aC l x).length/\aU (fun j=>fgn (vOf s) (nth (aC l x) j)=false) (x_1+1)/\(aC l x).length-(x_1+1)<(aC l x).length-x_1))))/\
       (¬(x_1:Int)<(aC l x).length->(0=(0:Int)/\(0:Nat)<=x/\aU (fun j=>Geo.dB (aC l x) (aC l j)=true) 0)/\
        (∀x_2:Nat,x_2<=x/\aU (fun j=>Geo.dB (aC l x) (aC l j)=true) x_2->((x_2:Int)<x->ix (x:Int) l.length/\ix (x_2:Int) l.length/\(aC l x).length<=1000/\(aC l x_2).length<=1000/\(∀v:Geo.V,v∈aC l x->bd 1000000000 v)/\(∀v:Geo.V,v∈aC l x_2->bd 1000000000 v)/\((!Geo.dB (aC l x) (aC l x_2))=true->false=eF s l)/\
          ((!Geo.dB (aC l x) (aC l x_2))=false->aJ ((x_2:Int)+1)/\(x_2:Int)+1=((x_2+1:Nat):Int)/\x_2+1<=x/\aU (fun j=>Geo.dB (aC l x) (aC l j)=true) (x_2+1)/\x-(x_2+1)<x-x_2))/\
         (¬(x_2:Int)<x->ix (x:Int) l.length/\Geo.near (aC l x)=true/\(aC l x).length<=100000/\aJ (arS l x+Geo.dX (aC l x))/\aJ ((x:Int)+1)/\(x:Int)+1=((x+1:Nat):Int)/\arS l x+Geo.dX (aC l x)=arS l (x+1)/\x+1<=l.length/\aU (cc s l) (x+1)/\l.length-(x+1)<l.length-x)))))))/\
   (¬(x:Int)<l.length->Fit s/\decide (arS l x=(if Geo.bP s=true then gZ s else 0))=eF s l)))) (by kernel_rfl) (by
  change Fit s/\l.length<=1000/\((∀r∈l,r.length<=1000))at hp;obtain⟨hf,hl,hr⟩:=hp;have hr:∀x:Nat,(x:Int)<l.length->(aC l x).length<=1000:=fun x h=>hr _ (Geo.eM (by omega))
  have hr5:∀x:Nat,(x:Int)<l.length->(aC l x).length<=100000:=fun x h=>by have:=hr x h;omega
  have R:¬¬eOf s=0->Geo.bP s=true:=fun h=>Lg h
  have hvP:¬¬eOf s=0->Geo.aR s=true:=fun h=>by rw[Geo.iG];exact R h
  have V:¬¬eOf s=0->Geo.VS s:=fun h=>vsR (R h)
  have hv:=wF s;have he:¬¬eOf s=0->(aY s).length<=1000000:=fun h=>by have:=tQ (V h);omega
  have hw1:¬¬eOf s=0->∀e∈aY s,bd 10000 e.a:=fun h e hm=>xK (Dk (V h) e hm).1
  have hw2:¬¬eOf s=0->∀e∈aY s,bd 10000 e.b:=fun h e hm=>xK (Dk (V h) e hm).2
  have c0:¬eOf s=0->false=eF s l:=fun h=>by
   unfold eF;rw[Geo.iG];cases e:Geo.bP s with
   |false=>rfl
   |true=>exact absurd (by unfold eOf;rw[e];rfl) h
  have a1:∀x:Nat,(!Geo.dA (aC l x))=true->true=ccR s (aC l x):=fun x h=>by unfold ccR;rw[h];rfl
  have a4:∀x:Nat,(!Geo.dA (aC l x))=false->(!Geo.fF s (aC l x))=ccR s (aC l x):=fun x h2=>by
   unfold ccR;rw[h2];rfl
  have kV:∀r:Geo.aM,ccR s r=false->Geo.dA r=true/\Geo.fF s r=true:=fun r h=>by
   unfold ccR at h;cases e:Geo.dA r<;>cases e2:Geo.fF s r<;>rw[e,e2]at h<;>simp at h|-
  have vB:∀r:Geo.aM,Geo.dA r=true->∀v∈r,bd 10000 v:=fun r h v hv=>nT ((Geo.CR.of h).near v hv)
  have vB4:∀(x:Nat) (v:Geo.V),v∈aC l x->(!Geo.dA (aC l x))=false->bd 10000 v:=fun x v hv h=>vB _ (nb h) v hv
  have vB9:∀(x:Nat) (v:Geo.V),v∈aC l x->ccR s (aC l x)=false->bd 1000000000 v:=fun x v hv h=>(vB _ (kV _ h).1 v hv).mono
  have l3':∀x:Nat,(!Geo.dA (aC l x))=false->3<=(aC l x).length:=fun x h=>(Geo.CR.of (nb h)).len
  have nr:∀x:Nat,ccR s (aC l x)=false->Geo.near (aC l x)=true:=fun x h=>Ag (kV _ h).1
  have kA:¬¬eOf s=0->∀r:Geo.aM,ccA s r=(ccR s r||r.any (fgn (vOf s))):=fun h r=>by
   unfold ccA ccR;cases e:Geo.dA r with
   |false=>rfl
   |true=>
    rw[Geo.Sc (V h) (Geo.CR.of e)];cases r.any (fgn (vOf s))<;>cases Geo.fF s r<;>rfl
  have kB:∀x:Nat,aU (cc s l) x->Geo.dA (aC l x)=true->∀j,j<x->Geo.cV (aC l x) (aC l j)= !Geo.dB (aC l x) (aC l j):=fun x hu h j hj=>
   Geo.Az (Geo.CR.of h) (Geo.CR.of (tK (hu j hj).1))
  have no:∀x:Nat,(x:Int)<l.length->(ccA s (aC l x)=true\/ccB l x=true)->false=eF s l:=fun x h h2=>by
   unfold eF;rw[show((List.range l.length).all fun i=> !ccA s (aC l i)&& !ccB l i)=false from List.all_eq_false.2 ⟨x,List.mem_range.2 (by omega),by
    rcases h2 with h2|h2
    ·rw[h2];simp
    ·rw[h2];simp⟩]
   simp
  have no1:¬¬eOf s=0->∀x:Nat,ccR s (aC l x)=true->(x:Int)<l.length->false=eF s l:=fun h x h1 hx=>no x hx (.inl (by rw[kA h,h1];rfl))
  have no2:¬¬eOf s=0->∀x j k:Nat,(!qA (vOf s) (nth (aC l x) j) k)=true->¬(k:Int)<(vOf s).length->k<=(vOf s).length->(x:Int)<l.length->ccR s (aC l x)=false->(j:Int)<(aC l x).length->false=eF s l:=fun h x j k h2 hk1 hk2 hx h1 hj=>no x hx (.inl (by
   obtain rfl:k=(vOf s).length:=by omega
   rw[Ou,Bool.not_not]at h2;rw[kA h,h1,Bool.false_or];exact List.any_eq_true.2 ⟨_,Geo.dV (show j<(aC l x).length by omega),h2⟩))
  have ok2:∀x j k:Nat,(!qA (vOf s) (nth (aC l x) j) k)=false->¬(k:Int)<(vOf s).length->k<=(vOf s).length->aU (fun j=>fgn (vOf s) (nth (aC l x) j)=false) j->aU (fun j=>fgn (vOf s) (nth (aC l x) j)=false) (j+1):=fun x j k h2 hk1 hk2 hu=>by
   obtain rfl:k=(vOf s).length:=by omega
   rw[Ou,Bool.not_not]at h2;exact aE hu h2
  have no3:∀x j:Nat,(!Geo.dB (aC l x) (aC l j))=true->(x:Int)<l.length->aU (cc s l) x->ccR s (aC l x)=false->(j:Int)<x->false=eF s l:=fun x j h2 hx hu h1 hj=>no x hx (.inr (by
   unfold ccB;rw[<-kB x hu (kV _ h1).1 j (by omega)]at h2
   refine List.any_eq_true.2 ⟨aC l j,?_,h2⟩;have:(l.take x)[j]'(by rw[List.length_take];omega)=aC l j:=by rw[List.getElem_take,<-gQ (by omega)]
   rw[<-this];exact List.getElem_mem _))
  have okS:¬¬eOf s=0->∀x j k:Nat,aU (fun j=>fgn (vOf s) (nth (aC l x) j)=false) j->aU (fun j=>Geo.dB (aC l x) (aC l j)=true) k->(x:Int)<l.length->aU (cc s l) x->ccR s (aC l x)=false->¬(j:Int)<(aC l x).length->j<=(aC l x).length->¬(k:Int)<x->k<=x->aU (cc s l) (x+1):=fun h x j k hj hk hx hu h1 hj1 hj2 hk1 hk2=>by
   obtain rfl:j=(aC l x).length:=by omega
   obtain rfl:k=x:=by omega
   have hkv:=kV _ h1;refine aE hu ⟨?_,?_⟩
   ·rw[kA h,h1,Bool.false_or];refine List.any_eq_false.2 fun v hv=> ?_
    obtain⟨i,hi,rfl⟩:=Geo.fJ.1 hv;rw[hj i hi];simp
   ·unfold ccB;refine List.any_eq_false.2 fun o ho=> ?_
    obtain⟨i,hi,rfl⟩:=List.getElem_of_mem ho;rw[List.length_take]at hi;rw[List.getElem_take,<-gQ (by omega),kB k hu hkv.1 i (by omega),hk i (by omega)];simp
  have sS:∀x:Nat,(x:Int)<l.length->arS l x+Geo.dX (aC l x)=arS l (x+1):=fun x h=>Ek (by omega)
  have wS:∀x:Nat,aU (cc s l) x->(x:Int)<l.length->ccR s (aC l x)=false->aJ (arS l x+Geo.dX (aC l x)):=fun x hu h h1=>by
   have h2:=Ry (fun y hy=>hr y (by omega)) x (by omega) fun j hj=>Ag (tK (hu j hj).1)
   have h3:=Cw (nr x h1) (aC l x).length (Nat.le_refl _);have h4:=hr x h;have e:ar (aC l x) (aC l x).length=Geo.dX (aC l x):=rfl;rw[e]at h3;exact cP (by omega)
  have yE:¬¬eOf s=0->∀x:Nat,aU (cc s l) x->¬(x:Int)<l.length->x<=l.length->decide (arS l x=(if Geo.bP s=true then gZ s else 0))=eF s l:=fun h x h3 h1 h2=>by
   obtain rfl:x=l.length:=by omega
   unfold eF;rw[if_pos (R h),hvP h,show((List.range l.length).all fun i=> !ccA s (aC l i)&& !ccB l i)=true from List.all_eq_true.2 fun i hi=>by
    obtain⟨g1,g2⟩:=h3 i (List.mem_range.1 hi);rw[g1,g2];rfl]
   simp
  have z0:∀v,false=qA (vOf s) v 0:=fun v=>rfl
  have z1:0=arS l 0:=rfl;have f1:∀(v:Geo.V) (k:Nat),qA (vOf s) v k=true->(k:Int)<(vOf s).length->true=qA (vOf s) v (k+1):=fun v k h2 h=>by rw[Iw (by omega),h2];rfl
  have f2:∀(v:Geo.V) (k:Nat),qA (vOf s) v k=false->(k:Int)<(vOf s).length->decide (nth (vOf s) k=v)=qA (vOf s) v (k+1):=fun v k h2 h=>by rw[Iw (by omega),h2];rfl
  have ckj:∀(x j:Nat) (v:Geo.V),v∈aC l j->aU (cc s l) x->(j:Int)<x->bd 1000000000 v:=fun x j v hv hu hj=>(vB _ (tK (hu j (by omega)).1) v hv).mono
  have hrj:∀x j:Nat,(j:Int)<x->(x:Int)<l.length->(aC l j).length<=1000:=fun x j hj h=>hr j (by omega)
  have wj:∀x j:Nat,(j:Int)<(aC l x).length->(x:Int)<l.length->aJ ((j:Int)+1):=fun x j hj h=>cP (by have:=hr x h;omega)
  clear V hvP R kA kB no vB kV
  repeat' first|with_reducible apply And.intro|with_reducible intro
  all_goals repeat with_reducible cases‹_/\aU _ _›
  all_goals first|assumption|with_reducible rfl|(with_reducible exact c0 ‹_›)|(with_reducible exact he ‹_›)|(with_reducible exact hw1 ‹_› _ ‹_›)|(with_reducible exact hw2 ‹_› _ ‹_›)|(with_reducible exact hr _ ‹_›)|(with_reducible exact hr5 _ ‹_›)|(with_reducible exact hrj _ _ ‹_› ‹_›)|(with_reducible exact a1 _ ‹_›)|(with_reducible exact a4 _ ‹_›)|(with_reducible exact vB4 _ _ ‹_› ‹_›)|(with_reducible exact vB9 _ _ ‹_› ‹_›)|(with_reducible exact ckj _ _ _ ‹_› ‹_› ‹_›)|(with_reducible exact l3' _ ‹_›)|(with_reducible exact nr _ ‹_›)|(with_reducible exact no1 ‹_› _ ‹_› ‹_›)|(with_reducible exact no2 ‹_› _ _ _ ‹_› ‹_› ‹_› ‹_› ‹_› ‹_›)|(with_reducible exact ok2 _ _ _ ‹_› ‹_› ‹_› ‹_›)|(with_reducible exact no3 _ _ ‹_› ‹_› ‹_› ‹_› ‹_›)|(with_reducible exact okS ‹_› _ _ _ ‹_› ‹_› ‹_› ‹_› ‹_› ‹_› ‹_› ‹_› ‹_›)|(with_reducible exact sS _ ‹_›)|(with_reducible exact wS _ ‹_› ‹_› ‹_›)|(with_reducible exact wj _ _ ‹_› ‹_›)|(with_reducible exact yE ‹_› _ ‹_› ‹_› ‹_›)|exact z0 _|exact z1|exact f1 _ _ ‹_› ‹_› |exact f2 _ _ ‹_› ‹_› |exact bC _|exact aE ‹_› (nb ‹_›)|omega|(unfold ix;omega)|(unfold aJ;omega)|rfl)
def t44:Tab:=cC [(44,c44)] t95
theorem aHA:t44.Ok Tryz.prog:=aK aHa ⟨k44,trivial⟩
def oI(l:List Geo.aM):Bool:=(l.all fun r=>decide (r.length<=60))&&decide (l.length<=25)
def c42:Con:=con (a1 (aL .R)) (fun l=>[Qz l]) (fun l=> .bool (oI l))
theorem k42:c42.Ok Tryz.prog 42:=aX (bK aHA) (raw:=bO) (fun l=>[cnt 2 6 l.length (aU fun j=>(aC l j).length<=60)]
  ) (fun _=>⟨_,rfl⟩) fun l hp=>bL (q:=(0=(0:Int)/\(0:Nat)<=l.length/\aU (fun j=>(aC l j).length<=60) 0)/\
 (∀x:Nat,x<=l.length/\aU (fun j=>(aC l j).length<=60) x->((x:Int)<l.length->ix (x:Int) l.length/\(60<((aC l x).length:Int)->false=oI l)/\
   (¬60<((aC l x).length:Int)->aJ ((x:Int)+1)/\(x:Int)+1=((x+1:Nat):Int)/\x+1<=l.length/\aU (fun j=>(aC l j).length<=60) (x+1)/\l.length-(x+1)<l.length-x))/\
  (¬(x:Int)<l.length->decide ((l.length:Int)<=25)=oI l))) (by kernel_rfl) (by
  change Qz l at hp;have bad:∀x:Nat,60<((aC l x).length:Int)->(x:Int)<l.length->false=oI l:=fun x h h2=>by
   unfold oI;rw[List.all_eq_false.2 ⟨_,Geo.eM (show x<l.length by omega),by rw[decide_eq_false (by omega)];simp⟩];rfl
  have fin:∀x:Nat,aU (fun j=>(aC l j).length<=60) x->¬(x:Int)<l.length->x<=l.length->decide ((l.length:Int)<=25)=oI l:=fun x h h1 h2=>by
   unfold oI;rw[List.all_eq_true.2 fun r hr=> ?_,Bool.true_and]
   ·exact decide_eq_decide.2 (by omega)
   ·obtain⟨j,hj,rfl⟩:=Geo.tI hr;exact decide_eq_true (h j (by omega))
  have hl:=hp.1
  repeat' first|with_reducible apply And.intro|with_reducible intro
  all_goals repeat with_reducible cases‹_/\_›
  all_goals first|with_reducible assumption|with_reducible rfl|with_reducible exact bad _ ‹_› ‹_› |with_reducible exact fin _ ‹_› ‹_› ‹_› |exact bC _|exact aE ‹_› (by omega)|omega|(unfold ix;omega)|(unfold aJ;omega))
def t42:Tab:=cC [(42,c42)] t44
theorem aHC:t42.Ok Tryz.prog:=aK aHA ⟨k42,trivial⟩
def sqR:Geo.aM:=[⟨0,0⟩,⟨3,0⟩,⟨3,3⟩,⟨0,3⟩]
def awR:Geo.aM:=[⟨0,0⟩,⟨2,1⟩,⟨4,0⟩,⟨2,4⟩]
instance(lt:Int->Int->Bool)(l:List Int):Decidable (OrdOn lt l):=decidable_of_iff ((∀x∈l,∀y∈l,∀z∈l,lt x y=true->lt y z=true->lt x z=true)/\(∀x∈l,∀y∈l,lt x y=true->lt y x=false)/\(∀x∈l,∀y∈l,lt x y=false->lt y x=false->x=y)) ⟨fun h=>⟨h.1,h.2.1,h.2.2⟩,fun h=>⟨h.1,h.2,h.3⟩⟩
instance(v:List Geo.V)(L:List (List Int))(i j:Nat):Decidable (ArOk v L i j):=decidable_of_iff (i<L.length/\(j:Int)∈dC L i/\(∀x∈dC L i,0<=x/\x.toNat<v.length)/\(dC L i).length<=1000000) ⟨fun h=>⟨h.1,h.2.1,h.2.2.1,h.2.2.2⟩,fun h=>⟨h.1,h.2,h.3,h.4⟩⟩
instance(s:Geo.Shape):Decidable (GOk s):=inferInstanceAs (Decidable (∀k,k<(vOf s).length->0<(dC (oD s) k).length/\(∀x∈dC (oD s) k,0<=x/\x.toNat<(vOf s).length)/\OrdOn (ltA (vOf s) k) (dC (oD s) k)))
instance(s:Geo.Shape):Decidable (SOk s):=inferInstanceAs (Decidable (∀k,k<(pG s).length->ArOk (vOf s) (sG s k).1 (bF (pG s) k).1 (bF (pG s) k).2/\ArOk (vOf s) (sG s k).1 (bF (pG s) k).2 (bF (pG s) k).1/\(bF (pG s) k).2≠(bF (pG s) k).1))
def PcB(s:Geo.Shape):Prop:=(∀i,i<(soG s).length->∀x∈dC (soG s) i,ArOk (vOf s) (soG s) i x.toNat/\ArOk (vOf s) (soG s) x.toNat i)/\(∀h∈hsG s,ArOk (vOf s) (soG s) h.2 h.1)/\(∀i,i<(vOf s).length->0<=iI (nG s) i)/\
 ∀k,k<(hsG s).length->0<(trc (vOf s) (soG s) (trU (vOf s)) (pcK s k).1 (bF (hsG s) k) []).2.length->(trc (vOf s) (soG s) (trU (vOf s)) (pcK s k).1 (bF (hsG s) k) []).2.length<=1000/\0<(eR (trc (vOf s) (soG s) (trU (vOf s)) (pcK s k).1 (bF (hsG s) k) []).2).length
theorem PcB.ok{s:Geo.Shape}(h:PcB s):Qx s:=by
 refine⟨fun i j hj=> ?_,h.2⟩
 have hi:i<(soG s).length:=by
  rcases Nat.lt_or_ge i (soG s).length with h1|h1
  ·exact h1
  ·unfold dC at hj;rw[List.getD_eq_getElem?_getD,List.getElem?_eq_none h1]at hj;cases hj
 have:=h.1 i hi _ hj;rw[Int.toNat_natCast]at this;exact this
instance(s:Geo.Shape):Decidable (PcB s):=by unfold PcB;infer_instance
def sqS:Geo.Shape:=⟨sqR,[]⟩
def awS:Geo.Shape:=⟨awR,[]⟩
theorem aAn:GOk sqS/\SOk sqS/\PcB sqS:=by decide+kernel
theorem aAI:GOk awS/\SOk awS/\PcB awS:=by decide+kernel
theorem aFq:Geo.aR sqS=true/\pcG sqS=[sqR] :=by decide+kernel
theorem aFM:Geo.aR awS=true/\pcG awS=[[⟨0,0⟩,⟨2,1⟩,⟨2,4⟩],[⟨4,0⟩,⟨2,4⟩,⟨2,1⟩]] :=by decide+kernel
theorem aAJ:eF awS [[⟨0,0⟩,⟨2,1⟩,⟨2,4⟩],[⟨4,0⟩,⟨2,4⟩,⟨2,1⟩]] =true/\Geo.bY [sqR] [[⟨0,0⟩,⟨2,1⟩,⟨2,4⟩],[⟨4,0⟩,⟨2,4⟩,⟨2,1⟩]] =true/\Jm awS=1:=by decide+kernel
theorem aGv:Fit sqS:=⟨by decide,by decide,fun r h=>(List.not_mem_nil h).elim⟩
theorem Rx:Fit awS:=⟨by decide,by decide,fun r h=>(List.not_mem_nil h).elim⟩
theorem aKV:eV sqS=0:=by unfold eV;rw[aFq.1];rfl
theorem aLd:eV awS=0:=by unfold eV;rw[aFM.1];rfl
def c41:Con:=con (a0) (fun _=>[]) (fun _=> .bool true)
theorem k41:c41.Ok Tryz.prog 41:=aX (bK aHC) (raw:=bO) (fun _=>[(10002,.mk Unit (fun _ _=>some ()) [] (fun _=>[]) (fun _=>[(1,.lst .V sqR)]) (fun _=>[]) (fun _=>0) (fun _=>[])),(10003,.mk Unit (fun _ _=>some ()) [7] (fun _=>[]) (fun _=>[(2,.ptr 7 0)]) (fun _=>[(7,.box 26 [.lst .V awR,.nil])]) (fun _=>0) (fun _=>[]))]
  ) (fun _=>⟨_,rfl⟩) fun _ _=>bL (q:=[(⟨0,0⟩:Geo.V),(⟨3,0⟩:Geo.V),(⟨3,3⟩:Geo.V),(⟨0,3⟩:Geo.V)] =sqR/\
 (∀y:Unit,[(⟨0,0⟩:Geo.V),(⟨2,1⟩:Geo.V),(⟨4,0⟩:Geo.V),(⟨2,4⟩:Geo.V)] =awR/\
  (∀y_1:Unit,Fit (⟨sqR,([] :List (List Geo.V))⟩:Geo.Shape)/\(Geo.aR (⟨sqR,([] :List (List Geo.V))⟩:Geo.Shape)=true->GOk (⟨sqR,([] :List (List Geo.V))⟩:Geo.Shape)/\SOk (⟨sqR,([] :List (List Geo.V))⟩:Geo.Shape)/\Qx (⟨sqR,([] :List (List Geo.V))⟩:Geo.Shape))/\Fit (⟨awR,([] :List (List Geo.V))⟩:Geo.Shape)/\(Geo.aR (⟨awR,([] :List (List Geo.V))⟩:Geo.Shape)=true->GOk (⟨awR,([] :List (List Geo.V))⟩:Geo.Shape)/\SOk (⟨awR,([] :List (List Geo.V))⟩:Geo.Shape)/\Qx (⟨awR,([] :List (List Geo.V))⟩:Geo.Shape))/\(eV (⟨sqR,([] :List (List Geo.V))⟩:Geo.Shape)=0->(eV (⟨awR,([] :List (List Geo.V))⟩:Geo.Shape)=0->(pcG (⟨sqR,([] :List (List Geo.V))⟩:Geo.Shape)).length<=1000000/\(∀r:Geo.aM,r∈pcG (⟨sqR,([] :List (List Geo.V))⟩:Geo.Shape)->r.length<=100000)/\((pcG (⟨sqR,([] :List (List Geo.V))⟩:Geo.Shape)==[sqR])=true->(((pcG (⟨awR,([] :List (List Geo.V))⟩:Geo.Shape)).length:Int)=2->Fit (⟨awR,([] :List (List Geo.V))⟩:Geo.Shape)/\(pcG (⟨awR,([] :List (List Geo.V))⟩:Geo.Shape)).length<=1000/\(∀r:Geo.aM,r∈pcG (⟨awR,([] :List (List Geo.V))⟩:Geo.Shape)->r.length<=1000)/\(eF (⟨awR,([] :List (List Geo.V))⟩:Geo.Shape) (pcG (⟨awR,([] :List (List Geo.V))⟩:Geo.Shape))=true->(pcG (⟨sqR,([] :List (List Geo.V))⟩:Geo.Shape)).length<=1000/\(∀r:Geo.aM,r∈pcG (⟨sqR,([] :List (List Geo.V))⟩:Geo.Shape)->r.length<=1000)/\(pcG (⟨awR,([] :List (List Geo.V))⟩:Geo.Shape)).length<=1000/\(∀r:Geo.aM,r∈pcG (⟨awR,([] :List (List Geo.V))⟩:Geo.Shape)->r.length<=1000)/\(Geo.bY (pcG (⟨sqR,([] :List (List Geo.V))⟩:Geo.Shape)) (pcG (⟨awR,([] :List (List Geo.V))⟩:Geo.Shape))=true->Fit (⟨awR,([] :List (List Geo.V))⟩:Geo.Shape)/\decide ((Jm (⟨awR,([] :List (List Geo.V))⟩:Geo.Shape):Int)=1)=true)/\
        (Geo.bY (pcG (⟨sqR,([] :List (List Geo.V))⟩:Geo.Shape)) (pcG (⟨awR,([] :List (List Geo.V))⟩:Geo.Shape))=false->false=true))/\
       (eF (⟨awR,([] :List (List Geo.V))⟩:Geo.Shape) (pcG (⟨awR,([] :List (List Geo.V))⟩:Geo.Shape))=false->false=true))/\
      (¬((pcG (⟨awR,([] :List (List Geo.V))⟩:Geo.Shape)).length:Int)=2->false=true))/\
     ((pcG (⟨sqR,([] :List (List Geo.V))⟩:Geo.Shape)==[sqR])=false->false=true))/\
    (¬eV (⟨awR,([] :List (List Geo.V))⟩:Geo.Shape)=0->false=true))/\
   (¬eV (⟨sqR,([] :List (List Geo.V))⟩:Geo.Shape)=0->false=true)))) (by kernel_rfl) (by
  rw[show(⟨sqR,([] :List (List Geo.V))⟩:Geo.Shape)=sqS from rfl,show(⟨awR,([] :List (List Geo.V))⟩:Geo.Shape)=awS from rfl,aKV,aLd,aFq.2,aFM.2,aAJ.1,aAJ.2.1,aAJ.2.2]
  have lo:∀n:Nat,4<=n->∀r∈([[⟨0,0⟩,⟨2,1⟩,⟨2,4⟩],[⟨4,0⟩,⟨2,4⟩,⟨2,1⟩]] :List Geo.aM),r.length<=n:=fun n hn r hr=>by
   simp only[List.mem_cons,List.not_mem_nil,or_false]at hr;rcases hr with rfl|rfl<;>simp<;>omega
  have lq:∀n:Nat,4<=n->∀r∈[sqR],r.length<=n:=fun n hn r hr=>by
   rw[List.mem_singleton.1 hr];exact hn
  refine⟨rfl,fun _=>⟨rfl,fun _=>⟨aGv,fun _=>⟨aAn.1,aAn.2.1,aAn.2.2.ok⟩,Rx,fun _=>⟨aAI.1,aAI.2.1,aAI.2.2.ok⟩,⟨fun _=>⟨fun _=>⟨by decide,lq _ (by decide),⟨fun _=>⟨fun _=>⟨Rx,by decide,lo _ (by decide),⟨fun _=>⟨by decide,lq _ (by decide),by decide,lo _ (by decide),⟨fun _=>⟨Rx,by decide⟩,fun h=>(by cases h)⟩⟩,fun h=>(by cases h)⟩⟩,fun h=>absurd (by decide) h⟩,fun h=>absurd h (by decide)⟩⟩,fun h=>absurd rfl h⟩,fun h=>absurd rfl h⟩⟩⟩⟩)
def t41:Tab:=cC [(41,c41)] t42
theorem aLv:t41.Ok Tryz.prog:=aK aHC ⟨k41,trivial⟩
end
end Go.Proofs.YtdaeofhdgabhjaaGreat
