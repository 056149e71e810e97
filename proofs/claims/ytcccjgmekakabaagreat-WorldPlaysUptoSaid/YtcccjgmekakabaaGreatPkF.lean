/-
  Part 6 of the proof:WorldPlays of layer 6 is true of the given program for every input that its guards let in (of bulk at most 1048576).
-/
import Derived.Test.YtcccjgmekakabaaGreatPkE
import Derived.Lib.SliceRun
import Derived.Laws.IdiomRangeMap
set_option linter.unusedSimpArgs false
set_option linter.unusedVariables false
set_option maxRecDepth 100000
open Go.IntKind (i64 u64 u8)
section
namespace Go.Proofs.YtcccjgmekakabaaGreat.FP
open F
open Go Go.Den Go.Proofs
def qq (l:List Int) (i:Nat):Option Int:=if i=0 then none else l[i - 1]?
theorem pQ (p:Option Int) (x:Int) (r:List Int):runT p (x :: r)=if p=some x then runT (some x) r else (((lG x r+1:Nat):Int),x) :: runT (some x) r:=by rw [runT]
section
variable {S:List Nat} {w0 w:World} {ae:List aa}
set_option maxHeartbeats 2000000 in
theorem EJ (h:Hp S w0 w ae) (j:Nat) {u:aa} {v:Sl} {l:List Int} (hj:(ae[j]?).map aa.holds=some u.holds) (hu:Hp.Reads u v 1 iv l) (hr:eW l) (hl:l.length<=1000000000000) {K:Sl->Sl->Sl->World->Prop}
  (hK: ∀p s r w',Hp S w0 w' (ae++ [tB p (0 :: cw 0 l),tB s (1 :: cw 1 l),tB r (2 :: cw 2 l)])->K p s r w'):SC v w K:=by
 refine OO ?_;unfold f164;have gJ:=h.dR j hj hu;have h1:=h.My hj;have AL:Hp.Reads u.ro v 1 iv l:=⟨hu.rd⟩;obtain⟨inf,q1,q2,q3,q4⟩:=AJ;refine h1.nw (c:= [_,_,_]) fun a w1 h1=>?_;refine h1.nw (c:= [_]) fun b w1 h1=>?_;refine h1.nw (c:= [_]) fun b2 w1 h1=>?_;refine h1.nw (c:= [_]) fun b3 w1 h1=>?_;have h1:=h1.nI (i:=2) (m:=1) (l:= [(0:Int)]) (f:=ky) (n:=1) rfl rfl rfl cE;have h1:=h1.nI (i:=3) (m:=1) (l:= [(1:Int)]) (f:=ky) (n:=1) rfl rfl rfl cE;have h1:=h1.nI (i:=4) (m:=1) (l:= [(2:Int)]) (f:=ky) (n:=1) rfl rfl rfl cE;have h1:=h1.nil 5 1 ky;simp only [alI,alO,alq,alG] at h1;refine⟨fun plain steps each many last t m w'=> ∃(i:Nat) (P Q E:List Int),t=i /\ i<=l.length /\ m=l.length - i /\ P++bV (l.drop i)=0 :: bV l /\ P.length<=1+10*i /\
   Q++mn last (l.drop i)=1 :: mn 0 l /\ Q.length<=1+10*i /\ E++(runT (qq l i) (l.drop i)).flatMap kG=(dA l).flatMap kG /\ E.length<=20*i /\ 0<=many /\ many+((runT (qq l i) (l.drop i)).length:Int)=((dA l).length:Int) /\
   Hp [] w w' [u.ro,af a 209 [.slice none 0 0,.slice none 0 0,.slice none 0 0],tB plain P,tB steps Q,tB ⟨some ⟨b3,0,none⟩,1,1⟩ [2],tB each E],
  ⟨l.length,0,[0],[1],[],rfl,by omega,rfl,rfl,by simp,rfl,by simp,rfl,by simp,by omega,by simp [dA,qq],h1⟩,?_⟩
 rintro plain steps each many last t m w2 ⟨i,P,Q,E,rfl,hi,rfl,hP,hPl,hQ,hQl,hE,hEl,QZ,qt,h1⟩;by_cases av:i < l.length
 ·refine aL (by simp;omega) ?_;have hd:l.drop i=l[i] :: l.drop (i+1):=al0 av;have eL:l[((i:Int)).toNat]? =some l[i]:=by simp [av]
  have hx:=hr l[i] (alz av);have qR:qq l (i+1)=some l[i]:=by unfold qq;rw [if_neg (by omega)];simp [av]
  have Ys:i≠0->qq l i=some (l.getD (i - 1) 0) /\ l[i - 1]? =some (l.getD (i - 1) 0):=fun h0=>by
   have Bw:i - 1 < l.length:=by omega
   unfold qq;rw [if_neg h0];simp [Bw]
  rw [hd] at hP hQ hE qt;rw [mn] at hQ;rw [pQ] at hE qt;generalize KY:l[i]=x at hd eL hx qR hP hQ hE qt;refine h1.fH (k:=.i .i64) (u:=u.ro) (y:=x) (x:=x) 0 rfl AL (by omega) eL aB rfl ?_;refine jR h1 2 rfl Hp.bZ hx.1 hx.2 (by omega) fun tD w3 h1=>?_;refine h1.fH (k:=.i .i64) (u:=u.ro) (y:=x) (x:=x) 0 rfl AL (by omega) eL aB rfl ?_;refine jR h1 3 rfl Hp.bZ (wP _) (wQ _) (by omega) fun tG w3 h1=>?_;refine h1.fH (k:=.i .i64) (u:=u.ro) (y:=x) (x:=x) 0 rfl AL (by omega) eL aB rfl ?_;simp only [alI,alO] at h1;have h1:=h1.XH 0 1 6 7 4 5 (by decide) rfl rfl rfl rfl rfl rfl;have Wi:=bx (gL x);have air:=bx (gL (i64.wrap (x - last)));have hP':(P++bu (gL x))++bV (l.drop (i+1))=0 :: bV l:=by rw [<-hP];simp [bV]
  have hQ':(Q++bu (gL (i64.wrap (x - last))))++mn x (l.drop (i+1))=1 :: mn 0 l:=by rw [<-hQ];simp
  have ewi:i64.wrap ((i:Int)+1)=((i+1:Nat):Int):=by rw [aI (by omega) (by omega)];omega
  refine⟨fun t51 w'=>t51= !(decide (qq l i=some x)) /\ Hp [] w w' [u.ro,af a 209 [.slice none 0 0,.slice none 0 0,.slice none 0 0],tB tD (P++bu (gL x)),tB tG (Q++bu (gL (i64.wrap (x - last)))),tB ⟨some ⟨b3,0,none⟩,1,1⟩ [2],tB each E],?_,?_⟩
  ·refine h1.dr fun w4 h1=>?_;by_cases GA:i=0
   ·subst GA;refine aL (by simp) ⟨?_,h1⟩;simp [qq]
   ·refine aJ (by simp;omega) ?_;obtain⟨e1,e2⟩:=Ys GA;have ew:i64.wrap ((i:Int) - 1)=((i - 1:Nat):Int):=by rw [aI (by omega) (by omega)];omega
    rw [ew];refine h1.fH (k:=.i .i64) (u:=u.ro) (y:=l.getD (i - 1) 0) (x:=l.getD (i - 1) 0) 0 rfl AL (by omega) (by rw [ak7];exact e2) aB rfl ?_;refine h1.fH (k:=.i .i64) (u:=u.ro) (y:=x) (x:=x) 0 rfl AL (by omega) eL aB rfl ?_;refine⟨?_,h1⟩;rw [e1];by_cases hy:l.getD (i - 1) 0=x
    ·rw [hy];simp
    ·have: ¬(some (l.getD (i - 1) 0)=some x):=fun h=>hy (by injection h);rw [decide_eq_false this]
     simpa using hy
  ·rintro t51 w4 ⟨rfl,h1⟩;by_cases hp:qq l i=some x
   ·rw [if_pos hp] at hE qt;refine aJ (by simp [hp]) ?_;refine⟨l.length - (i+1),by omega,i+1,_,_,E,ewi,by omega,rfl,hP',by simp only [alb];omega,hQ',by simp only [alb];omega,?_,by omega,QZ,?_,h1⟩
    ·rw [qR];exact hE
    ·rw [qR];exact qt
   ·rw [if_neg hp] at hE qt;refine aL (by simp [hp]) ?_;have vy:=EH x (l.drop (i+1));rw [alT] at vy;refine⟨fun n w'=>n=((lG x (l.drop (i+1))+1:Nat):Int) /\ Hp [] w w' [u.ro,af a 209 [.slice none 0 0,.slice none 0 0,.slice none 0 0],tB tD (P++bu (gL x)),tB tG (Q++bu (gL (i64.wrap (x - last)))),tB ⟨some ⟨b3,0,none⟩,1,1⟩ [2],tB each E],?_,?_⟩
    ·refine⟨fun n m w'=> ∃q:Nat,n=q /\ 1<=q /\ i+q<=l.length /\ lG x (l.drop (i+1))+1=q+lG x (l.drop (i+q)) /\ m=l.length - (i+q) /\ Hp [] w w' [u.ro,af a 209 [.slice none 0 0,.slice none 0 0,.slice none 0 0],tB tD (P++bu (gL x)),tB tG (Q++bu (gL (i64.wrap (x - last)))),tB ⟨some ⟨b3,0,none⟩,1,1⟩ [2],tB each E],⟨l.length - (i+1),1,rfl,by omega,by omega,by omega,rfl,h1⟩,?_⟩;rintro n m w5 ⟨q,rfl,q1,q2,hq,rfl,h1⟩;refine h1.dr fun w6 h1=>?_;have ewq:i64.wrap ((i:Int)+(q:Int))=((i+q:Nat):Int):=by rw [aI (by omega) (by omega)];omega
     rw [ewq];by_cases hlq:i+q < l.length
     ·refine aL (by simp;omega) ?_;have hd2:l.drop (i+q)=l[i+q] :: l.drop (i+q+1):=al0 hlq;refine h1.fH (k:=.i .i64) (u:=u.ro) (y:=l[i+q]) (x:=l[i+q]) 0 rfl AL (by omega) (by rw [ak7];simp [hlq]) aB rfl ?_;refine h1.fH (k:=.i .i64) (u:=u.ro) (y:=x) (x:=x) 0 rfl AL (by omega) eL aB rfl ?_;rw [hd2,lG] at hq;by_cases hy:l[i+q]=x
      ·refine aL (by simpa using hy) ?_;rw [if_pos hy] at hq;exact⟨l.length - (i+(q+1)),by omega,q+1,by rw [aI (by omega) (by omega)];omega,by omega,by omega,by rw [show i+(q+1)=i+q+1 by omega];omega,rfl,h1⟩
      ·refine aJ (by simpa using hy) ⟨?_,h1⟩;rw [if_neg hy] at hq;omega
     ·refine aJ (by simp;omega) ⟨?_,h1⟩;have e0:lG x (l.drop (i+q))=0:=by rw [amb (by omega),lG]
      omega
    ·rintro n w5 ⟨rfl,h1⟩;have ewn:u64.wrap ((lG x (l.drop (i+1))+1:Nat):Int)=((lG x (l.drop (i+1))+1:Nat):Int):=by rw [rh];omega
     rw [ewn];generalize hcn:lG x (l.drop (i+1))+1=n at*;refine mj h1 5 rfl Hp.bZ (by omega) (by omega) (by omega) fun QA w6 h1=>?_;have lL:=bx (n:Int);refine h1.fH (k:=.i .i64) (u:=u.ro) (y:=x) (x:=x) 0 rfl AL (by omega) eL aB rfl ?_;refine jR h1 6 rfl Hp.bZ hx.1 hx.2 (by simp only [alb];omega) fun QB w6 h1=>?_;simp only [alI,alO] at h1;have h1:=h1.XH 0 1 2 3 4 7 (by decide) rfl rfl rfl rfl rfl rfl;simp only [alQ] at qt;have eT:=pP l;refine⟨l.length - (i+1),by omega,i+1,_,_,_,ewi,by omega,rfl,hP',by simp only [alb];omega,hQ',by simp only [alb];omega,?_,by simp only [alb];omega,by rw [aI (by omega) (by omega)];omega,?_,h1⟩
     ·rw [qR,<-hE];simp [kG]
     ·rw [qR,aI (by omega) (by omega)];omega
 ·refine aJ (by simp;omega) ?_;obtain rfl:i=l.length:=by omega
  rw [ana] at hP hQ hE qt;have hP:P=0 :: cw 0 l:=by
   have e0:cw 0 l=bV l:=rfl;rw [e0]
   simpa [bV] using hP
  have hQ:Q=1 :: cw 1 l:=by
   rw [mn,alh] at hQ;exact hQ
  have hE:E=(dA l).flatMap kG:=by simpa [runT] using hE
  have qt:many=((dA l).length:Int):=by simpa [runT] using qt
  have eT:=pP l;have hRl:=Hv (dA l);have ewm:u64.wrap many=((dA l).length:Int):=by rw [rh];omega
  rw [ewm];refine mj h1 4 rfl Hp.bZ (by omega) (by omega) (by simp) fun r w3 h1=>?_;have si:=bx (dA l).length;have EK:=h1.len (s:=r) 6 rfl;have Il:=h1.len (s:=each) 5 rfl;simp only [alb,alQ,amF] at EK;refine h1.gq 6 5 (s:=r) rfl rfl Hp.bZ cE eM q1 q3 q2 rfl (by simp [Value.oneCell']) (by rw [q4];omega) (by omega) fun runs w3 h1 _ _=>?_;simp only [alI,alO,alq,alG] at h1;refine h1.gz 1 rfl (by simp) rfl fun w3 h1=>?_;refine h1.st 1 rfl (by simp) rfl fun w3 h1=>?_;refine h1.st 1 rfl (by simp) rfl fun w3 h1=>?_;simp only [alI,alO,alq,alG] at h1;refine h1.bE (k:=.sl) (x:=plain) 1 rfl rfl ?_;refine h1.ld (k:=.sl) (x:=steps) 1 rfl rfl ?_;refine h1.ld (k:=.sl) (x:=runs) 1 rfl rfl ?_;have e:2 :: (bu ((dA l).length:Int)++E)=2 :: cw 2 l:=by rw [hE];rfl
  rw [hP,hQ,e] at h1;exact hK plain steps runs w3 (h.r0 (rest:= [_,_,_]) rfl (h1.XG 2 3 6 (by decide) rfl rfl rfl))
theorem yT (h:Hp S w0 w ae) (j:Nat) {u:aa} {v:Sl} {l:List Int} (hj:(ae[j]?).map aa.holds=some u.holds) (hu:Hp.Reads u v 1 iv l) (hr:eW l) (hl:l.length<=1000000000000) {K:Sl->World->Prop}
  (hK: ∀s w',Hp S w0 w' (ae++ [tB s (lx l)])->K s w'):Sy v w K:=by
 refine OI ?_;unfold f157;have h1:=h.My hj;refine EJ h1 0 (u:=u.ro) rfl ⟨hu.rd⟩ hr hl fun p s r w1 h1=>?_;refine h1.nw (c:= [_,_,_]) fun f w1 h1=>?_;refine h1.gz 4 rfl (by simp) rfl fun w1 h1=>?_;refine h1.st 4 rfl (by simp) rfl fun w1 h1=>?_;refine h1.st 4 rfl (by simp) rfl fun w1 h1=>?_;simp only [alI,alO,alq,alG] at h1;refine h1.ixa (by omega) (by omega) ?_;refine h1.JY (k:=.sl) (x:=p) 4 rfl rfl ?_;generalize U7: [u.ro,tB p (0 :: cw 0 l),tB s (1 :: cw 1 l),tB r (2 :: cw 2 l),af f 209 [.slice p.a p.len p.cap,.slice s.a s.len s.cap,.slice r.a r.len r.cap]]=It at h1;refine⟨fun kp t m w'=> ∃k q:Nat,t=k /\ 1<=k /\ k<=3 /\ m=3 - k /\ It[q]? =some (tB kp (bk l k)) /\ Hp [] w w' It,⟨2,1,1,rfl,by omega,by omega,rfl,by rw [<-U7];rfl,h1⟩,?_⟩;rintro kp t m w2 ⟨k,q,rfl,k1,k3,rfl,hq,h1⟩;have fin: ∀{x:Sl},It[k+1]? =some (tB x ((k:Int) :: cw k l))->k < 3-> ∀{K2:World->Prop} {K3:World->Prop},
   (∀q':Nat,It[q']? =some (tB x (bk l (k+1)))->K2 w2)->((∀q':Nat,It[q']? =some (tB kp (bk l (k+1)))->K3 w2))->if (decide ((x.len:Int) < (kp.len:Int)))=true then K2 w2 else K3 w2:=by
  intro x hx hk K2 K3 h2 h3;have l1:=h1.len (s:=kp) q (by rw [hq];rfl);have l2:=h1.len (s:=x) (k+1) (by rw [hx];rfl);have hs:=Gc l k1 hk;by_cases U6:((k:Int) :: cw k l).length < (bk l k).length
  ·refine aL (by simp only [decide_eq_true_eq];omega) (h2 (k+1) ?_);have e:bk l (k+1)=(k:Int) :: cw k l:=by rw [hs];unfold eI;rw [if_pos U6]
   rw [e];exact hx
  ·refine aJ (by simp only [decide_eq_true_eq];omega) (h3 q ?_);have e:bk l (k+1)=bk l k:=by rw [hs];unfold eI;rw [if_neg U6]
   rw [e];exact hq
 by_cases av:k < 3
 ·refine aL (by simp;omega) ?_;refine h1.ixa (by omega) (by omega) ?_;have ewk:i64.wrap ((k:Int)+1)=((k+1:Nat):Int):=by rw [aI (by omega) (by omega)];omega
  rw [ewk];have hk:k=1 \/ k=2:=by omega
  rcases hk with rfl | rfl
  ·refine h1.JY (k:=.sl) (x:=s) 4 (by rw [<-U7];rfl) rfl ?_;refine fin (x:=s) (by rw [<-U7];rfl) av (K2:=fun w=>_) (K3:=fun w=>_) ?_ ?_
   ·intro q' IX;refine h1.ixa (by omega) (by omega) ?_;refine h1.JY (k:=.sl) (x:=s) 4 (by rw [<-U7];rfl) rfl ?_;exact⟨1,by omega,2,q',rfl,by omega,by omega,rfl,IX,h1⟩
   ·intro q' IX;exact⟨1,by omega,2,q',rfl,by omega,by omega,rfl,IX,h1⟩
  ·refine h1.JY (k:=.sl) (x:=r) 4 (by rw [<-U7];rfl) rfl ?_;refine fin (x:=r) (by rw [<-U7];rfl) av (K2:=fun w=>_) (K3:=fun w=>_) ?_ ?_
   ·intro q' IX;refine h1.ixa (by omega) (by omega) ?_;refine h1.JY (k:=.sl) (x:=r) 4 (by rw [<-U7];rfl) rfl ?_;exact⟨0,by omega,3,q',rfl,by omega,by omega,rfl,IX,h1⟩
   ·intro q' IX;exact⟨0,by omega,3,q',rfl,by omega,by omega,rfl,IX,h1⟩
 ·refine aJ (by simp;omega) ?_;obtain rfl:k=3:=by omega
  exact hK kp _ (h.r0 rfl (h1.rQ q hq))
theorem sj (h:Hp S w0 w ae) (j j':Nat) {u u':aa} {b v:Sl} {bs l:List Int} (hj:ae[j]? =some u) (hu:Hp.Reads u b 1 ky bs) (eA:ae[j']? =some u') (AL:Hp.Reads u' v 1 iv l) (hr:eW l) (hl:l.length<=1000000000000) (hb:bs.length<=10000000000000) {K:Sl->World->Prop}
  (hK: ∀s w',Hp S w0 w' (ae++ [tB s (bs++bQ l)])->K s w'):Ni b v w K:=by
 refine Oy ?_;unfold f145;have gJ:=h.dR j' (by rw [eA];rfl) AL;have gQ:=(ak6.1 eA).1;have ew:u64.wrap (v.len:Int)=(l.length:Int):=by rw [rh];omega
 rw [ew];refine mj h j hj hu (by omega) (by omega) (by omega) fun out w1 h=>?_;have si:=bx l.length;by_cases hz:l= []
 ·refine aL (by rw [hz] at gJ;simp at gJ ⊢;omega) ?_;have e:bQ l=bu l.length:=by unfold bQ;rw [if_pos hz,alh]
  have:=hK out w1;rw [e] at this;exact this h
 have hlp:1<=l.length:=by cases l with | nil=>exact absurd rfl hz | cons _ _=>simp
 refine aJ (by simp;omega) ?_;have e9:bQ l=bu l.length++lx l:=by unfold bQ;rw [if_neg hz]
 rw [e9,<-ale] at hK;refine yT h j' (by rw [ak9 gQ,eA];rfl) AL hr hl fun r w1 h=>?_;have yM:=tZ l;have lq:=h.len (s:=out) ae.length (by rw [ale,ak8 (alA _),alK];rfl);have eT:=h.len (s:=r) (ae.length+1) (by rw [ak8 (by simp)];simp;rfl);simp only [alb] at lq;obtain⟨inf,q1,q2,q3,q4⟩:=AJ;refine h.gq ae.length (ae.length+1) (s:=out) (by rw [ale,ak8 (alA _),alK];rfl) (by rw [ak8 (by simp)];simp;rfl) Hp.bZ cE eM q1 q3 q2 rfl (by simp [Value.oneCell']) (by rw [q4];omega) (by omega) fun s w1 h _ _=>?_;have e: ∀t t' q:aa,(ae++ [t]++ [t']).set ae.length q=ae++ [q]++ [t']:=fun t t' q=>by
  rw [ale,alj _ _ (alA _),alK];simp
 rw [e] at h;exact hK s w1 h.front
end
theorem Cv: ∀(f i:Nat) (n acc:Int) (r:List Int),i+f=9->0<=n->n < 128 ^ (f+1)->(i=0->n < 18446744073709551616)->(0 < i->0 < n)->(n*2 ^ (7*i) < 18446744073709551616)->
  k7 (fL (f+1) n++r) i acc=(acc+n*2 ^ (7*i),(i:Int)+(fL (f+1) n).length)
 | f,i,n,acc,r,Q0,h0,h1,h2,jK,h3=>by
  have u1:fL (f+1) n=if n < 128 then [n] else (n % 128+128) :: fL f (n / 128):=by rw [fL]
  rw [u1];by_cases av:n < 128
  ·rw [if_pos av];simp only [alI,alO];rw [ml,if_neg,if_neg (by omega),if_neg]
   ·have e:n % 128=n:=by omega
    rw [e];simp
   ·rintro⟨rfl,hi⟩;exact absurd (jK hi) (by omega)
   ·rintro⟨rfl,hc⟩;simp only [Nat.reduceMul,Int.reducePow] at h3;omega
  ·rw [if_neg av];simp only [alI];have hi9:i≠9:=by
    rintro rfl;simp only [Nat.reduceMul,Int.reducePow] at h3;omega
   rw [ml,if_neg (by omega),if_pos (by omega)]
   match f,Q0 with
   | 0,Q0=>omega
   | f+1,Q0=>
    have hp:(2:Int) ^ (7*(i+1))=128*2 ^ (7*i):=by
     rw [show 7*(i+1)=7+7*i by omega,Int.pow_add];rfl
    have hpp:(0:Int) < 2 ^ (7*i):=Int.pow_pos (by omega);have hn:n / 128 < 128 ^ (f+1):=by
     rw [Int.pow_succ] at h1;generalize (128:Int) ^ (f+1)=p at h1 ⊢;omega
    have hdm:n=128*(n / 128)+n % 128:=by omega
    have hle:n / 128*(128*2 ^ (7*i))<=n*2 ^ (7*i):=by
     rw [<-Int.mul_assoc];exact Int.mul_le_mul_of_nonneg_right (by omega) (by omega)
    have ih:=Cv f (i+1) (n / 128) (acc+(n % 128+128) % 128*2 ^ (7*i)) r (by omega) (by omega) hn (by omega) (by omega) (by rw [hp];omega);rw [ih];have e1:(n % 128+128) % 128=n % 128:=by omega
    rw [e1,hp];refine amz ?_ ?_
    ·show acc+n % 128*2 ^ (7*i)+n / 128*(128*2 ^ (7*i))=acc+n*2 ^ (7*i);have:n*2 ^ (7*i)=n / 128*(128*2 ^ (7*i))+n % 128*2 ^ (7*i):=by
      rw [<-Int.mul_assoc,<-Int.add_mul];congr 1;omega
     omega
    ·show ((i+1:Nat):Int)+_=_;simp only [alQ];omega
theorem jv {n:Int} (h0:0<=n) (h1:n < 18446744073709551616) (r:List Int):bH (bu n++r)=(n,((bu n).length:Int)):=by
 unfold bH bu;have:=Cv 9 0 n 0 r rfl h0 (by simp only [Int.reducePow,Nat.reduceAdd];omega) (fun _=>h1) (by omega) (by simpa using h1);rw [this];simp
theorem zH: ∀(f i:Nat) (l:List Int) (acc:Int),i+f=9->Bytes l->(k7 l i acc).2≠0-> ∃n:Int,0<=n /\ n < 128 ^ (f+1) /\ (0 < i->0 < n) /\ (k7 l i acc).1=acc+n*2 ^ (7*i) /\ ∃r,l=fL (f+1) n++r /\ (k7 l i acc).2=i+(fL (f+1) n).length
 | f,i,[],acc,Q0,hb,hk=>by rw [k7] at hk;exact absurd rfl hk
 | f,i,c :: r,acc,Q0,hb,hk=>by
  have hc:=hb c (by simp);rw [ml] at hk ⊢;by_cases h9:i=9 /\ 1 < c
  ·rw [if_pos h9] at hk;exact absurd rfl hk
  rw [if_neg h9] at hk ⊢;by_cases lK:128<=c
  ·rw [if_pos lK] at hk ⊢
   match f,Q0 with
   | 0,Q0=>exact absurd ⟨by omega,by omega⟩ h9
   | f+1,Q0=>
    obtain⟨n,n0,n1,n2,n3,r',n4,n5⟩:=zH f (i+1) r (acc+c % 128*2 ^ (7*i)) (by omega) (fun x hx=>hb x (by simp [hx])) hk;have jK:=n2 (by omega);have hp:(2:Int) ^ (7*(i+1))=128*2 ^ (7*i):=by
     rw [show 7*(i+1)=7+7*i by omega,Int.pow_add];rfl
    have u1:fL (f+1+1) (128*n+c % 128)=(c % 128+128) :: fL (f+1) n:=by
     have:fL (f+1+1) (128*n+c % 128)=if 128*n+c % 128 < 128 then [128*n+c % 128] else ((128*n+c % 128) % 128+128) :: fL (f+1) ((128*n+c % 128) / 128):=by rw [fL]
     rw [this,if_neg (by omega)];have e1:(128*n+c % 128) % 128=c % 128:=by omega
     have e2:(128*n+c % 128) / 128=n:=by omega
     rw [e1,e2]
    refine⟨128*n+c % 128,by omega,?_,by omega,?_,r',?_,?_⟩
    ·rw [Int.pow_succ];generalize (128:Int) ^ (f+1)=p at n1 ⊢;omega
    ·rw [n3,hp,Int.add_mul,Int.mul_comm 128 n,Int.mul_assoc];omega
    ·rw [u1,n4];have:c % 128+128=c:=by omega
     rw [this];rfl
    ·rw [n5,u1];simp only [alQ];omega
  ·rw [if_neg lK] at hk ⊢;by_cases hz:c=0 /\ 0 < i
   ·rw [if_pos hz] at hk;exact absurd rfl hk
   rw [if_neg hz];have u1:fL (f+1) c= [c]:=by rw [fL,if_pos (by omega)]
   refine⟨c,hc.1,?_,by intro h;omega,?_,r,?_,?_⟩
   ·rw [Int.pow_succ];have:(0:Int) < 128 ^ f:=Int.pow_pos (by omega);generalize (128:Int) ^ f=p at this;omega
   ·have e:c % 128=c:=by omega
    rw [e]
   ·rw [u1];rfl
   ·rw [u1];rfl
theorem Hy {l:List Int} (hb:Bytes l) (hk:(bH l).2≠0):bu (bH l).1=l.take (bH l).2.toNat:=by
 obtain⟨n,n0,n1,n2,n3,r,n4,n5⟩:=zH 9 0 l 0 rfl hb hk;have e1:(bH l).1=n:=by show (k7 l 0 0).1=n;rw [n3];simp
 have e2:(bH l).2=(bu n).length:=by show (k7 l 0 0).2=_;rw [n5];simp [bu]
 rw [e1,e2,ak7]
 conv=>rhs;rw [n4]
 show bu n=List.take (bu n).length (bu n++r);simp
theorem kH {x:Int} (h1: -9223372036854775808<=x) (h2:x<=9223372036854775807) (r:List Int):bH (bu (gL x)++r)=(gL x,((bu (gL x)).length:Int)):=by
 have:=jX h1 h2;exact jv this.1 this.2 r
def expand (D:List (Int×Int)):List Int:=D.flatMap fun x=>List.replicate x.1.toNat x.2
theorem oR: ∀(r:List Int) (y:Int),List.replicate (lG y r) y++expand (runT (some y) r)=r
 | [],y=>by simp [lG,runT,expand]
 | x :: r,y=>by
  by_cases h:x=y
  ·subst h;rw [pQ,if_pos rfl,lG,if_pos rfl,amD,alI,oR r x]
  ·rw [pQ,if_neg (by simpa using Ne.symm h),lG,if_neg h];have:=oR r x;unfold expand at this ⊢;rw [alX];simp only [ak7,amD,List.replicate_zero,alO,alI];rw [this]
theorem sm (l:List Int):expand (dA l)=l:=by
 cases l with
 | nil=>rfl
 | cons x r=>
  unfold dA;rw [pQ,if_neg (by simp)];have:=oR r x;unfold expand at this ⊢;rw [alX];simp only [ak7,amD,alI];rw [this]
abbrev Iq (s:Sl) (bad:Bool):List Value:= [.slice s.a s.len s.cap,.bool bad]
section
variable {S:List Nat} {w0 w:World} {ae:List aa}
theorem jw {u:aa} {br:Nat} {s:Sl} {bad:Bool} {cur:List Int} {R:List aa} (h:Hp S w0 w (u :: af br 198 (Iq s bad) :: R)) (hu:Hp.Reads u s 1 ky cur) (hb:Bytes cur) (hl:cur.length<=9000000000000000) (eN:s.len<=s.cap) {K:Int->World->Prop}
  (hK: ∀s' w',Hp.Reads u s' 1 ky (cur.drop (bH cur).2.toNat)->s'.len<=s'.cap->Hp S w0 w' (u :: af br 198 (Iq s' (cond bad true ((bH cur).2 ==0))) :: R)->K (bH cur).1 w'):DP (some ⟨br,0,none⟩) w K:=by
 refine OF ?_;unfold f153;obtain⟨r0,r1,r2,r3,r4,r5⟩:=dJ hb;have fB:=h.dR 0 rfl hu;refine aS ?_;refine h.bE (k:=.sl) (x:=s) 1 rfl rfl ?_;refine xI h 0 (u:=u) rfl hu hb hl ?_;refine aS ?_;refine h.ld (k:=.b) (x:=bad) 1 rfl rfl ?_;refine aS ?_;refine h.st 1 rfl (by simp) rfl fun w1 h=>?_;refine aS ?_;simp only [alq,alG] at h;refine h.bE (k:=.sl) (x:=s) 1 rfl rfl ?_;refine Hp.nU (s:=s) hu fB cE r2 (by omega) (by omega) (al4 _) (by omega) fun s' vq dQ Ry=>?_;refine aS ?_;refine h.gz 1 rfl (by simp) rfl fun w1 h=>?_;simp only [alq,alG] at h;have e:(cur.take ((s.len:Int)).toNat).drop (bH cur).2.toNat=cur.drop (bH cur).2.toNat:=by
  rw [aln (by omega)]
 rw [e] at vq;exact hK s' w1 vq (by omega) h
def Bb (cur iV:List Int):Prop:= ∃p,cur=p++iV
theorem Bb.refl (c:List Int):Bb c c:=⟨[],rfl⟩
theorem Bb.drop {c c':List Int} (h:Bb c c') (n:Nat):Bb c (c'.drop n):=by
 obtain⟨p,rfl⟩:=h;exact⟨p++c'.take n,by rw [ale,amg]⟩
theorem Bb.bytes {c c':List Int} (h:Bb c c') (hb:Bytes c):Bytes c':=by
 obtain⟨p,rfl⟩:=h;exact fun x hx=>hb x (by simp [hx])
theorem Bb.len {c c':List Int} (h:Bb c c'):c'.length<=c.length:=by
 obtain⟨p,rfl⟩:=h;simp
def U8 (form n:Int) (cur:List Int) (X iV:List Int) (bad:Bool):Prop:=
 ∀l rest,cur=cw form l++rest->(l.length:Int)=n->eW l->X=l /\ iV=rest /\ bad=false
theorem oS (a b:List Int) {k:Int} (h:k=(a.length:Int)):(a++b).drop k.toNat=b:=by
 subst h;rw [ak7,anz]
set_option maxHeartbeats 4000000 in
theorem Hz {u:aa} {br:Nat} {s:Sl} {cur:List Int} {form n:Int} (h:Hp S w0 w [u,af br 198 (Iq s false)]) (hu:Hp.Reads u s 1 ky cur) (hb:Bytes cur) (hl:cur.length<=9000000000000000) (eN:s.len<=s.cap)
  (hf0:0<=form) (MF:0 < n) (A7:n<=100000) {K:Sl->World->Prop}
  (hK: ∀out s' X iV bad w',Hp.Reads u s' 1 ky iV->s'.len<=s'.cap->Bb cur iV->eW X->(X.length:Int)<=n->(2 < form->bad=true)->(form=0 \/ form=1 \/ form=2->U8 form n cur X iV bad)->Hp S w0 w' [u,af br 198 (Iq s' bad),aj out 2 1 iv X]->K out w'):Sw (some ⟨br,0,none⟩) form n w K:=by
 refine OG ?_;unfold f154;obtain⟨inf,q1,q2,q3,q4⟩:=ku;have h:=h.nil 2 1 iv;simp only [alI,alO] at h;have hwn: ∀X:List Int,(X.length:Int)<=n-> ∀o:Sl,X.length=o.len->u64.wrap (o.len:Int)=(X.length:Int):=fun X hX o ho=>by rw [rh];omega
 -- the first loop
 refine⟨fun out w'=> ∃X cX s1 fh,Hp.Reads u s1 1 ky cX /\ s1.len<=s1.cap /\ Bb cur cX /\ eW X /\ (X.length:Int)<=n /\ (2<=form->fh=false /\ X= [] /\ cX=cur) /\ (form=0 \/ form=1->U8 form n cur X cX fh) /\ Hp S w0 w' [u,af br 198 (Iq s1 fh),aj out 2 1 iv X],?_,?_⟩
 ·refine⟨fun out last m w'=> ∃X cX s1 fh,Hp.Reads u s1 1 ky cX /\ s1.len<=s1.cap /\ Bb cur cX /\ eW X /\ (X.length:Int)<=n /\ (2<=form->fh=false /\ X= [] /\ cX=cur) /\ m=n.toNat - X.length /\
    (∀l rest,(form=0 \/ form=1)->cur=cw form l++rest->(l.length:Int)=n->eW l->fh=false /\ ∃k,X=l.take k /\ k<=l.length /\ cX=(if form=0 then bV (l.drop k) else mn last (l.drop k))++rest) /\
    Hp S w0 w' [u,af br 198 (Iq s1 fh),aj out 2 1 iv X],
   ⟨n.toNat,[],cur,s,false,hu,eN,Bb.refl _,(by intro x hx;cases hx),(by simp;omega),fun _=>⟨rfl,rfl,rfl⟩,by simp,?_,h⟩,?_⟩
  ·intro l rest hf hc Bc hr;refine⟨rfl,0,rfl,by omega,?_⟩;rw [hc]
   rcases hf with rfl | rfl <;> rfl
  rintro out last m w1 ⟨X,cX,s1,fh,ze,KC,sq,hX,MG,h2f,rfl,yU,h⟩;have lq:=h.len (s:=out) 2 rfl
  -- what it means to end here
  have done:(n<=X.length \/ fh=true \/ 2<=form)-> ∃X cX s1 fh,Hp.Reads u s1 1 ky cX /\ s1.len<=s1.cap /\ Bb cur cX /\ eW X /\ (X.length:Int)<=n /\ (2<=form->fh=false /\ X= [] /\ cX=cur) /\ (form=0 \/ form=1->U8 form n cur X cX fh) /\ Hp S w0 w1 [u,af br 198 (Iq s1 fh),aj out 2 1 iv X]:=by
   intro KZ;refine⟨X,cX,s1,fh,ze,KC,sq,hX,MG,h2f,?_,h⟩;intro hf l rest hc Bc hr;obtain⟨g1,k,g2,g3,g4⟩:=yU l rest hf hc Bc hr;have Wj:X.length=k:=by rw [g2,alv];omega
   have cO:k=l.length:=by
    rcases KZ with h | h | h
    ·omega
    ·rw [g1] at h;cases h
    ·omega
   subst cO;rw [amB] at g2;rw [ana] at g4;refine⟨g2,?_,g1⟩;rw [g4]
   rcases hf with rfl | rfl <;> simp [bV,mn]
  refine⟨fun w'=>w'=w1 /\ (X.length:Int) < n /\ fh=false /\ form < 2,?_,?_⟩
  ·rw [hwn X MG out lq];by_cases c1:(X.length:Int) < n
   ·refine aL (by simpa using c1) ?_;refine aS ?_;refine h.ld (k:=.b) (x:=fh) 1 rfl rfl ?_
    cases rW:fh with
    | true=>subst rW;exact aJ (by simp) (done (.inr (.inl rfl)))
    | false=>
     subst rW;refine aL (by simp) ?_;by_cases c2:form < 2
     ·exact aL (by simpa using c2) ⟨rfl,c1,rfl,c2⟩
     ·exact aJ (by simpa using c2) (done (.inr (.inr (by omega))))
   ·exact aJ (by simpa using c1) (done (.inl (by omega)))
  ·rintro w2 ⟨rfl,c1,rfl,c2⟩;have n9:=sq.bytes hb;have Bw:=sq.len;obtain⟨r0,r1,r2,r3,r4,r5⟩:=dJ n9;refine jw h ze n9 (by omega) KC fun s2 w3 zG lF h=>?_;refine qQ r0 r1 ?_;have hz:=zE r0 r1
   -- the number that is put
   have step: ∀(y zi:Int) (hy: -9223372036854775808<=y /\ y<=9223372036854775807),y=(if form=1 then i64.wrap (tU (bH cX).1+last) else tU (bH cX).1)->(form=1->zi=y)->
     ∀s3 w4,Hp S w0 w4 [u,af br 198 (Iq s2 (cond false true ((bH cX).2 ==0))),aj s3 2 1 iv (X++ [y])]->
     ∃m2:Nat,m2 < n.toNat - X.length /\ ∃X cX s1 fh,Hp.Reads u s1 1 ky cX /\ s1.len<=s1.cap /\ Bb cur cX /\ eW X /\ (X.length:Int)<=n /\ (2<=form->fh=false /\ X= [] /\ cX=cur) /\ m2=n.toNat - X.length /\
      (∀l rest,(form=0 \/ form=1)->cur=cw form l++rest->(l.length:Int)=n->eW l->fh=false /\ ∃k,X=l.take k /\ k<=l.length /\ cX=(if form=0 then bV (l.drop k) else mn zi (l.drop k))++rest) /\
      Hp S w0 w4 [u,af br 198 (Iq s1 fh),aj s3 2 1 iv X]:=by
    intro y zi hy Yt me s3 w4 h;refine⟨n.toNat - (X.length+1),by omega,X++ [y],_,s2,_,zG,lF,sq.drop _,?_,by simp;omega,by intro;omega,by simp,?_,h⟩
    ·intro z hz
     rcases alg.1 hz with hz | hz
     ·exact hX z hz
     ·simp only [ali] at hz;subst hz;exact hy
    ·intro l rest hf hc Bc hr;obtain⟨g1,k,g2,g3,g4⟩:=yU l rest hf hc Bc hr;have Wj:X.length=k:=by rw [g2,alv];omega
     have cO:k < l.length:=by omega
     have hd:l.drop k=l[k] :: l.drop (k+1):=al0 cO;have dU:l.take (k+1)=l.take k++ [l[k]]:=alp cO;have hxr:=hr l[k] (alz cO);rw [hd] at g4;generalize l[k]=x at hd dU hxr g4
     rcases hf with rfl | rfl
     ·have e:cX=bu (gL x)++(bV (l.drop (k+1))++rest):=by
       rw [g4,if_pos rfl];simp [bV]
      have hg:=kH hxr.1 hxr.2 (bV (l.drop (k+1))++rest);rw [<-e] at hg;have hp:=eV (gL x);rw [if_neg (by omega)] at Yt;rw [hg,AI] at Yt;refine⟨by rw [hg];simp;intro h0;rw [h0] at hp;simp at hp,k+1,by rw [dU,<-g2,Yt],by omega,?_⟩;rw [hg,if_pos rfl,e];exact oS _ _ rfl
     ·have e:cX=bu (gL (i64.wrap (x - last)))++(mn x (l.drop (k+1))++rest):=by
       rw [g4,if_neg (by omega),mn];simp
      have hg:=kH (wP (x - last)) (wQ (x - last)) (mn x (l.drop (k+1))++rest);rw [<-e] at hg;have hp:=eV (gL (i64.wrap (x - last)));rw [if_pos rfl,hg,AI] at Yt;have QY:y=x:=by
       rw [Yt,Hr,Hr]
       split <;> split <;> omega
      have F8:=me rfl;refine⟨by rw [hg];simp;intro h0;rw [h0] at hp;simp at hp,k+1,by rw [dU,<-g2,QY],by omega,?_⟩;rw [hg,if_neg (by omega),F8,QY,e];exact oS _ _ rfl
   by_cases c3:form=1
   ·refine aL (by simpa using c3) ?_;refine h.cj (c:= [_]) 2 (i64.wrap (tU (bH cX).1+last)) rfl aB KU q1 q3 q2 rfl rfl (by simp [Value.oneCell']) (by rw [q4];omega) (by omega) fun s3 w4 h _ _=>?_;exact step _ _ ⟨wP _,wQ _⟩ (by rw [if_pos c3]) (fun _=>rfl) s3 w4 h
   ·refine aJ (by simpa using c3) ?_;refine h.cj (c:= [_]) 2 (tU (bH cX).1) rfl aB KU q1 q3 q2 rfl rfl (by simp [Value.oneCell']) (by rw [q4];omega) (by omega) fun s3 w4 h _ _=>?_;exact step _ _ hz (by rw [if_neg c3]) (fun hf=>absurd hf c3) s3 w4 h
 ·rintro out w1 ⟨X,cX,s1,fh,ze,KC,sq,hX,MG,h2f,yU,h⟩;by_cases pL:form=2
  ·subst pL;obtain⟨rfl,rfl,hcc⟩:=h2f (by omega);have hcc:=hcc.symm;subst hcc;refine aJ (by simp) ?_;obtain⟨r0,r1,r2,r3,r4,r5⟩:=dJ hb;refine jw h ze hb hl KC fun s2 w2 zG lF h=>?_;refine⟨fun tC k2 m w'=> ∃X cX s1 fh,Hp.Reads u s1 1 ky cX /\ s1.len<=s1.cap /\ Bb cur cX /\ eW X /\ (X.length:Int)<=n /\ 0<=k2 /\ k2 < 18446744073709551616 /\ m=2*cX.length+(if fh=true then 0 else 1) /\
     (∀l rest,cur=cw 2 l++rest->(l.length:Int)=n->eW l->fh=false /\ ∃D T,dA l=D++T /\ X=expand D /\ cX=T.flatMap kG++rest /\ k2=T.length) /\
     Hp S w0 w' [u,af br 198 (Iq s1 fh),aj tC 2 1 iv X],
    ⟨_,[],_,s2,_,zG,lF,(Bb.refl _).drop _,(by intro x hx;cases hx),(by simp;omega),r0,r1,rfl,?_,h⟩,?_⟩
   ·intro l rest hc Bc hr;have eT:=pP l;have e:cur=bu ((dA l).length:Int)++((dA l).flatMap kG++rest):=by
     rw [hc];show Hu l++rest=_;simp [Hu]
    have hg:=jv (n:=((dA l).length:Int)) (by omega) (by omega) ((dA l).flatMap kG++rest);rw [<-e] at hg;have hp:=eV ((dA l).length:Int);refine⟨by rw [hg];simp;intro h0;rw [h0] at hp;simp at hp,[],dA l,rfl,rfl,?_,by rw [hg]⟩;rw [hg,e];exact oS _ _ rfl
   clear r0 r1 r2 r3 r4 r5 zG lF h ze KC sq hX MG yU h2f;rintro tC k2 m w3 ⟨X,cX,s1,fh,ze,KC,sq,hX,MG,k0,k1,rfl,yU,h⟩;have lq:=h.len (s:=tC) 2 rfl;have done:(k2=0 \/ fh=true)->K tC w3:=by
    intro KZ;refine hK tC s1 X cX fh w3 ze KC sq hX MG (by omega) ?_ h;intro _ l rest hc Bc hr;obtain⟨g1,D,T,g2,g3,g4,g5⟩:=yU l rest hc Bc hr;have hT:T= []:=by
     rcases KZ with h | h
     ·exact alL (by omega)
     ·rw [g1] at h;cases h
    subst hT;rw [alh] at g2;refine⟨by rw [g3,<-g2,sm],by rw [g4];rfl,g1⟩
   refine⟨fun w'=>w'=w3 /\ 0 < k2 /\ fh=false,?_,?_⟩
   ·by_cases c1:k2 > 0
    ·refine aL (by simpa using c1) ?_;refine aS ?_;refine h.ld (k:=.b) (x:=fh) 1 rfl rfl ?_
     cases rW:fh with
     | true=>subst rW;exact aJ (by simp) (done (.inr rfl))
     | false=>subst rW;exact aL (by simp) ⟨rfl,c1,rfl⟩
    ·exact aJ (by simpa using c1) (done (.inl (by omega)))
   ·rintro w4 ⟨rfl,c1,rfl⟩;have n9:=sq.bytes hb;have Bw:=sq.len;obtain⟨a0,a1,a2,a3,a4,a5⟩:=dJ n9;refine jw h ze n9 (by omega) KC fun s2 w5 zG lF h=>?_;have K4:=sq.drop (bH cX).2.toNat;have gO:=K4.bytes hb;have F8:=K4.len;have K5:(cX.drop (bH cX).2.toNat).length=cX.length - (bH cX).2.toNat:=alT;generalize Yu:cX.drop (bH cX).2.toNat=fa at*;obtain⟨b0,b1,b2,b3,b4,b5⟩:=dJ gO;refine jw h zG gO (by omega) lF fun s3 w6 hr3 hc3 h=>?_;refine qQ b0 b1 ?_;have hz:=zE b0 b1;have Yv:=K4.drop (bH fa).2.toNat;have af6:(fa.drop (bH fa).2.toNat).length=fa.length - (bH fa).2.toNat:=alT;refine aS ?_;refine h.ld (k:=.b) 1 rfl rfl ?_;refine aS ?_;refine h.st 1 rfl (by simp) rfl fun w6 h=>?_;simp only [alq,alG] at h;have ewn:u64.wrap (n - u64.wrap (tC.len:Int))=n - X.length:=by
     rw [hwn X MG tC lq,rh];omega
    rw [ewn] at h;generalize Ir:(cond (cond (cond false true ((bH cX).2 ==0)) true ((bH fa).2 ==0)) true (decide ((bH cX).1 > n - (X.length:Int))))=qS at h;have Yw:qS=false->(bH cX).2≠0 /\ (bH cX).1<=n - X.length:=by
     intro j7;rw [j7] at Ir
     cases h1:((bH cX).2 ==0) with
     | true=>rw [h1] at Ir;cases h2:((bH fa).2 ==0) <;> rw [h2] at Ir <;> simp at Ir
     | false=>
      refine⟨by simpa using h1,?_⟩;rw [h1] at Ir
      cases h2:((bH fa).2 ==0) with
      | true=>rw [h2] at Ir;simp at Ir
      | false=>rw [h2] at Ir;simpa using Ir
    -- the canonical one
    have canon: ∀l rest,cur=cw 2 l++rest->(l.length:Int)=n->eW l->qS=false /\ ∃D T,dA l=D++T /\ X++List.replicate (bH cX).1.toNat (tU (bH fa).1)=expand D /\ fa.drop (bH fa).2.toNat=T.flatMap kG++rest /\ k2 - 1=T.length:=by
     intro l rest hc Bc hr;obtain⟨g1,D,T,g2,g3,g4,g5⟩:=yU l rest hc Bc hr
     match T,g2,g4,g5 with
     | [],g2,g4,g5=>simp at g5;omega
     | (q,y) :: T,g2,g4,g5=>
      have dF:=oP none l (q,y) (by show (q,y)∈dA l;rw [g2];simp);have hyr:=hr y dF.2.2;obtain⟨m1,m2,_⟩:=dF;dsimp only at m1 m2;have e1:cX=bu q++(bu (gL y)++(T.flatMap kG++rest)):=by rw [g4];simp [kG]
      have Ip:=jv (n:=q) (by omega) (by omega) (bu (gL y)++(T.flatMap kG++rest));rw [<-e1] at Ip;have e2:fa=bu (gL y)++(T.flatMap kG++rest):=by
       rw [<-Yu,Ip,e1];exact oS _ _ rfl
      have Pl:=kH hyr.1 hyr.2 (T.flatMap kG++rest);rw [<-e2] at Pl;have yR:=eV q;have yw:=eV (gL y);have Yx:=sm l;rw [g2] at Yx;have hlen:X.length+q.toNat<=l.length:=by
       rw [<-Yx,g3];simp only [expand,alJ,alX,alb,amr];omega
      refine⟨?_,D++ [(q,y)],T,by rw [g2];simp,?_,?_,?_⟩
      ·rw [<-Ir,Ip,Pl];have n1:(((bu q).length:Int) ==0)=false:=by simp;intro h0;rw [h0] at yR;simp at yR
       have n2:(((bu (gL y)).length:Int) ==0)=false:=by simp;intro h0;rw [h0] at yw;simp at yw
       have n3: ¬(q > n - (X.length:Int)):=by omega
       dsimp only;rw [n1,n2,decide_eq_false n3];rfl
      ·rw [Ip,Pl,AI,g3];simp [expand]
      ·rw [Pl,e2];exact oS _ _ rfl
      ·simp only [alQ] at g5;omega
    refine⟨fun xj iu m w'=> ∃X',eW X' /\ (X'.length:Int)<=n /\ 0<=iu /\ iu < 18446744073709551616 /\ m=iu.toNat /\ (qS=false->(X'.length:Int)+iu<=n /\ X'++List.replicate iu.toNat (tU (bH fa).1)=X++List.replicate (bH cX).1.toNat (tU (bH fa).1)) /\
      Hp S w0 w' [u,af br 198 (Iq s3 qS),aj xj 2 1 iv X'],
     ⟨_,X,hX,MG,a0,a1,rfl,fun j7=>⟨by have:=(Yw j7).2;omega,rfl⟩,h⟩,?_⟩
    rintro xj iu m w7 ⟨X',hX',ad9,n0,n1,rfl,hgo,h⟩;have aiv:=h.len (s:=xj) 2 rfl;have next:(iu=0 \/ qS=true)-> ∃m4:Nat,m4 < 2*cX.length+(if false=true then 0 else 1) /\ ∃X cX s1 fh,Hp.Reads u s1 1 ky cX /\ s1.len<=s1.cap /\ Bb cur cX /\ eW X /\ (X.length:Int)<=n /\ 0<=u64.wrap (k2 - 1) /\ u64.wrap (k2 - 1) < 18446744073709551616 /\ m4=2*cX.length+(if fh=true then 0 else 1) /\
      (∀l rest,cur=cw 2 l++rest->(l.length:Int)=n->eW l->fh=false /\ ∃D T,dA l=D++T /\ X=expand D /\ cX=T.flatMap kG++rest /\ u64.wrap (k2 - 1)=T.length) /\
      Hp S w0 w7 [u,af br 198 (Iq s1 fh),aj xj 2 1 iv X]:=by
     intro KZ;have ewk:u64.wrap (k2 - 1)=k2 - 1:=by rw [rh];omega
     rw [ewk];refine⟨2*(fa.drop (bH fa).2.toNat).length+(if qS=true then 0 else 1),?_,X',_,s3,qS,hr3,hc3,Yv,hX',ad9,by omega,by omega,rfl,?_,h⟩
     ·cases j7:qS with
      | true=>simp;omega
      | false=>
       have:=(Yw j7).1;simp;omega
     ·intro l rest hc Bc hr;obtain⟨g1,D,T,g2,g3,g4,g5⟩:=canon l rest hc Bc hr;obtain⟨_,g6⟩:=hgo g1;have hm:iu=0:=by
       rcases KZ with h | h
       ·exact h
       ·rw [g1] at h;cases h
      rw [hm] at g6;simp only [Int.toNat_zero,List.replicate_zero,alh] at g6;exact⟨g1,D,T,g2,by rw [g6,g3],g4,g5⟩
    refine⟨fun w'=>w'=w7 /\ 0 < iu /\ qS=false,?_,?_⟩
    ·by_cases c2:iu > 0
     ·refine aL (by simpa using c2) ?_;refine aS ?_;refine h.ld (k:=.b) (x:=qS) 1 rfl rfl ?_
      cases j7:qS with
      | true=>exact aJ (by simp) (next (.inr j7))
      | false=>exact aL (by simp) ⟨rfl,c2,rfl⟩
     ·exact aJ (by simpa using c2) (next (.inl (by omega)))
    ·rintro w8 ⟨rfl,c2,j7⟩;obtain⟨g1,g2⟩:=hgo j7;refine h.cj (c:= [_]) 2 (tU (bH fa).1) rfl aB KU q1 q3 q2 rfl rfl (by simp [Value.oneCell']) (by rw [q4];omega) (by omega) fun s4 w9 h _ _=>?_;have ewm:u64.wrap (iu - 1)=iu - 1:=by rw [rh];omega
     rw [ewm];refine⟨(iu - 1).toNat,by omega,X'++ [tU (bH fa).1],?_,by simp;omega,by omega,by omega,rfl,fun _=>⟨by simp;omega,?_⟩,h⟩
     ·intro z Dk
      rcases alg.1 Dk with Dk | Dk
      ·exact hX' z Dk
      ·simp only [ali] at Dk;subst Dk;exact hz
     ·rw [<-g2,show iu.toNat=(iu - 1).toNat+1 by omega,amD];simp
  ·refine aL (by simpa using pL) ?_;refine aS ?_;refine h.ld (k:=.b) (x:=fh) 1 rfl rfl ?_;refine aS ?_;refine h.st 1 rfl (by simp) rfl fun w2 h=>?_;simp only [alq,alG] at h;refine hK out s1 X cX (cond fh true (decide (form > 2))) w2 ze KC sq hX MG ?_ ?_ h
   ·intro av;rw [decide_eq_true (show form > 2 from av)];cases fh <;> rfl
   ·intro hf l rest hc Bc hr;have Dt:form=0 \/ form=1:=by omega
    obtain⟨g1,g2,g3⟩:=yU Dt l rest hc Bc hr;have: ¬form > 2:=by omega
    exact⟨g1,g2,by rw [g3];simp [this]⟩
end
def Acc (bs:List Int) (aO:Int) (l:List Int):Prop:=0<=aO /\ (l.length:Int)<=aO /\ l.length<=100000 /\ eW l /\ ∃rest,bs=bQ l++rest
def gM (bs:List Int) (aO:Int) (X:List Int) (size:Int):Prop:=
 (size=0->X= []) /\ (size≠0->Acc bs aO X /\ size=((bQ X).length:Int)) /\ ∀l,Acc bs aO l->X=l /\ size=((bQ l).length:Int)
theorem xM (l:List Int): ∃f:Int,(f=0 \/ f=1 \/ f=2) /\ lx l=f :: cw f l:=by
 unfold lx;have hs: ∀a b:List Int,eI a b=a \/ eI a b=b:=fun a b=>by unfold eI;split <;> simp
 rcases hs (eI (0 :: cw 0 l) (1 :: cw 1 l)) (2 :: cw 2 l) with h | h
 ·rcases hs (0 :: cw 0 l) (1 :: cw 1 l) with h2 | h2
  ·exact⟨0,.inl rfl,by rw [h,h2]⟩
  ·exact⟨1,.inr (.inl rfl),by rw [h,h2]⟩
 ·exact⟨2,.inr (.inr rfl),h⟩
theorem fi {n:Int} (h:0<=n):Bytes (bu n):=zD 10 n h
theorem EL (n:Int):0<=gL n:=by unfold gL;split <;> omega
theorem pR {a b:List Int} (ha:Bytes a) (hb:Bytes b):Bytes (a++b):=fun x hx=>(alg.1 hx).elim (ha x) (hb x)
theorem nr (l:List Int):Bytes (bV l):=by
 intro x hx;obtain⟨y,_,hy⟩:=amt.1 hx;exact fi (EL y) x hy
theorem xN: ∀(last:Int) (l:List Int),Bytes (mn last l)
 | _,[]=>by intro x hx;cases hx
 | last,x :: r=>pR (fi (EL _)) (xN x r)
theorem EM (l:List Int):Bytes (Hu l):=by
 refine pR (fi (by omega)) ?_;intro x hx;obtain⟨y,hm,hy⟩:=amt.1 hx;have:=(oP none l y hm).1;exact pR (fi (by omega)) (fi (EL _)) x hy
theorem Cw (f:Int) (l:List Int):Bytes (cw f l):=by
 unfold cw
 split
 ·exact nr l
 ·split
  ·exact xN 0 l
  ·exact EM l
theorem Cx (l:List Int):Bytes (lx l):=by
 obtain⟨f,hf,e⟩:=xM l;rw [e];intro x hx
 rcases alF.1 hx with rfl | hx
 ·omega
 ·exact Cw f l x hx
theorem iW (l:List Int):Bytes (bQ l):=by
 unfold bQ;refine pR (fi (by omega)) ?_
 split
 ·intro x hx;cases hx
 ·exact Cx l
theorem Acc.head {bs:List Int} {aO:Int} {l:List Int} (h:Acc bs aO l):bH bs=((l.length:Int),((bu l.length).length:Int)) /\ ∃rest,bs=bQ l++rest /\ bs.drop (bu (l.length:Int)).length=(if l= [] then [] else lx l)++rest:=by
 obtain⟨_,_,h1,_,rest,rfl⟩:=h;have e:bQ l++rest=bu (l.length:Int)++((if l= [] then [] else lx l)++rest):=by unfold bQ;rw [ale]
 exact⟨by rw [e];exact jv (by omega) (by omega) _,rest,rfl,by rw [e,anz]⟩
theorem U9 {bs:List Int} {aO:Int} (h: ∀l,¬Acc bs aO l):gM bs aO [] 0:=
 ⟨fun _=>rfl,fun h=>(h rfl).elim,fun l hl=>absurd hl (h l)⟩
theorem K6 (l:List Int):1<=(bQ l).length:=by
 have:=eV l.length;unfold bQ;rw [alb];omega
section
variable {S:List Nat} {w0 w:World} {ae:List aa}
theorem aea {aO:Int} (h:0<=aO):u64.wrap (if 100000 < aO then 100000 else aO)=(if 100000 < aO then 100000 else aO):=by
 rw [rh];split <;> omega
set_option maxHeartbeats 2000000 in
theorem Cy (h:Hp S w0 w ae) (j:Nat) {u:aa} {b:Sl} {bs:List Int} {aO:Int} (hj:(ae[j]?).map aa.holds=some u.holds) (hu:Hp.Reads u b 1 ky bs) (hb:Bytes bs) (hl:bs.length<=9000000000000000) (eN:b.len<=b.cap) {K:Sl->Int->World->Prop}
  (hK: ∀s X size w',gM bs aO X size->Hp S w0 w' (ae++ [aj s 2 1 iv X])->K s size w'):Se b aO w K:=by
 refine N7 ?_;unfold f120;have yM:=h.dR j hj hu;have h1:=h.My hj;have AL:Hp.Reads u.ro b 1 ky bs:=⟨hu.rd⟩;obtain⟨r0,r1,r2,r3,r4,r5⟩:=dJ hb;have none_:(∀l,¬Acc bs aO l)-> ∀{w':World},Fr [] w w'->K ⟨none,0,0⟩ 0 w':=fun hn w' hf=>hK _ _ _ _ (U9 hn) ((h.cn hf).nil 2 1 iv);refine h1.nw (c:= [_,_]) fun r w1 h1=>?_;refine jw (S:= []) (w0:=w) (R:= []) h1 AL hb hl eN fun s2 w2 zG lF h1=>?_;have rW:(cond false true ((bH bs).2 ==0))=((bH bs).2 ==0):=rfl;rw [rW] at h1;refine⟨fun w'=>w'=w2 /\ (bH bs).2≠0 /\ 0<=aO /\ (bH bs).1<=(if 100000 < aO then 100000 else aO),?_,?_⟩
 ·refine h1.ld (k:=.b) (x:=((bH bs).2 ==0)) 1 rfl rfl ?_;by_cases hz:(bH bs).2=0
  ·refine aL (by simpa using hz) (none_ ?_ h1.fr);intro l dQ;have:=dQ.head.1;rw [this] at hz;have:=eV l.length;dsimp only at hz;omega
  refine aJ (by simpa using hz) ?_;by_cases hm:aO < 0
  ·refine aL (by simpa using hm) (none_ ?_ h1.fr);intro l dQ;have:=dQ.1;omega
  refine aJ (by simpa using hm) ?_;rw [aea (by omega)];by_cases hn:(bH bs).1 >(if 100000 < aO then 100000 else aO)
  ·refine aL (by simpa using hn) (none_ ?_ h1.fr);intro l dQ;have h2:=dQ.head.1;rw [h2] at hn;obtain⟨_,a1,a2,_⟩:=dQ;dsimp only at hn
   split at hn <;> omega
  ·exact aJ (by simpa using hn) ⟨rfl,hz,by omega,by omega⟩
 rintro w3 ⟨rfl,hz,hm,hn⟩;have WV:(bH bs).1<=aO /\ (bH bs).1<=100000:=by split at hn <;> omega
 have Cz:=Hy hb hz;by_cases MF:(bH bs).1=0
 ·refine aL (by simpa using MF) ?_;rw [MF] at Cz;have e0:bu 0= [0]:=by decide
  rw [e0] at Cz;refine hK _ [] 1 _ ⟨fun h=>by omega,fun _=>⟨⟨hm,by simpa using hm,by simp,(by intro x hx;cases hx),bs.drop (bH bs).2.toNat,?_⟩,?_⟩,?_⟩ ((h.cn h1.fr).nil 2 1 iv)
  ·have e1:bQ []= [0]:=by decide
   rw [e1,Cz,amg]
  ·decide
  ·intro l dQ;have h2:=dQ.head.1;rw [h2] at MF;have:l= []:=alL (by dsimp only at MF;omega);subst this;exact⟨rfl,by decide⟩
 refine aJ (by simpa using MF) ?_;have K5:(bs.drop (bH bs).2.toNat).length=bs.length - (bH bs).2.toNat:=alT;have PD:=h1.dR 0 rfl zG
 -- whoever is accepted stands behind the head
 have Va: ∀l,Acc bs aO l->(l.length:Int)=(bH bs).1 /\ l≠ [] /\ ∃rest,bs=bQ l++rest /\ bs.drop (bH bs).2.toNat=lx l++rest:=by
  intro l dQ;obtain⟨g1,rest,g2,g3⟩:=dQ.head;have sK:l≠ []:=by
   rintro rfl;rw [g1] at MF;exact MF rfl
  rw [if_neg sK] at g3;refine⟨by rw [g1],sK,rest,g2,?_⟩;rw [g1];exact g3
 refine h1.bE (k:=.sl) (x:=s2) 1 rfl rfl ?_;by_cases he:s2.len=0
 ·refine aL (by simpa using he) (none_ ?_ h1.fr);intro l dQ;obtain⟨_,_,rest,_,g⟩:=Va l dQ;have hp:=Hw l;have:=congrArg List.length g;simp only [alb] at this;omega
 refine aJ (by simpa using he) ?_;refine h1.bE (k:=.sl) (x:=s2) 1 rfl rfl ?_;obtain⟨form,cur,HA⟩: ∃form cur,bs.drop (bH bs).2.toNat=form :: cur:=by
  cases hc:bs.drop (bH bs).2.toNat with
  | nil=>rw [hc] at PD;simp at PD;omega
  | cons x y=>exact⟨x,y,rfl⟩
 rw [HA] at zG PD;simp only [alQ] at PD;have F4:Bytes (form :: cur):=by rw [<-HA];exact EG hb _
 have hf:=F4 form (by simp);refine h1.fH (k:=.i .u8) (u:=u.ro) (y:=form) (x:=form) 0 rfl zG (by omega) rfl cE rfl ?_;refine h1.bE (k:=.sl) (x:=s2) 1 rfl rfl ?_;refine Hp.nU (s:=s2) zG (by simp;omega) cE (by omega) (by omega) (by omega) (al4 _) (by omega) fun s3 US Yi hc3=>?_;have e3:(((form :: cur).take ((s2.len:Int)).toNat).drop (1:Int).toNat)=cur:=by
  rw [aln (by simp;omega)];rfl
 rw [e3] at US;refine h1.gz 1 rfl (by simp) rfl fun w4 h1=>?_;simp only [alq,alG] at h1;have Dk:((bH bs).2 ==0)=false:=by simpa using hz
 rw [Dk] at h1;have vy:cur.length<=bs.length:=by
  have:=congrArg List.length HA;simp only [alQ] at this;omega
 refine Hz h1 US (fun x hx=>F4 x (by simp [hx])) (by omega) (by omega) hf.1 (by omega) (by omega) fun out s' X iV qS w5 WZ Ry sq hX MG Ba yU h1=>?_;refine h1.bE (k:=.sl) (x:=s') 1 rfl rfl ?_;refine h1.dr fun w6 h1=>?_;refine h1.ld (k:=.b) (x:=qS) 1 rfl rfl ?_;have lq:=h1.len (s:=out) 2 rfl;have aiw:=h1.dR 0 rfl WZ
 -- what a canonical text was read as
 have PE: ∀l,Acc bs aO l->X=l /\ qS=false /\ bs=bQ l++iV:=by
  intro l dQ;obtain⟨g0,g1,rest,g2,g3⟩:=Va l dQ;obtain⟨f,Dt,hfe⟩:=xM l;rw [HA,hfe] at g3;injection g3 with g4 g5;subst g4;obtain⟨e1,e2,e3⟩:=yU Dt l rest g5 g0 dQ.2.2.2.1;exact⟨e1,e3,by rw [g2,e2]⟩
 cases j7:qS with
 | true=>
  refine aL rfl (none_ ?_ h1.fr);intro l dQ;obtain⟨_,g,_⟩:=PE l dQ;rw [j7] at g;cases g
 | false=>
 refine aJ (by simp) ?_;have ewo:u64.wrap (out.len:Int)=(X.length:Int):=by rw [rh];omega
 rw [ewo];by_cases Wj:(X.length:Int)=(bH bs).1
 ·refine aJ (by simpa using Wj) ?_;obtain⟨p,hp⟩:=sq;have Yy:=congrArg List.length HA;simp only [alQ] at Yy;have aiz:cur.length=p.length+iV.length:=by rw [hp];simp
  have ews:i64.wrap ((b.len:Int) - (s'.len:Int))=(bs.length:Int) - iV.length:=by rw [aI (by omega) (by omega)];omega
  rw [ews];refine Hp.nU (s:=b) AL (by omega) cE (by omega) (by omega) (by omega) (al4 _) (by omega) fun s4 Hd _ _=>?_;have EN:(bs.take ((bs.length:Int) - iV.length).toNat).drop (0:Int).toNat=bs.take (bs.length - iV.length):=by
   rw [show ((bs.length:Int) - iV.length).toNat=bs.length - iV.length by omega];rfl
  rw [EN] at Hd;have Vb:bs=bs.take (bs.length - iV.length)++iV:=by
   have e1:bs=bs.take (bH bs).2.toNat++(form :: (p++iV)):=by rw [<-hp,<-HA,amg]
   have e2:bs.drop (bs.length - iV.length)=iV:=by
    conv=>lhs;rw [e1]
    rw [show bs.take (bH bs).2.toNat++(form :: (p++iV))=(bs.take (bH bs).2.toNat++(form :: p))++iV by simp];rw [alb,Nat.add_sub_cancel,anz]
   conv=>lhs;rw [<-amg (bs.length - iV.length) bs]
   rw [e2]
  have Di:Bytes (bs.take (bs.length - iV.length)):=EF hb _;refine h1.MC 0 (u:=u.ro) rfl Hd _ (jP Di) ?_;refine Cu h1 2 rfl Hp.bZ hX (by omega) fun r2 w7 h1=>⟨h1.bat 0 (u:=u.ro) rfl Hd _ (jP Di),?_⟩;have hrb:=iW X;refine h1.MC 3 rfl Hp.bZ _ (jP hrb) ?_;rw [FY,jP hrb,jP Di];by_cases heq:bQ X=bs.take (bs.length - iV.length)
  ·refine aJ (by simpa using heq) ?_;have hlen:((bs.length:Int) - iV.length)=((bQ X).length:Int):=by
    rw [heq,alv];omega
   rw [hlen];have jK:=K6 X;refine hK out X _ w7 ⟨fun h=>by omega,fun _=>⟨⟨hm,by omega,by omega,hX,iV,by rw [heq];exact Vb⟩,rfl⟩,?_⟩ (h.r0 rfl (h1.rQ 2 rfl));intro l dQ;obtain⟨g,_,_⟩:=PE l dQ;rw [g];exact⟨rfl,rfl⟩
  ·refine aL (by simpa using heq) (none_ ?_ h1.fr);intro l dQ;obtain⟨g,_,g2⟩:=PE l dQ;apply heq;rw [g]
   conv=>rhs;rw [g2]
   simp
 ·refine aL (by simpa using Wj) (none_ ?_ h1.fr);intro l dQ;obtain⟨g,_,_⟩:=PE l dQ;have:=(Va l dQ).1;rw [g] at Wj;exact Wj this
end
end Go.Proofs.YtcccjgmekakabaaGreat.FP
end

section
namespace Go.Den
open Go
def iA {X α:Type} (e:TypeId) (n:Nat) (cells:X->List Value) (sub:X->aa) (vis:X->α) (s:Sl) (l:List α):aa:=
 Mx fun xs:List X=>kZ (xs.map vis=l) (bo (aj s e n cells xs) (ak (xs.map sub)))
namespace Hp
section
variable {S:List Nat} {w0 w:World} {ae:List aa}
theorem K7 {A B C:List aa} (h:Hp S w0 w (A++B++C)):Hp S w0 w (B++A++C):=by
 obtain⟨f,hf⟩: ∃f:Nat->Nat,f=fun n=>if n < B.length then A.length+n else if n < A.length+B.length then n - B.length else n:=⟨_,rfl⟩
 have PF: ∀x y,f x=f y->x=y:=by
  intro x y;rw [hf];dsimp only
  repeat' split
  all_goals omega
 refine h.JS ((List.range (A.length+B.length+C.length)).map f) ?_ (by simp;omega) fun n j hn=>?_
 ·rw [amq,anw];exact List.Pairwise.imp (fun{a b} aW he=>aW (PF a b he)) (amq.1 anZ)
 ·rw [alc] at hn;obtain⟨m,hm,rfl⟩:=alH.1 hn;have KM:=(ak6.1 hm).1;rw [amC (by simpa using KM)] at hm;obtain rfl:=alm hm;rw [hf];dsimp only;simp only [am9] at KM;by_cases h1:n < B.length
  ·rw [if_pos h1,ak9 (by simp;omega),ak8 (by omega),ak9 (by simp;omega),ak9 h1];congr 1;omega
  ·rw [if_neg h1];by_cases h2:n < A.length+B.length
   ·rw [if_pos h2,ak9 (by simp;omega),ak9 (by omega),ak9 (by simp;omega),ak8 (by omega)]
   ·rw [if_neg h2,ak8 (by simp;omega),ak8 (by simp;omega)];congr 1;simp;omega
theorem up {A B:List aa} {t:aa} (h:Hp S w0 w (A++B++ [t])):Hp S w0 w (A++t :: B):=by
 have h:Hp S w0 w (A++B++ [t]++ []):=by rw [alh];exact h
 rw [ale A] at h;have h:=h.K7 (A:=A) (B:=B++ [t]) (C:= []);rw [alh] at h;have h:=h.K7 (A:=B) (B:= [t]) (C:=A);have h:Hp S w0 w (([t]++B)++A++ []):=by rw [alh];exact h
 have h:=h.K7 (A:= [t]++B) (B:=A) (C:= []);rw [alh] at h;exact h
theorem ME {A B C D:List aa} (h:Hp S w0 w (A++B++C++D)):Hp S w0 w (A++C++B++D):=by
 have h:Hp S w0 w (A++(B++C)++D):=by simpa using h
 have h:=h.K7;have h:Hp S w0 w (B++C++(A++D)):=by simpa using h
 have h:=h.K7;have h:Hp S w0 w ((C++B)++A++D):=by simpa using h
 have h:=h.K7
 simpa using h
theorem comm {A B:List aa} (h:Hp S w0 w (A++B)):Hp S w0 w (B++A):=by
 have h:Hp S w0 w (A++B++ []):=by rw [alh];exact h
 have:=h.K7
 rwa [alh] at this
theorem HB (h:Hp S w0 w ae):Hp S w0 w (ao :: ae):=
 (h.grow (Fr.refl _ _) (t:=ao) (O:= []) rfl (by simp) rfl).comm
theorem cZ {A B C:List aa} (h:Hp S w0 w (A++B++C)):Hp S w0 w (A++C):=by
 have h:=h.K7;rw [ale] at h;exact h.comm.front
theorem down {A B:List aa} {t:aa} (h:Hp S w0 w (A++t :: B)):Hp S w0 w (A++B++ [t]):=by
 have h:Hp S w0 w (A++ [t]++B):=by simpa using h
 have h:=h.K7;rw [ale] at h;exact h.comm
theorem jY {α:Type} {l:List α} {i:Nat} {x:α} (h:l[i]? =some x):l.set i x=l:=by
 apply alM;intro j;rw [alN]
 split
 ·rename_i hj
  subst hj;rw [if_pos (ak6.1 h).1,h]
 ·rfl
theorem Q1 {A B C:List aa} (h:Hp S w0 w (A++B++C)):Hp S w0 w (A++C++B):=by
 have h:Hp S w0 w (A++B++C++ []):=by rw [alh];exact h
 have h:=h.ME
 rwa [alh] at h
theorem K8 {α:Type} {f:α->List Value} {n m:Nat} {e:TypeId} {c:List Value} (h:Hp S w0 w ae) {l:List α} (hc:c=l.flatMap f) (hm:l.length=m) (hf: ∀x,(f x).length=n) {K:Addr->World->Prop}
  (hK: ∀b w',Hp S w0 w' (ae++ [aj ⟨some ⟨b,0,none⟩,m,m⟩ e n f l])->K ⟨b,0,none⟩ w'):Nw (.cells c.toArray e) w K:=by
 refine h.nw fun b w' h=>?_;have h:=h.nI (i:=ae.length) (m:=m) (l:=l) (f:=f) (n:=n) alw hc hm hf;rw [alj _ _ (alA _),alK,alq] at h;exact hK b w' h
theorem EO: ∀(ts:List aa) {A:List aa},owns ts=true->Hp S w0 w (A++ts)->Hp S w0 w (A++ [ak ts])
 | [],A,_,h=>by
  rw [alh] at h;exact h.grow (Fr.refl _ _) (t:=ao) (O:= []) rfl (by simp) rfl
 | t :: ts,A,ho,h=>by
  have QM:t.own=true /\ owns ts=true:=by simpa [owns] using ho
  have h:Hp S w0 w ((A++ [t])++ts):=by simpa using h
  have h:=EO ts QM.2 h;have h:Hp S w0 w (A++ [t,ak ts]):=by simpa using h
  have h:=h.aV (i:=A.length) (j:=A.length+1) (a:=t) (b:=ak ts) (by omega) (by simp) (by rw [ak8 (by omega)];simp) QM.1 (aM _);rw [alj _ _ (alA _),alj _ _ (by omega)] at h;have h:Hp S w0 w (A++ [bo t (ak ts)]++ [ao]):=by simpa using h
  exact h.front
section
variable {X α:Type} {e:TypeId} {n:Nat} {cells:X->List Value} {sub:X->aa} {vis:X->α} {s:Sl} {l:List α}
theorem du (h:Hp S w0 w ae) {i:Nat} (hi:ae[i]? =some (iA e n cells sub vis s l)): ∃xs:List X,xs.map vis=l /\ Hp S w0 w (ae.set i (aj s e n cells xs)++ [ak (xs.map sub)]):=by
 have hl:=(ak6.1 hi).1;obtain⟨xs,h⟩:=h.nf hi (fun _=>rfl);obtain⟨hx,h⟩:=h.lp (i:=i) (by rw [alx hl]) rfl;rw [al2] at h;have h:=h.split (i:=i) (by rw [alx hl]) rfl (aM _);rw [al2] at h;exact⟨xs,hx,h⟩
theorem dv (h:Hp S w0 w ae) {i j:Nat} (aW:i≠j) {xs:List X} (hi:ae[i]? =some (aj s e n cells xs)) (hj:ae[j]? =some (ak (xs.map sub))) (hx:xs.map vis=l):
  Hp S w0 w ((ae.set i (iA e n cells sub vis s l)).set j ao):=by
 have hl:=(ak6.1 hi).1;have h:=h.aV aW hi hj rfl (aM _);have h:=h.kq (i:=i) hx (by rw [alC (fun e=>aW e.symm),alx hl]) rfl;have e1:((ae.set i (bo (aj s e n cells xs) (ak (xs.map sub)))).set j ao).set i (kZ (xs.map vis=l) (bo (aj s e n cells xs) (ak (xs.map sub))))=(ae.set i (kZ (xs.map vis=l) (bo (aj s e n cells xs) (ak (xs.map sub))))).set j ao:=by
  rw [anL _ _ (fun e=>aW e.symm),al2]
 rw [e1] at h;have h:=h.nH (i:=i) (f:=fun xs:List X=>kZ (xs.map vis=l) (bo (aj s e n cells xs) (ak (xs.map sub)))) xs (by rw [alC (fun e=>aW e.symm),alx hl]) rfl;rw [anL _ _ (fun e=>aW e.symm),al2] at h;exact h
theorem gN (h:Hp S w0 w ae) (e:TypeId) (n:Nat) (cells:X->List Value) (sub:X->aa) (vis:X->α):Hp S w0 w (ae++ [iA e n cells sub vis ⟨none,0,0⟩ []]):=
 h.grow (Fr.refl _ _) (O:= []) ⟨[],rfl,[],[],cq.nil,rfl,by simp,by simp⟩ (by simp) rfl
theorem mo (h:Hp S w0 w ae) (i:Nat) (hi:(ae[i]?).map aa.holds=some (iA e n cells sub vis s l).holds):l.length=s.len /\ s.len<=s.cap:=by
 obtain⟨O,xs,hx,O1,O2,h1,_⟩:=h.de hi;refine⟨by rw [<-hx,alr];exact h1.1,?_⟩
 rcases h1.2 with ⟨_,a,b,_⟩ | ⟨b,off,c,_,_,_,a,_⟩
 ·omega
 ·exact a
theorem zI {A:List aa} {xs:List X} (ho:owns (xs.map sub)=true) (h:Hp S w0 w (A++(aj s e n cells xs :: xs.map sub))):Hp S w0 w (A++ [iA e n cells sub vis s (xs.map vis)]):=by
 have h:Hp S w0 w ((A++ [aj s e n cells xs])++xs.map sub):=by simpa using h
 have h:=EO _ ho h;have h:Hp S w0 w (A++ [aj s e n cells xs,ak (xs.map sub)]):=by simpa using h
 have h:=h.dv (i:=A.length) (j:=A.length+1) (e:=e) (n:=n) (cells:=cells) (sub:=sub) (vis:=vis) (s:=s) (xs:=xs) (l:=xs.map vis) (by omega) (by simp) (by rw [ak8 (by omega)];simp) rfl;rw [alj _ _ (alA _),alj _ _ (by omega)] at h;have h:Hp S w0 w (A++ [iA e n cells sub vis s (xs.map vis)]++ [ao]):=by simpa using h
 exact h.front
theorem oT (h:Hp S w0 w ae) (i j:Nat) (aW:i≠j) (x:X) {P:Program} {t ty e':TypeId} {inf:TypeInfo} {z:Value} {c':Nat} {c:List Value} {K:Sl->World->Prop} (hi:ae[i]? =some (iA e n cells sub vis s l)) (hj:ae[j]? =some (sub x)) (ho:(sub x).own=true) (hf: ∀x,(cells x).length=n)
  (ht:P.underlying t=some (.slice e)) (iE:P.info? e=some inf) (dL:inf.size=n) (hz:inf.zero=some z) (A8:z.cells.size=n) (hc:c=cells x) (h1: ∀u∈cells x,u.oneCell'=true)
  (hb:(s.len+1)*inf.bytes<=140737488355328) (hn:s.len+1<=140737488355328)
  (hK: ∀s' w',Hp S w0 w' ((ae.set i (iA e n cells sub vis s' (l++ [vis x]))).set j ao)->s'.len=s.len+1->K s' w'):
  Nw (.cells c.toArray e') w fun b w=>cA .sl P (Builtin.append_ #[t,t] ty #[.slice s.a s.len s.cap,.slice (some b) 1 c']) w K:=by
 have jD:=(ak6.1 hi).1;have gQ:=(ak6.1 hj).1;obtain⟨xs,hx,h⟩:=h.du hi;refine h.cj i x (by rw [ak9 (by simpa using jD),alx jD]) hf ht iE dL hz A8 hc h1 hb hn fun s' w' h h2 _=>hK s' w' ?_ h2;have e1:(ae.set i (aj s e n cells xs)++ [ak (xs.map sub)]).set i (aj s' e n cells (xs++ [x]))=ae.set i (aj s' e n cells (xs++ [x]))++ [ak (xs.map sub)]:=by
  rw [amc _ _ (by simpa using jD),al2]
 rw [e1] at h;have me:(ae.set i (aj s' e n cells (xs++ [x]))++ [ak (xs.map sub)])[ae.length]? =some (ak (xs.map sub)):=by
  rw [ak8 (by simp)];simp
 have h:=h.join (i:=ae.length) (j:=j) (a:=ak (xs.map sub)) (b:=sub x) (c:=ak ((xs++ [x]).map sub)) (by omega) me (by rw [ak9 (by simpa using gQ),alC aW];exact hj) (aM _) ho (aM _) (fun w O1 O2 g1 g2 g3=>by
  rw [alW];exact fX g1 (us:= [sub x]) (O2:=O2) ⟨O2,[],g2,rfl,by simp,by simp⟩ g3)
 have e2:((ae.set i (aj s' e n cells (xs++ [x]))++ [ak (xs.map sub)]).set ae.length (ak ((xs++ [x]).map sub))).set j ao=(ae.set i (aj s' e n cells (xs++ [x]))).set j ao++ [ak ((xs++ [x]).map sub)]:=by
  rw [alj _ _ (by simp),alV,alK,amc _ _ (by simpa using gQ)];rfl
 rw [e2] at h;have h:=h.dv (i:=i) (j:=ae.length) (s:=s') (xs:=xs++ [x]) (e:=e) (n:=n) (cells:=cells) (sub:=sub) (vis:=vis) (l:=l++ [vis x]) (by omega)
  (by rw [ak9 (by simpa using jD),alC (fun e=>aW e.symm),alx jD]) (by rw [ak8 (by simp)];simp) (by rw [alW,hx];rfl)
 have e3:(((ae.set i (aj s' e n cells (xs++ [x]))).set j ao++ [ak ((xs++ [x]).map sub)]).set i (iA e n cells sub vis s' (l++ [vis x]))).set ae.length ao=(ae.set i (iA e n cells sub vis s' (l++ [vis x]))).set j ao++ [ao]:=by
  rw [amc _ _ (by simpa using jD),anL _ _ (fun e=>aW e.symm),al2,alj _ _ (by simp)];simp
 rw [e3] at h;exact h.front
end
end
end Hp
end Go.Den
end

section
namespace Go.Proofs.YtcccjgmekakabaaGreat.FW
open F
open Go Go.Den Go.Proofs
open FI (ai aD)
open FT (az fA bw ct fo jV dH iv)
structure WA where
 ks:KD
 ar:ai
 row:bw->Option PL
structure WA.Ok (a:WA):Prop where
 EP:a.ar.MD
 aO:a.ar.aO=200
 may:cY a.ks
 Dl: ∀e:bw,(a.row e).isSome=a.ar.is e.1 e.2
 Gf: ∀(e:bw) (p:PL),a.row e=some p->FP.eW (flat p)
def WA.m (a:WA):WM:=⟨a.ks,a.ar,fun e=>(a.row e).map aA,[]⟩
def WH.bS (q:WH):List (Int×az):=q.T.map fun x=>(x.1,x.2.2)
def tW (b:Nat) (a:WA):aa:=Mx fun T:List (Int×az)=>kZ (a.Ok /\ dS a.ks a.row a.m.aE T) (kD b ⟨a.ks,a.ar,a.m.aE,T⟩)
theorem WA.Ok.qa {a:WA} (h:a.Ok):a.ar.Ok:=h.EP.toOk
theorem WA.Ok.len {a:WA} (h:a.Ok):1<=a.ks.length /\ a.ks.length<=12:=⟨h.may.2.1,h.may.2.2.1⟩
theorem WA.Ok.four {a:WA} (h:a.Ok): ∀x∈a.ks,x.2.length<=4:=fun x hx=>(h.may.1 x hx).1
theorem xO {m:ai} (hm:m.Ok) {L:List bw} (bJ:L.Nodup) (h: ∀x∈L,m.is x.1 x.2=true):L.length<=200:=by
 have vC: ∀x∈L,0<=x.1 /\ x.1 < m.au.length /\ m.gen x.1=x.2:=fun x hx=>by
  obtain⟨h1,h2⟩:=ai.kC.1 (h x hx);have:=FI.jW hm h1;exact⟨this.1,this.2,h2⟩
 have:=Ck m.au.length (L.map fun x=>x.1.toNat) (by
  rw [amq,anw];refine List.Pairwise.imp_of_mem (fun{a b} ha hb aW he=>aW ?_) (amq.1 bJ);have h1:=vC a ha;have h2:=vC b hb;have:a.1=b.1:=by omega
  exact amz this (by rw [<-h1.2.2,<-h2.2.2,this])) (fun x hx=>by
  obtain⟨y,hy,rfl⟩:=alu.1 hx;have:=vC y hy;omega)
 rw [alr] at this;have:=hm.fZ;omega
section
variable {S:List Nat} {w0 w:World} {ae:List aa}
theorem gf {b:Nat} {a:WA} {rest:List aa} (h:Hp S w0 w (tW b a :: rest)):
  ∃q:WH,a.Ok /\ dS a.ks a.row a.m.aE q.bS /\ kinds q.xs=a.ks /\ Hp S w0 w (q.all b a.m ao++rest):=by
 obtain⟨T,h⟩:=h.nf (i:=0) rfl (fun _=>rfl);obtain⟨⟨aT,ht⟩,h⟩:=h.lp (i:=0) rfl rfl;obtain⟨q,hq,h⟩:=U1 h (i:=0) rfl;refine⟨q,aT,?_,hq.1,?_⟩
 ·have:q.bS=T:=hq.2;rw [this];exact ht
 have h:Hp S w0 w ((q.ra b :: rest)++q.rest ⟨a.ks,a.ar,a.m.aE,T⟩):=h;have h:=h.comm;have h:Hp S w0 w (q.rest ⟨a.ks,a.ar,a.m.aE,T⟩++ [q.ra b]++rest):=by rw [ale];exact h
 have h:=h.K7.HB;have h:Hp S w0 w ([ao]++ [q.ra b]++(q.rest ⟨a.ks,a.ar,a.m.aE,T⟩++rest)):=by
  simp only [alI,alO,ale] at h ⊢;exact h
 exact h.K7
theorem dT {b:Nat} {a:WA} {m:WM} {q:WH} {u:aa} {rest:List aa} (aT:a.Ok) (ht:dS a.ks a.row a.m.aE q.bS) (hk:kinds q.xs=a.ks) (hp:m.ar=a.ar) (hs:m.aE=a.m.aE) (h:Hp S w0 w (q.all b m u++rest)):Hp S w0 w (tW b a :: rest):=by
 have h:Hp S w0 w (q.ra b :: u :: (q.rest m++rest)):=h;have h:=h.fY;have e:q.rest m=q.rest ⟨a.ks,a.ar,a.m.aE,q.bS⟩:=by
  unfold WH.rest;rw [hp,hs]
 rw [e] at h;have h:=Pw (m:=⟨a.ks,a.ar,a.m.aE,q.bS⟩) ⟨hk,rfl⟩ h;have h:=h.kq (i:=0) (p:=a.Ok /\ dS a.ks a.row a.m.aE q.bS) ⟨aT,ht⟩ rfl rfl;exact h.nH (i:=0) (f:=fun T:List (Int×az)=>kZ (a.Ok /\ dS a.ks a.row a.m.aE T) (kD b ⟨a.ks,a.ar,a.m.aE,T⟩)) q.bS rfl rfl
theorem K9 (h:Hp S w0 w ae) (i:Nat) {b:Nat} {a:WA} (hi:(ae[i]?).map aa.holds=some (tW b a).holds):a.Ok /\ ∀e p,a.row e=some p->p.fit a.ks:=by
 obtain⟨O,T,hx,_⟩:=h.de hi;exact⟨hx.1,hx.2.fit⟩
theorem v7 {b:Nat} {m:WM} {q:WH} {u:aa} {more:List aa} (h:Hp S w0 w (q.all b m u++more)) {row:bw->Option PL} {e:bw} {p:PL} (ht:dS (kinds q.xs) row m.aE q.bS) (hr:row e=some p) {K:Sl->World->Prop}
  (hK: ∀s T' w',dS (kinds q.xs) (aG row e none) (aG m.aE e none) ({ q with T:=T'}:WH).bS->Hp S w0 w' (({ q with T:=T'}:WH).all b { m with aE:=aG m.aE e none} u++more++ [aj s 2 1 iv (flat p)])->K s w'):V4 (some ⟨b,0,none⟩) e.1 e.2 w K:=by
 obtain⟨k,r,t,hk,tk,uR,oN⟩:=ht.find hr;unfold WH.bS at hk;rw [alc] at hk;obtain⟨⟨s0,tb,t0⟩,Bd,he⟩:=alH.1 hk;obtain⟨rfl,rfl⟩:=amx he;have jE:m.aE e=some (aA p):=by rw [ht.aE];show (row e).map aA=_;rw [hr];rfl
 refine ED h (e:=e) (set:=aA p) (k:=k) (tb:=tb) (row:=r) (t:=t0) (vals:=flat p) jE (by have:=ht.nd;unfold WH.bS at this;rw [amJ] at this;exact this) Bd tk uR oN fun s T' w' hT h=>hK s T' w' ?_ h;refine ht.leave hr (k:=k) (r:=r) (t:=t0) (by unfold WH.bS;rw [alc,Bd];rfl) oN ?_
 rcases hT with ⟨hz,rfl⟩ | ⟨hz,rfl⟩
 ·exact .inl ⟨hz,by unfold WH.bS;rw [amm]⟩
 ·exact .inr ⟨hz,by unfold WH.bS;rw [eK]⟩
theorem pS {b:Nat} {m:WM} {q:WH} {u:aa} {more:List aa} (h:Hp S w0 w (q.all b m u++more)) {row:bw->Option PL} {e:bw} {p:PL} (ht:dS (kinds q.xs) row m.aE q.bS) (hm:cY (kinds q.xs)) (hr:row e=none) (hp:p.fit (kinds q.xs))
  (hb: ∀L:List bw,L.Nodup->(∀x∈L,(row x).isSome=true)->L.length < 200) {vs:Sl} (hu:Hp.Reads u vs 1 iv (flat p)) {K:World->Prop}
  (hK: ∀T' w',dS (kinds q.xs) (aG row e (some p)) (aG m.aE e (some (aA p))) ({ q with T:=T'}:WH).bS->Hp S w0 w' (({ q with T:=T'}:WH).all b { m with aE:=aG m.aE e (some (aA p))} u++more)->K w'):R5 (some ⟨b,0,none⟩) e.1 e.2 (aA p) vs w K:=by
 have cO:(kinds q.xs).length=q.xs.length:=by simp [kinds]
 have uV:q.xs.length<=12:=by have:=hm.2.2.1;omega
 have mJ: ∀x∈kinds q.xs,x.2.length<=4:=fun x hx=>(hm.1 x hx).1;have h4: ∀x∈q.xs,x.2.2.length<=4:=fun x hx=>mJ (x.1,x.2.2) (alu.2 ⟨x,hx,rfl⟩);have si:p.length<=12:=by rw [hp.1];omega
 have zu:=fg si;refine EB h uV h4 (fun x hx=>(ht.tok (x.1,x.2.2) (alu.2 ⟨x,hx,rfl⟩)).1) (ff p) (by omega) hu fun T1 k tb t w' hT hk h=>?_;have hT1:T1.map (fun x=>(x.1,x.2.2))=q.bS \/ (T1.map (fun x=>(x.1,x.2.2))=q.bS++ [(aA p,⟨gd (kinds q.xs) (aA p) (kinds q.xs).length,[]⟩)] /\ ∀x∈q.bS,x.1≠aA p):=by
  rcases hT with rfl | ⟨rfl,dz⟩
  ·exact .inl rfl
  ·refine .inr ⟨by unfold WH.bS;rw [alW,cO];rfl,fun x hx=>?_⟩;obtain⟨y,hy,rfl⟩:=alu.1 hx;exact dz y hy
 obtain⟨e1,e2⟩:=ht.enter hr hp hb mJ (by omega) hT1 (k:=k) (t:=t) (by rw [alc,hk];rfl);rw [e1] at h;refine hK _ w' ?_ h;unfold WH.bS;rw [amm];exact e2
def WA.da (a:WA) (e:bw):WA×Int:=if a.ar.is e.1 e.2=true then (⟨a.ks,a.ar.dN e.1 e.2,aG a.row e none⟩,0) else (a,41)
theorem eX (row:bw->Option PL) (e:bw) (o:Option PL):(fun x=>(aG row e o x).map aA)=aG (fun x=>(row x).map aA) e (o.map aA):=by
 funext x
 unfold aG
 split <;> rfl
theorem Lc {m:ai} (hm:m.Ok) {e x:bw} (he:m.is e.1 e.2=true):(m.dN e.1 e.2).is x.1 x.2=if x=e then false else m.is x.1 x.2:=by
 obtain⟨h1,h2⟩:=ai.kC.1 he;obtain⟨a1,a2⟩:=FI.jW hm h1;have hl:=hm.len;unfold ai.is;rw [ai.nm m a1 (by omega),ai.xA];by_cases hx:x=e
 ·subst hx;simp
 ·rw [if_neg hx];by_cases h0:x.1=e.1
  ·rw [if_pos h0];have:m.gen x.1≠x.2:=fun hg=>hx (amz h0 (by rw [<-hg,h0,h2]));simp [this]
  ·rw [if_neg h0]
theorem mq {p:PL} (h:FP.eW (flat p)) (i:Nat) {v:List Int} (hv:FP.eW v):FP.eW (flat (p.set i (some v))):=by
 intro x hx;obtain⟨o,ho,hx⟩:=amt.1 hx
 rcases anQ ho with ho | rfl
 ·exact h x (amt.2 ⟨o,ho,hx⟩)
 ·exact hv x hx
theorem u9 {p:PL} (h:FP.eW (flat p)) (i:Nat):FP.eW (flat (p.set i none)):=by
 intro x hx;obtain⟨o,ho,hx⟩:=amt.1 hx
 rcases anQ ho with ho | rfl
 ·exact h x (amt.2 ⟨o,ho,hx⟩)
 ·cases hx
theorem WA.xQ {a:WA} (h:a.Ok) (e:bw):(a.da e).1.Ok:=by
 unfold WA.da
 split
 ·rename_i he
  refine⟨by have:=(FI.KO h.EP e.1 e.2).1;unfold ai.mi at this;rw [if_pos he] at this;exact this,h.aO,h.may,fun x=>?_,fun x p hx=>?_⟩
  ·show (aG a.row e none x).isSome=_;rw [Lc h.qa he];unfold aG
   split
   ·rfl
   ·exact h.Dl x
  ·have hx:aG a.row e none x=some p:=hx;unfold aG at hx
   split at hx
   ·cases hx
   ·exact h.Gf x p hx
 ·exact h
set_option maxHeartbeats 1000000 in
theorem zJ (h:Hp S w0 w ae) (i:Nat) {b:Nat} {a:WA} (hi:ae[i]? =some (tW b a)) {e:bw} {K:Int->World->Prop} (hK: ∀w',Hp S w0 w' (ae.set i (tW b (a.da e).1))->K (a.da e).2 w'):Z4 (some ⟨b,0,none⟩) e.1 e.2 w K:=by
 refine SW ?_;unfold f17;obtain⟨O,h1,back⟩:=h.f1 hi rfl;clear h;obtain⟨q,aT,ht,hk,h⟩:=gf h1;have iB:=WA.xQ aT e;refine h.nw (c:= [_,_]) fun eb w1 h=>?_;rw [alh] at h;have h:Hp O w w1 (q.all b a.m ao++ [af eb 33 [.int .i64 e.1,.int .i64 e.2]]):=h;refine h.dr fun w2 h=>?_;refine aS ?_;refine h.ld (n:=1) (k:=.p) (x:=some ⟨q.pb,0,none⟩) 0 rfl rfl ?_;refine h.bE (k:=.i .i64) (x:=e.1) 8 rfl rfl ?_;refine h.ld (n:=1) (k:=.i .i64) (x:=e.2) 8 rfl rfl ?_;refine FI.UY h 4 (m:=a.ar) aT.qa rfl fun w3 h=>?_;have hl:=aT.Dl e;have fin: ∀{w':World} {a':WA},Hp O w w' [tW b a']->Hp S w0 w' (ae.set i (tW b a')):=fun{w' a'} h=>by
  have:=back (rest:= []) rfl rfl h
  rwa [alh] at this
 unfold ai.mi at h ⊢;by_cases he:a.ar.is e.1 e.2=true
 ·simp only [if_pos he] at h ⊢;have e0:a.da e=(⟨a.ks,a.ar.dN e.1 e.2,aG a.row e none⟩,0):=by unfold WA.da;rw [if_pos he]
  rw [e0] at hK iB;refine aJ (by simp) ?_;have h:Hp O w w3 (q.all b { a.m with ar:=a.ar.dN e.1 e.2} ao++ [af eb 33 [.int .i64 e.1,.int .i64 e.2]]):=h;refine h.bE (k:=.i .i64) (x:=e.1) 8 rfl rfl ?_;refine h.ld (n:=1) (k:=.i .i64) (x:=e.2) 8 rfl rfl ?_;rw [he] at hl;obtain⟨p,hr⟩:=amv.1 hl;refine v7 h (row:=a.row) (p:=p) (by rw [hk];exact ht) hr fun s T' w4 BM h=>hK w4 (fin ?_);refine dT (rest:= []) (u:=ao) (m:={ a.m with ar:=a.ar.dN e.1 e.2,aE:=aG a.m.aE e none}) (q:={ q with T:=T'}) iB ?_ hk rfl ?_ ?_
  ·show dS a.ks (aG a.row e none) (fun x=>(aG a.row e none x).map aA) _;rw [eX,<-hk];exact BM
  ·exact(eX a.row e none).symm
  ·have h:=h.front.front;rw [alh];exact h
 ·simp only [if_neg he] at h ⊢;have e0:a.da e=(a,41):=by unfold WA.da;rw [if_neg he]
  rw [e0] at hK;refine aL rfl (hK w3 (fin ?_));refine dT (rest:= []) (u:=ao) (m:=a.m) (q:=q) aT ht hk rfl rfl ?_;have h:Hp O w w3 (q.all b a.m ao++ [af eb 33 [.int .i64 e.1,.int .i64 e.2]]):=h;rw [alh];exact h.front
end
open FT (aB)
section
variable {S:List Nat} {w0 w:World} {ae:List aa}
theorem AM (h:Hp S w0 w ae) (i:Nat) {T:List TT} {k tb:Nat} {set:Int} {t:az} (hi:(ae[i]?).map aa.holds=some (ak (T.map tT)).holds) (hk:T[k]? =some (set,tb,t)):Hp [] w w [(fA tb t).ro]:=by
 have h1:=h.My hi;obtain⟨O,hO,put⟩:=h1.FK (i:=0) rfl;obtain⟨O1,O2,g1,g2,g3,g4⟩:=dk (k:=k) (t:=tT (set,tb,t)) (by rw [alc,hk];rfl) hO;exact(put g1 (fun x hx=>(g4 x).2 (.inl hx))).rQ 1 rfl
theorem Q2 (h:Hp S w0 w ae) (i:Nat) {T:List TT} {k tb:Nat} {set:Int} {t:az} (hi:(ae[i]?).map aa.holds=some (ak (T.map tT)).holds) (hk:T[k]? =some (set,tb,t)) {e:bw} {r:Nat} (uR:jV t e=some (r:Int)) {K:Int->World->Prop}
  (hK: ∀w',Hp S w0 w' ae->K r w'):DO (some ⟨tb,0,none⟩) e.1 e.2 w K:=
 FT.tI (AM h i hi hk) 0 rfl fun w' h'=>by
  rw [uR];exact hK w' (by have:=h.r0 (rest:= []) rfl (h'.trim 0);rwa [alh] at this)
theorem aeb (h:Hp S w0 w ae) (i:Nat) {T:List TT} {k tb:Nat} {set:Int} {t:az} (aT:t.Ok) (hi:(ae[i]?).map aa.holds=some (ak (T.map tT)).holds) (hk:T[k]? =some (set,tb,t)) {e:bw} {vals:List Int} {r:Nat} (oN:t.rows[r]? =some (e,vals)) {K:Int->Int->Sl->Int->World->Prop}
  (hK: ∀s w',Hp S w0 w' (ae++ [aj s 2 1 iv vals])->K e.1 e.2 s 0 w'):IZ (some ⟨tb,0,none⟩) (r:Int) w K:=
 FT.BX (AM h i hi hk) 0 aT rfl fun s w'=>⟨fun x MH hx h'=>by
  have hx:t.rows[r]? =some x:=hx;rw [oN] at hx;obtain rfl:=alm hx;exact hK s w' (h.r0 (rest:= [aj s 2 1 iv vals]) rfl (h'.rQ 1 rfl)),fun dz=>absurd ⟨by omega,by have:=(ak6.1 oN).1;omega⟩ dz⟩
theorem CA (h:Hp S w0 w ae) (i:Nat) {u:aa} {s:Sl} {L:List Int} (hi:ae[i]? =some u) (hu:Hp.Reads u s 1 iv L) (hl:L.length<=1000000) {K:Sl->World->Prop} (hK: ∀r w',Hp S w0 w' (ae++ [aj r 2 1 iv L])->K r w'):I2 s w K:=by
 refine FG ?_;unfold f141;obtain⟨inf,q1,q2,q3,q4⟩:=FT.ku;have av:=(ak6.1 hi).1;have fB:=h.dR i (by rw [hi];rfl) hu;by_cases hn:s.a.isNone=true
 ·refine aL hn (hK _ _ ?_);have:L= []:=by
   obtain⟨O,hO⟩:=h.kY hi;obtain⟨o,hR⟩:=hu.rd hO;exact hR.isNil (by simpa using hn)
  rw [this];exact h.nil 2 1 iv
 ·refine aJ hn ?_;refine h.nw (c:= []) fun b w1 h=>?_;have h:=h.nI (i:=ae.length) (m:=0) (l:=([]:List Int)) (f:=iv) (n:=1) alw rfl rfl aB;rw [cM] at h;refine h.gq ae.length i (s:=⟨some ⟨b,0,none⟩,0,0⟩) (s2:=s) alw (by rw [ak9 av];exact hi) hu aB FT.eS q1 q3 q2 rfl (by simp [iv,Value.oneCell']) (by rw [q4];show (0+s.len)*8<=_;omega) (by show 0+s.len<=_;omega) fun r w2 h _ _=>?_;rw [cM] at h;exact hK r w2 h
theorem Yz (h:Hp S w0 w ae) (i:Nat) {s:Sl} {l:List Int} (hi:ae[i]? =some (aj s 2 1 iv l)):l.length=s.len /\ s.len<=s.cap:=⟨h.len i (by rw [hi];rfl),h.cap i (by rw [hi];rfl)⟩
set_option maxHeartbeats 1000000 in
theorem Le {b:Nat} {m:WM} {q:WH} {u:aa} {more:List aa} (h:Hp S w0 w (q.all b m u++more)) {row:bw->Option PL} {e:bw} {p:PL} (ht:dS (kinds q.xs) row m.aE q.bS) (hm:cY (kinds q.xs)) (hr:row e=some p) {i:Nat} {v:List Int} (hp:p[i]? =some (some v)) {K:Int->Sl->World->Prop}
  (hK: ∀s w',Hp S w0 w' (q.all b m u++more++ [aj s 2 1 iv v])->K ((i+1:Nat):Int) s w'):Nh (some ⟨b,0,none⟩) e.1 e.2 (aA p) ((i+1:Nat):Int) w K:=by
 refine Oj ?_;unfold f136;obtain⟨KI,r1,r2,r3,r4⟩:=AD;have cO:(kinds q.xs).length=q.xs.length:=by simp [kinds]
 have uV:q.xs.length<=12:=by have:=hm.2.2.1;omega
 have mJ: ∀x∈kinds q.xs,x.2.length<=4:=fun x hx=>(hm.1 x hx).1;have h4: ∀x∈q.xs,x.2.2.length<=4:=fun x hx=>mJ (x.1,x.2.2) (alu.2 ⟨x,hx,rfl⟩);have aZ:=ht.fit e p hr;have jD:=(ak6.1 hp).1;have zu:=fg (show p.length<=12 by rw [aZ.1];omega);obtain⟨k,r,t,hk,tk,uR,oN⟩:=ht.find hr;unfold WH.bS at hk;rw [alc] at hk;obtain⟨⟨s0,tb,t0⟩,Bd,he⟩:=alH.1 hk;obtain⟨rfl,rfl⟩:=amx he;have bJ:(q.T.map (·.1)).Nodup:=by have:=ht.nd;unfold WH.bS at this;rw [amJ] at this;exact this
 have vD:(kinds q.xs)[i]? =some ((kinds q.xs)[i]'(by rw [<-aZ.1];exact jD)):=alf _;have gJ:=aZ.2 i v _ hp vD;refine h.nw (c:= [_,_]) fun eb w1 h=>?_;have h:=h.up;refine h.nw (c:= [_,_]) fun ab w2 h=>?_;have h:=h.up;refine aS ?_;refine h.ld (n:=3) (k:=.m) (x:=some q.mt) 0 rfl rfl ?_;refine h.lu (kd:=.p) (vk:=fun tb=>some ⟨tb,0,none⟩) (z:=(none:Option Addr)) (ek:=Value.int .i64) (ev:=pv) (g:=cz q.T) (k:=aA p) 6 rfl rfl rZ tw r1 r2 (fun _=>rfl) ?_;rw [AF bJ Bd];refine h.bE (k:=.i .i64) (x:=e.1) 9 rfl rfl ?_;refine h.ld (n:=1) (k:=.i .i64) (x:=e.2) 9 rfl rfl ?_;refine Q2 h 7 rfl Bd uR fun w3 h=>?_;refine aeb h 7 tk rfl Bd oN fun s w4 h=>?_;have h:=h.up;refine h.nw (c:= [_,_]) fun xb w5 h=>?_;have h:=h.up;refine h.gz 8 rfl (by simp) rfl fun w6 h=>?_;refine h.st (n:=1) 8 rfl (by simp) rfl fun w7 h=>?_;have h:Hp S w0 w7 (q.all b m u++(af xb 33 [.int .i64 e.1,.int .i64 e.2] :: aj s 2 1 iv (flat p) :: af ab 36 [.int .i64 0,.slice none 0 0] :: af eb 33 [.int .i64 e.1,.int .i64 e.2] :: more)):=h;refine jQ h 0 2 3 (cells:= [_,_,_]) rfl rfl rfl uV h4 (ff p) (by omega) (q:=i) (by rw [aZ.1,cO] at jD;omega) ?_;have agb:i < 12:=by rw [aZ.1] at jD;omega
 refine lv h 0 2 3 (cells:= [_,_,_]) rfl rfl rfl (by omega) (by omega) (by omega) ?_;have dh:fl (kinds q.xs) ((i+1:Nat):Int)=some v.length:=by
  unfold fl;rw [if_pos (by omega),show (((i+1:Nat):Int) - 1).toNat=i by omega,vD,gJ];rfl
 rw [dh];dsimp only;have fB:=Yz h 9 rfl;have bz:=aZ.all;have hle:=aZ.at (q:=i) (by omega);have WO:=aZ.get hp;have YA:gd (kinds q.xs) (aA p) i+v.length<=s.len:=by
  rw [<-fB.1,dI hp,hle];simp
 have aiC:=fD mJ (aA p) i;have Gg:=mJ _ (ala vD);rw [aI (n:=(gd (kinds q.xs) (aA p) i:Int)+(v.length:Int)) (by omega) (by omega)];refine Hp.nU (s:=s) (u:=aj s 2 1 iv (flat p)) (l:=flat p) Hp.bZ fB.1 aB (by omega) (by omega) (by omega) (al4 _) (by omega) fun s2 pM _ _=>?_;have e1:((flat p).take ((gd (kinds q.xs) (aA p) i:Int)+(v.length:Int)).toNat).drop ((gd (kinds q.xs) (aA p) i:Nat):Int).toNat=v:=by
  rw [ak7,show ((gd (kinds q.xs) (aA p) i:Int)+(v.length:Int)).toNat=gd (kinds q.xs) (aA p) i+v.length by omega];exact WO
 rw [e1] at pM;refine CA h 9 rfl pM (by omega) fun s3 w8 h=>?_;refine h.gz 10 rfl (by simp) rfl fun w9 h=>?_;refine h.st (n:=1) 10 rfl (by simp) rfl fun nK h=>?_;have h:Hp S w0 nK (q.all b m u++ [af xb 33 [.int .i64 e.1,.int .i64 e.2],aj s 2 1 iv (flat p),af ab 36 [.int .i64 ((i+1:Nat):Int),.slice s3.a s3.len s3.cap],af eb 33 [.int .i64 e.1,.int .i64 e.2]]++(more++ [aj s3 2 1 iv v])):=h;refine h.bE (k:=.i .i64) (x:=((i+1:Nat):Int)) 10 rfl rfl ?_;refine h.ld (n:=1) (k:=.sl) (x:=s3) 10 rfl rfl ?_;have h:=h.cZ;rw [<-ale] at h;exact hK s3 nK h
theorem xS {ks:KD} {kind:Int} {n:Nat} (hf:fl ks kind=some n): ∃(i:Nat) (k:ByteArray×List ByteArray),kind=((i+1:Nat):Int) /\ ks[i]? =some k /\ k.2.length=n:=by
 unfold fl at hf;by_cases h1:1<=kind
 ·rw [if_pos h1] at hf;obtain⟨k,hk,rfl⟩:=alH.1 hf;exact⟨(kind - 1).toNat,k,by omega,hk,rfl⟩
 ·rw [if_neg h1] at hf;cases hf
theorem sr {b:Nat} {a:WA} {q:WH} {u:aa} {more:List aa} (h:Hp S w0 w (q.all b a.m u++more)) (aT:a.Ok) (ht:dS a.ks a.row a.m.aE q.bS) (hk:kinds q.xs=a.ks) {e:bw} {kind:Int} (k1: -9223372036854775808<=kind) (k2:kind<=9223372036854775807) {K:Int->Bool->Int->Int->World->Prop}
  (hK: ∀w',Hp S w0 w' (q.all b a.m u++more)->(a.row e=none->K 0 false 0 41 w') /\ (∀p,a.row e=some p->fl a.ks kind=none->K 0 false 0 60 w') /\ (∀p i k,a.row e=some p->kind=((i+1:Nat):Int)->a.ks[i]? =some k->K (aA p) (p.getD i none).isSome (k.2.length:Nat) 0 w')):
  R6 (some ⟨b,0,none⟩) e.1 e.2 kind w K:=by
 have cO:(kinds q.xs).length=q.xs.length:=by simp [kinds]
 have hl:=aT.len;have k6:=aT.Dl e;refine EC h aT.qa (by rw [<-cO,hk];omega) (fun s hs=>?_) k1 k2 fun w' h=>⟨fun dz=>?_,fun sW hf=>?_,fun n sW hf=>?_⟩
 ·obtain⟨p,hp,rfl⟩:=alH.1 hs;have:=fg (show p.length<=12 by rw [(ht.fit e p hp).1];omega);exact⟨ff p,by omega⟩
 ·refine(hK w' h).1 ?_;have dz:a.ar.is e.1 e.2=false:=dz;rw [dz] at k6
  cases hr:a.row e with
  | none=>rfl
  | some p=>rw [hr] at k6;cases k6
 ·have sW:a.ar.is e.1 e.2=true:=sW;rw [sW] at k6;obtain⟨p,hp⟩:=amv.1 k6;exact(hK w' h).2.1 p hp (by rw [<-hk];exact hf)
 ·have sW:a.ar.is e.1 e.2=true:=sW;rw [sW] at k6;obtain⟨p,hp⟩:=amv.1 k6;rw [hk] at hf;obtain⟨i,k,rfl,Ih,rfl⟩:=xS hf;have:=(hK w' h).2.2 p i k hp rfl Ih;have e1:(a.m.aE e).getD 0=aA p:=by show ((a.row e).map aA).getD 0=_;rw [hp];rfl
  rw [e1,ak7,oO];have e2:(((if (p.getD i none).isSome=true then 1 else 0):Int) ==1)=(p.getD i none).isSome:=by
   cases (p.getD i none).isSome <;> rfl
  rw [e2];exact this
def WA.get (a:WA) (e:bw) (kind:Int):List Int×Int:=match a.row e with
 | none=>([],41)
 | some p=>match fl a.ks kind with
  | none=>([],60)
  | some _=>match p.getD (kind - 1).toNat none with
   | none=>([],62)
   | some v=>(v,0)
theorem qu {O:List Nat} {b:Nat} {a:WA} {w':World} {rest:List aa} {i:Nat} (hi:ae[i]? =some (tW b a)) (back: ∀{w':World} {t':aa} {rest:List aa},t'.own=true->Hp.owns rest=true->Hp O w w' (t' :: rest)->Hp S w0 w' (ae.set i t'++rest)) (ho:Hp.owns rest=true) (h:Hp O w w' (tW b a :: rest)):Hp S w0 w' (ae++rest):=by
 have:=back rfl ho h
 rwa [Hp.bN hi] at this
set_option maxHeartbeats 1000000 in
theorem Q3 (h:Hp S w0 w ae) (i:Nat) {b:Nat} {a:WA} (hi:ae[i]? =some (tW b a)) {e:bw} {kind:Int} (k1: -9223372036854775808<=kind) (k2:kind<=9223372036854775807) {K:Int->Sl->Int->World->Prop}
  (hK: ∀s w',Hp S w0 w' (ae++ [aj s 2 1 iv (a.get e kind).1])->K (if (a.get e kind).2=0 then kind else 0) s (a.get e kind).2 w'):c86 (some ⟨b,0,none⟩) e.1 e.2 kind w K:=by
 refine Ui ?_;unfold f86;obtain⟨O,h1,back⟩:=h.f1 hi rfl;clear h;obtain⟨q,aT,ht,hk,h⟩:=gf h1;refine h.nw (c:= [_,_]) fun eb w1 h=>?_;have h:=h.up;refine h.nw (c:= [_,_]) fun ab w2 h=>?_;have h:=h.up;refine h.bE (k:=.i .i64) (x:=e.1) 9 rfl rfl ?_;refine h.ld (n:=1) (k:=.i .i64) (x:=e.2) 9 rfl rfl ?_;have bad: ∀{w3:World} {err:Int},err≠0->a.get e kind=([],err)->Hp O w w3 (q.all b a.m ao++(af ab 36 [.int .i64 0,.slice none 0 0] :: af eb 33 [.int .i64 e.1,.int .i64 e.2] :: []))->
   (St ⟨ab,0,none⟩ (.int .i64 0) w3 fun w=>St ((⟨ab,0,none⟩:Addr).add 1) (.slice none 0 0) w fun w=>Ld (.i .i64) w ⟨ab,0,none⟩ fun(ko:Int)=>Ld .sl w ((⟨ab,0,none⟩:Addr).add 1) fun(eR:Sl)=>K ko eR err w):=by
  intro w3 err aW hg h;refine h.gz 8 rfl (by simp) rfl fun w4 h=>?_;refine h.st (n:=1) 8 rfl (by simp) rfl fun w5 h=>?_;refine h.bE (k:=.i .i64) (x:=(0:Int)) 8 rfl rfl ?_;refine h.ld (n:=1) (k:=.sl) (x:=(⟨none,0,0⟩:Sl)) 8 rfl rfl ?_;have:=hK ⟨none,0,0⟩ w5;rw [hg] at this;dsimp only at this;rw [if_neg aW] at this;refine this ?_;have h:Hp O w w5 (q.all b a.m ao++ [af ab 36 [.int .i64 0,.slice none 0 0],af eb 33 [.int .i64 e.1,.int .i64 e.2]]):=h;have h:=h.front.nil 2 1 iv;exact qu hi back rfl (dT (rest:= [_]) (m:=a.m) aT ht hk rfl rfl h)
 refine sr h aT ht hk k1 k2 fun w3 h=>⟨fun hr=>?_,fun p hr hf=>?_,fun p j k hr oU sd=>?_⟩
 ·refine aL rfl (bad (by omega) ?_ h);unfold WA.get;rw [hr]
 ·refine aL rfl (bad (by omega) ?_ h);unfold WA.get;rw [hr];dsimp only;rw [hf]
 ·have dh:fl a.ks kind=some k.2.length:=by
   unfold fl;rw [oU,if_pos (by omega),show (((j+1:Nat):Int) - 1).toNat=j by omega,sd];rfl
  have e1:(kind - 1).toNat=j:=by omega
  refine aJ (by simp) ?_
  cases hp:p.getD j none with
  | none=>
   refine aL rfl (bad (by omega) ?_ h);unfold WA.get;rw [hr];dsimp only;rw [dh];dsimp only;rw [e1,hp]
  | some v=>
   refine aJ (by simp) ?_;have hg:a.get e kind=(v,0):=by unfold WA.get;rw [hr];dsimp only;rw [dh];dsimp only;rw [e1,hp]
   rw [hg] at hK;have Q4:p[j]? =some (some v):=by
    rw [alk] at hp
    cases hx:p[j]? with
    | none=>rw [hx] at hp;cases hp
    | some o=>rw [hx] at hp;simpa using hp
   refine h.bE (k:=.i .i64) (x:=e.1) 9 rfl rfl ?_;refine h.ld (n:=1) (k:=.i .i64) (x:=e.2) 9 rfl rfl ?_;rw [oU];refine Le h (row:=a.row) (by rw [hk];exact ht) (by rw [hk];exact aT.may) hr Q4 fun s w4 h=>?_;refine h.gz 8 rfl (by simp) rfl fun w5 h=>?_;refine h.st (n:=1) 8 rfl (by simp) rfl fun w6 h=>?_;refine h.bE (k:=.i .i64) (x:=((j+1:Nat):Int)) 8 rfl rfl ?_;refine h.ld (n:=1) (k:=.sl) (x:=s) 8 rfl rfl ?_;have h:Hp O w w6 (q.all b a.m ao++ [af ab 36 [.int .i64 ((j+1:Nat):Int),.slice s.a s.len s.cap],af eb 33 [.int .i64 e.1,.int .i64 e.2]]++ [aj s 2 1 iv v]):=h;have:=hK s w6 (qu hi back rfl (dT (rest:= [_]) (m:=a.m) aT ht hk rfl rfl h.cZ));rw [if_pos rfl,oU] at this;exact this
theorem PG (h:Hp S w0 w ae) (i:Nat) {b:Nat} {a:WA} (hi:ae[i]? =some (tW b a)) {e:bw} {K:Bool->World->Prop} (hK: ∀w',Hp S w0 w' ae->K (a.row e).isSome w'):c90 (some ⟨b,0,none⟩) e.1 e.2 w K:=by
 obtain⟨O,h1,back⟩:=h.f1 hi rfl;clear h;obtain⟨q,aT,ht,hk,h⟩:=gf h1;refine nj h aT.qa fun w' h=>?_;have:=qu hi back (rest:= []) rfl (dT (rest:= []) (m:=a.m) aT ht hk rfl rfl h);rw [alh] at this;have:=hK w' this;rw [aT.Dl e] at this;exact this
end
open FT (cu)
theorem nL:Tryz.prog.underlying 37=some (.slice 36):=by kernel_rfl
theorem vc:Tryz.prog.underlying 71=some (.slice 75):=by kernel_rfl
theorem xT: ∃inf:TypeInfo,Tryz.prog.info? 36=some inf /\ inf.zero=some (.agg #[.int .i64 0,.slice none 0 0]) /\ inf.size=2 /\ inf.bytes=32:=fU (by kernel_rfl)
theorem CB: ∃inf:TypeInfo,Tryz.prog.info? 75=some inf /\ inf.zero=some (.agg #[.int .i64 0,.int .i64 0,.slice none 0 0]) /\ inf.size=3 /\ inf.bytes=40:=fU (by kernel_rfl)
abbrev Part:=Int×List Int
abbrev PV:=Int×Sl×List Int
abbrev ck (x:PV):List Value:= [.int .i64 x.1,.slice x.2.1.a x.2.1.len x.2.1.cap]
theorem aR (x:PV):(ck x).length=2:=rfl
def tV (x:PV):aa:=aj x.2.1 2 1 iv x.2.2
def bq (x:PV):Part:=(x.1,x.2.2)
def aN (s:Sl) (l:List Part):aa:=iA 36 2 ck tV bq s l
abbrev gF:=bw×List Part
abbrev RV:=bw×Sl×List Part
abbrev rdv (x:RV):List Value:= [.int .i64 x.1.1,.int .i64 x.1.2,.slice x.2.1.a x.2.1.len x.2.1.cap]
theorem cc (x:RV):(rdv x).length=3:=rfl
def gA (x:RV):aa:=aN x.2.1 x.2.2
def dX (x:RV):gF:=(x.1,x.2.2)
def bF (s:Sl) (l:List gF):aa:=iA 75 3 rdv gA dX s l
def cF (p:PL):Nat->List Part
 | 0=> []
 | k+1=>cF p k++match p.getD k none with
  | some v=> [(((k+1:Nat):Int),v)]
  | none=> []
def partsOf (p:PL):List Part:=cF p p.length
theorem kI (p:PL): ∀k,(cF p k).length<=k
 | 0=>by simp [cF]
 | k+1=>by
  have:=kI p k;rw [cF,alb]
  split <;> simp <;> omega
def WA.all (a:WA):List bw:=a.ar.iG a.ar.au.length
def WA.ns (a:WA) (e:bw):gF:=(e,partsOf ((a.row e).getD []))
def WA.rows (a:WA):List gF:=a.all.map a.ns
theorem getD_some {p:PL} {j:Nat} {v:List Int} (hp:p.getD j none=some v):p[j]? =some (some v):=by
 rw [alk] at hp
 cases hx:p[j]? with
 | none=>rw [hx] at hp;cases hp
 | some o=>rw [hx] at hp;simpa using hp
section
variable {S:List Nat} {w0 w:World} {ae:List aa}
set_option maxHeartbeats 2000000 in
theorem Q5 {b:Nat} {m:WM} {q:WH} {u:aa} {more:List aa} (h:Hp S w0 w (q.all b m u++more)) {row:bw->Option PL} {e:bw} {p:PL} (ht:dS (kinds q.xs) row m.aE q.bS) (hm:cY (kinds q.xs)) (hr:row e=some p) {K:Int->Int->Sl->World->Prop}
  (hK: ∀s w',Hp S w0 w' (q.all b m u++more++ [aN s (partsOf p)])->K e.1 e.2 s w'):M7 (some ⟨b,0,none⟩) e.1 e.2 w K:=by
 refine NP ?_;unfold f100;obtain⟨KI,r1,r2,r3,r4⟩:=FT.nW;obtain⟨inf,q1,q2,q3,q4⟩:=xT;have cO:(kinds q.xs).length=q.xs.length:=by simp [kinds]
 have uV:q.xs.length<=12:=by have:=hm.2.2.1;omega
 have aZ:=ht.fit e p hr;have si:p.length=q.xs.length:=by rw [aZ.1,cO]
 have zu:=fg (show p.length<=12 by omega);have q9:=ff p;have jE:m.aE e=some (aA p):=by rw [ht.aE];show (row e).map aA=_;rw [hr];rfl
 refine h.nw (c:= [_,_]) fun eb w1 h=>?_;have h:=h.up;refine h.nw (c:= [_,_,_]) fun ab w2 h=>?_;have h:=h.up;refine h.bE (k:=.i .i64) (x:=e.1) 9 rfl rfl ?_;refine h.ld (n:=1) (k:=.i .i64) (x:=e.2) 9 rfl rfl ?_;refine h.nw (c:= [_,_,_]) fun rb w3 h=>?_;have h:=h.up;refine h.gz 8 rfl (by simp) rfl fun w4 h=>?_;refine h.st (n:=1) 8 rfl (by simp) rfl fun w5 h=>?_;refine h.st (n:=2) 8 rfl (by simp) rfl fun w6 h=>?_;have h:Hp S w0 w6 (q.all b m u++(af rb 75 [.int .i64 e.1,.int .i64 e.2,.slice none 0 0] :: af ab 75 [.int .i64 0,.int .i64 0,.slice none 0 0] :: af eb 33 [.int .i64 e.1,.int .i64 e.2] :: more)):=h;refine h.dr fun w7 h=>?_;refine aS ?_;refine h.ld (n:=2) (k:=.m) (x:=some q.ms) 0 rfl rfl ?_;refine h.bE (k:=.i .i64) (x:=e.1) 10 rfl rfl ?_;refine h.ld (n:=1) (k:=.i .i64) (x:=e.2) 10 rfl rfl ?_;refine h.lu (kd:=.i .i64) (vk:=id) (z:=(0:Int)) (ek:=ct) (ev:=Value.int .i64) (g:=m.aE) (k:=e) 5 rfl rfl u5 dH r1 r2 (fun _=>rfl) ?_;rw [jE];dsimp only [id_eq];refine aS ?_;refine h.bE (k:=.sl) (x:=q.sk) 0 rfl rfl ?_;have hsk:=h.len (s:=q.sk) 2 rfl;have h:=(h.gN 36 2 ck tV bq).up;refine⟨fun t21 mm w'=> ∃(k:Nat) (s:Sl),t21=k /\ k<=p.length /\ mm=p.length - k /\ Hp S w0 w' (q.all b m u++(aN s (cF p k) :: af rb 75 [.int .i64 e.1,.int .i64 e.2,.slice s.a s.len s.cap] :: af ab 75 [.int .i64 0,.int .i64 0,.slice none 0 0] :: af eb 33 [.int .i64 e.1,.int .i64 e.2] :: more)),⟨p.length,0,⟨none,0,0⟩,rfl,by omega,rfl,h⟩,?_⟩;clear h;rintro t21 mm w8 ⟨k,s,rfl,hk,rfl,h⟩;have Q6:=h.mo (s:=s) (l:=cF p k) (e:=36) (n:=2) (cells:=ck) (sub:=tV) (vis:=bq) 8 rfl;have hpu:=kI p k;by_cases av:k < p.length
 ·refine aL (by simp;omega) ?_;rw [show i64.wrap ((k:Int)+1)=((k+1:Nat):Int) by rw [aI (by omega) (by omega)];omega];refine⟨by omega,?_⟩;have rE:=(xB (set:=aA p) (k:=k+1) q9 (by omega) (by omega)).trans (oO p k)
  cases hp:p.getD k none with
  | some v=>
   refine aL (by rw [rE,hp];rfl) ?_;refine h.dr fun w9 h=>?_;refine h.ld (n:=2) (k:=.sl) (x:=s) 9 rfl rfl ?_;refine h.bE (k:=.i .i64) (x:=e.1) 11 rfl rfl ?_;refine h.ld (n:=1) (k:=.i .i64) (x:=e.2) 11 rfl rfl ?_;refine Le h ht hm hr (getD_some hp) fun sv nK h=>?_;have h:=h.up;refine⟨h.xl (n:=2) 10 rfl rfl,?_⟩;refine h.oT 9 8 (by omega) ((((k+1:Nat):Int),sv,v):PV) rfl rfl rfl aR nL q1 q3 q2 rfl rfl (by simp [ck,Value.oneCell']) (by rw [q4];omega) (by omega) fun s' qo h dQ=>?_;have h:Hp S w0 qo (q.all b m u++ [ao]++(aN s' (cF p k++ [(((k+1:Nat):Int),v)]) :: af rb 75 [.int .i64 e.1,.int .i64 e.2,.slice s.a s.len s.cap] :: af ab 75 [.int .i64 0,.int .i64 0,.slice none 0 0] :: af eb 33 [.int .i64 e.1,.int .i64 e.2] :: more)):=h;have h:=h.cZ;refine h.st (n:=2) 9 rfl (by simp) rfl fun vB h=>?_;refine⟨p.length - (k+1),by omega,k+1,s',rfl,by omega,rfl,?_⟩;have e1:cF p (k+1)=cF p k++ [(((k+1:Nat):Int),v)]:=by rw [cF,hp]
   rw [e1];exact h
  | none=>
   refine aJ (by rw [rE,hp];decide) ?_;refine⟨p.length - (k+1),by omega,k+1,s,rfl,by omega,rfl,?_⟩;have e1:cF p (k+1)=cF p k:=by rw [cF,hp];simp
   rw [e1];exact h
 ·refine aJ (by simp;omega) ?_;obtain rfl:k=p.length:=by omega
  refine h.bE (k:=.i .i64) (x:=e.1) 9 rfl rfl ?_;refine h.ld (n:=1) (k:=.i .i64) (x:=e.2) 9 rfl rfl ?_;refine h.ld (n:=2) (k:=.sl) (x:=s) 9 rfl rfl ?_;refine h.gz 10 rfl (by simp) rfl fun w9 h=>?_;refine h.st (n:=1) 10 rfl (by simp) rfl fun nK h=>?_;refine h.st (n:=2) 10 rfl (by simp) rfl fun qo h=>?_;have h:Hp S w0 qo (q.all b m u++(aN s (partsOf p) :: ([af rb 75 [.int .i64 e.1,.int .i64 e.2,.slice s.a s.len s.cap],af ab 75 [.int .i64 e.1,.int .i64 e.2,.slice s.a s.len s.cap],af eb 33 [.int .i64 e.1,.int .i64 e.2]]++more))):=h;refine h.bE (k:=.i .i64) (x:=e.1) 10 rfl rfl ?_;refine h.ld (n:=1) (k:=.i .i64) (x:=e.2) 10 rfl rfl ?_;refine h.ld (n:=2) (k:=.sl) (x:=s) 10 rfl rfl ?_;have h:=h.down;have h:Hp S w0 qo (q.all b m u++ [af rb 75 [.int .i64 e.1,.int .i64 e.2,.slice s.a s.len s.cap],af ab 75 [.int .i64 e.1,.int .i64 e.2,.slice s.a s.len s.cap],af eb 33 [.int .i64 e.1,.int .i64 e.2]]++(more++ [aN s (partsOf p)])):=by
   simpa using h
  have h:=h.cZ;rw [<-ale] at h;exact hK s qo h
def WA.mr (a:WA) (e:bw):gF×Int:=match a.row e with
 | none=>(((0,0),[]),41)
 | some p=>((e,partsOf p),0)
set_option maxHeartbeats 2000000 in
theorem Q7 (h:Hp S w0 w ae) (i:Nat) {b:Nat} {a:WA} (hi:ae[i]? =some (tW b a)) {e:bw} {K:Int->Int->Sl->Int->World->Prop}
  (hK: ∀s w',Hp S w0 w' (ae++ [aN s (a.mr e).1.2])->K (a.mr e).1.1.1 (a.mr e).1.1.2 s (a.mr e).2 w'):c87 (some ⟨b,0,none⟩) e.1 e.2 w K:=by
 refine Uj ?_;unfold f87;obtain⟨O,h1,back⟩:=h.f1 hi rfl;clear h;obtain⟨q,aT,ht,hk,h⟩:=gf h1;refine h.nw (c:= [_,_]) fun eb w1 h=>?_;have h:=h.up;refine h.nw (c:= [_,_,_]) fun ab w2 h=>?_;have h:=h.up;refine h.dr fun w3 h=>?_;refine aS ?_;refine h.ld (n:=1) (k:=.p) (x:=some ⟨q.pb,0,none⟩) 0 rfl rfl ?_;refine h.bE (k:=.i .i64) (x:=e.1) 9 rfl rfl ?_;refine h.ld (n:=1) (k:=.i .i64) (x:=e.2) 9 rfl rfl ?_;refine FI.AB h 4 (m:=a.ar) aT.qa rfl fun w4 h=>?_;rw [<-aT.Dl e]
 cases hr:a.row e with
 | none=>
  have hg:a.mr e=(((0,0),[]),41):=by unfold WA.mr;rw [hr]
  rw [hg] at hK;refine aL rfl ?_;refine h.gz 8 rfl (by simp) rfl fun w5 h=>?_;refine h.st (n:=1) 8 rfl (by simp) rfl fun w6 h=>?_;refine h.st (n:=2) 8 rfl (by simp) rfl fun w7 h=>?_;refine h.bE (k:=.i .i64) (x:=(0:Int)) 8 rfl rfl ?_;refine h.ld (n:=1) (k:=.i .i64) (x:=(0:Int)) 8 rfl rfl ?_;refine h.ld (n:=2) (k:=.sl) (x:=(⟨none,0,0⟩:Sl)) 8 rfl rfl ?_;have h:Hp O w w7 (q.all b a.m ao++ [af ab 75 [.int .i64 0,.int .i64 0,.slice none 0 0],af eb 33 [.int .i64 e.1,.int .i64 e.2]]):=h;have h:=h.front.gN 36 2 ck tV bq;exact hK ⟨none,0,0⟩ w7 (qu hi back rfl (dT (rest:= [_]) (m:=a.m) aT ht hk rfl rfl h))
 | some p=>
  have hg:a.mr e=((e,partsOf p),0):=by unfold WA.mr;rw [hr]
  rw [hg] at hK;refine aJ (by simp) ?_;refine h.bE (k:=.i .i64) (x:=e.1) 9 rfl rfl ?_;refine h.ld (n:=1) (k:=.i .i64) (x:=e.2) 9 rfl rfl ?_;refine Q5 h (row:=a.row) (by rw [hk];exact ht) (by rw [hk];exact aT.may) hr fun s w5 h=>?_;refine h.gz 8 rfl (by simp) rfl fun w6 h=>?_;refine h.st (n:=1) 8 rfl (by simp) rfl fun w7 h=>?_;refine h.st (n:=2) 8 rfl (by simp) rfl fun w8 h=>?_;refine h.bE (k:=.i .i64) (x:=e.1) 8 rfl rfl ?_;refine h.ld (n:=1) (k:=.i .i64) (x:=e.2) 8 rfl rfl ?_;refine h.ld (n:=2) (k:=.sl) (x:=s) 8 rfl rfl ?_;have h:Hp O w w8 (q.all b a.m ao++ [af ab 75 [.int .i64 e.1,.int .i64 e.2,.slice s.a s.len s.cap],af eb 33 [.int .i64 e.1,.int .i64 e.2]]++ [aN s (partsOf p)]):=h;exact hK s w8 (qu hi back rfl (dT (rest:= [_]) (m:=a.m) aT ht hk rfl rfl h.cZ))
theorem gw {a:WA} (aT:a.Ok) {e:bw} (he:e∈a.all): ∃p,a.row e=some p:=by
 obtain⟨h1,_⟩:=FI.mh a.ar a.ar.au.length;obtain⟨_,_,h2,h3⟩:=h1 e he;have:=aT.Dl e;rw [ai.kC.2 ⟨h2,h3⟩] at this;exact amv.1 this
set_option maxHeartbeats 2000000 in
theorem Lf {b:Nat} {a:WA} {q:WH} {u:aa} {more:List aa} (h:Hp S w0 w (q.all b a.m u++more)) (aT:a.Ok) (ht:dS a.ks a.row a.m.aE q.bS) (hk:kinds q.xs=a.ks) {K:Sl->World->Prop}
  (hK: ∀s w',Hp S w0 w' (q.all b a.m u++more++ [bF s a.rows])->K s w'):VY (some ⟨b,0,none⟩) w K:=by
 refine Tt ?_;unfold f39;obtain⟨inf,q1,q2,q3,q4⟩:=CB;have ig:a.all.length<=200:=by
  have h1:=ai.kz a.ar a.ar.au.length;have h2:=aT.qa.fZ;show (a.ar.iG a.ar.au.length).length<=200;omega
 refine aS ?_;refine h.ld (n:=1) (k:=.p) (x:=some ⟨q.pb,0,none⟩) 0 rfl rfl ?_;refine FI.QT h 4 (m:=a.ar) aT.qa rfl fun r w1 h=>?_;have h:=h.up;have h:Hp S w0 w1 (q.all b a.m u++(aj r 33 2 fo a.all :: more)):=h;have eT:=h.len (s:=r) 8 rfl;have h:=(h.gN 75 3 rdv gA dX).up;refine⟨fun out t12 mm w'=> ∃k:Nat,t12=k /\ k<=a.all.length /\ mm=a.all.length - k /\ Hp S w0 w' (q.all b a.m u++(bF out ((a.all.take k).map a.ns) :: aj r 33 2 fo a.all :: more)),⟨a.all.length,0,rfl,by omega,rfl,h⟩,?_⟩;clear h;rintro out t12 mm w2 ⟨k,rfl,uX,rfl,h⟩;have Q6:=h.mo (s:=out) (l:=(a.all.take k).map a.ns) (e:=75) (n:=3) (cells:=rdv) (sub:=gA) (vis:=dX) 8 rfl;rw [alr,alv] at Q6;by_cases av:k < a.all.length
 ·refine aL (by simp;omega) ?_;have hx:a.all[k]? =some a.all[k]:=by simp [av]
  obtain⟨p,hr⟩:=gw aT (alz av);have dU:(a.all.take (k+1)).map a.ns=(a.all.take k).map a.ns++ [(a.all[k],partsOf p)]:=by
   rw [alp av,alW];show _++ [a.ns a.all[k]]=_;unfold WA.ns;rw [hr];rfl
  generalize a.all[k]=e at hx hr dU;refine h.rf (s:=r) (l:=a.all) (f:=fo) (n:=2) (e:=33) 9 rfl (by omega) (by rw [ak7];exact hx) cu fun ad hc=>?_;refine dG (k:=.i .i64) (x:=e.1) (hc 0 (by omega)) rfl ?_;refine jB (k:=.i .i64) (x:=e.2) (hc 1 (by omega)) rfl ?_;refine h.nw (c:= [_,_]) fun eb w3 h=>?_;have h:=h.up;refine h.gz 8 rfl (by simp) rfl fun w4 h=>?_;refine h.st (n:=1) 8 rfl (by simp) rfl fun w5 h=>?_;have h:Hp S w0 w5 (q.all b a.m u++(af eb 33 [.int .i64 e.1,.int .i64 e.2] :: bF out ((a.all.take k).map a.ns) :: aj r 33 2 fo a.all :: more)):=h;refine h.bE (k:=.i .i64) (x:=e.1) 8 rfl rfl ?_;refine h.ld (n:=1) (k:=.i .i64) (x:=e.2) 8 rfl rfl ?_;refine Q5 h (row:=a.row) (by rw [hk];exact ht) (by rw [hk];exact aT.may) hr fun s w6 h=>?_;have h:=h.up;refine h.oT 10 8 (by omega) ((e,s,partsOf p):RV) rfl rfl rfl cc vc q1 q3 q2 rfl rfl (by simp [rdv,Value.oneCell']) (by rw [q4];omega) (by omega) fun s' w7 h dQ=>?_;have h:Hp S w0 w7 (q.all b a.m u++ [ao,af eb 33 [.int .i64 e.1,.int .i64 e.2]]++(bF s' ((a.all.take k).map a.ns++ [(e,partsOf p)]) :: aj r 33 2 fo a.all :: more)):=h;have h:=h.cZ;refine⟨a.all.length - (k+1),by omega,k+1,by rw [aI (by omega) (by omega)];omega,by omega,rfl,?_⟩;rw [dU];exact h
 ·refine aJ (by simp;omega) ?_;rw [aln (by omega)] at h;have h:=h.down;have h:Hp S w0 w2 (q.all b a.m u++ [aj r 33 2 fo a.all]++(more++ [bF out (a.all.map a.ns)])):=by
   simpa using h
  have h:=h.cZ;rw [<-ale] at h;exact hK out w2 h
theorem Lg (h:Hp S w0 w ae) (i:Nat) {b:Nat} {a:WA} (hi:ae[i]? =some (tW b a)) {K:Sl->World->Prop}
  (hK: ∀s w',Hp S w0 w' (ae++ [bF s a.rows])->K s w'):VY (some ⟨b,0,none⟩) w K:=by
 obtain⟨O,h1,back⟩:=h.f1 hi rfl;clear h;obtain⟨q,aT,ht,hk,h⟩:=gf h1;refine Lf h aT ht hk fun s w' h=>?_;have h:Hp O w w' (q.all b a.m ao++ [bF s a.rows]):=h;exact hK s w' (qu hi back rfl (dT (rest:= [_]) (m:=a.m) aT ht hk rfl rfl h))
end
def aY (ks:KD):List Part->PL->PL×Int
 | [],p=>(p,0)
 | x :: ps,p=>match fl ks x.1 with
  | none=>(p,60)
  | some n=>if (p.getD (x.1 - 1).toNat none).isSome=true then (p,61) else if x.2.length≠n then (p,63) else aY ks ps (p.set (x.1 - 1).toNat (some x.2))
def WA.emp (a:WA):PL:=List.replicate a.ks.length none
def WA.spawn (a:WA) (ps:List Part):WA×bw×Int:=
 if (aY a.ks ps a.emp).2≠0 then (a,(0,0),(aY a.ks ps a.emp).2) else
 if a.ar.bG.2.2≠0 then (a,(0,0),a.ar.bG.2.2) else (⟨a.ks,a.ar.bG.1,aG a.row a.ar.bG.2.1 (some (aY a.ks ps a.emp).1)⟩,a.ar.bG.2.1,0)
theorem oV {m:ai} (hm:m.Ok):(m.bG.2.2≠0->m.bG=(m,(0,0),40)) /\ (m.bG.2.2=0->m.bG.1.Ok /\ m.is m.bG.2.1.1 m.bG.2.1.2=false /\ ∀x:bw,m.bG.1.is x.1 x.2=if x=m.bG.2.1 then true else m.is x.1 x.2):=by
 have PH: ∀(q:ai) (x:bw),x.1 < 0->q.is x.1 x.2=false:=fun q x hx=>by
  unfold ai.is ai.bD;rw [decide_eq_false (by omega)];rfl
 unfold ai.bG
 cases hf:m.free with
 | cons i rest=>
  dsimp only;refine⟨fun h=>absurd rfl h,fun _=>⟨hm.cS hf,?_,fun x=>?_⟩⟩
  ·obtain⟨a1,a2,a3,a4⟩:=hm.free i (by rw [hf];simp);unfold ai.is;rw [a3];rfl
  ·obtain⟨a1,a2,a3,a4⟩:=hm.free i (by rw [hf];simp);have hl:=hm.len;by_cases MH:x.1 < 0
   ·rw [PH _ x MH,PH _ x MH,if_neg (fun e=>by rw [e] at MH;dsimp only at MH;omega)]
   ·unfold ai.is;rw [ai.kB m a1 (by omega),ai.nk m a1 (by omega) (by omega)];by_cases hx:x.1=i
    ·rw [if_pos hx,if_pos hx,hx,a3];by_cases qp:x=(i,m.gen i+1)
     ·rw [if_pos qp,qp];simp
     ·rw [if_neg qp];have:m.gen i+1≠x.2:=fun e=>qp (amz hx e.symm);simp [this]
    ·rw [if_neg hx,if_neg hx,if_neg (fun e=>hx (by rw [e]))]
 | nil=>
  by_cases hl:(m.au.length:Int) < m.aO
  ·simp only [if_pos hl];refine⟨fun h=>absurd rfl h,fun _=>⟨hm.dy hf hl,?_,fun x=>?_⟩⟩
   ·unfold ai.is ai.bD;have:=hm.len;rw [alk,alE (by simp;omega)];simp
   ·have hl:=hm.len;have YB:m.bD (m.au.length:Int)=false:=by
     unfold ai.bD;rw [alk,alE (by simp;omega)];simp
    by_cases MH:x.1 < 0
    ·rw [PH _ x MH,PH _ x MH,if_neg (fun e=>by rw [e] at MH;dsimp only at MH;omega)]
    ·unfold ai.is;rw [ai.qn m hl,ai.uZ m (by omega)];by_cases hx:x.1=m.au.length
     ·rw [if_pos hx,if_pos hx,hx,YB];by_cases qp:x=((m.au.length:Int),1)
      ·rw [if_pos qp,qp];simp
      ·rw [if_neg qp];have:(1:Int)≠x.2:=fun e=>qp (amz hx e.symm);simp [this]
     ·rw [if_neg hx,if_neg hx,if_neg (fun e=>hx (by rw [e]))]
  ·simp only [if_neg hl];exact⟨fun _=>trivial,fun h=>absurd h (by decide)⟩
theorem su {ks:KD}: ∀(ps:List Part) {p:PL},p.fit ks->(PL.fit ks (aY ks ps p).1)
 | [],p,h=>h
 | x :: ps,p,h=>by
  unfold aY
  cases hf:fl ks x.1 with
  | none=>exact h
  | some n=>
   dsimp only
   split
   ·exact h
   ·split
    ·exact h
    ·rename_i hn
     obtain⟨i,k,Ih,hk,zr⟩:=xS hf;have e:(x.1 - 1).toNat=i:=by omega
     rw [e];exact su ps (h.set hk (by rw [zr];simpa using hn))
theorem sw {ks:KD}: ∀(ps:List Part) {p:PL},(∀x∈ps,FP.eW x.2)->FP.eW (flat p)->FP.eW (flat (aY ks ps p).1)
 | [],p,_,h=>h
 | x :: ps,p,hp,h=>by
  unfold aY
  cases hf:fl ks x.1 with
  | none=>exact h
  | some n=>
   dsimp only
   split
   ·exact h
   ·split
    ·exact h
    ·exact sw ps (fun y hy=>hp y (amZ _ hy)) (mq h _ (hp x (by simp)))
theorem WA.xU {a:WA} (h:a.Ok) (ps:List Part) (ER: ∀x∈ps,FP.eW x.2):(a.spawn ps).1.Ok:=by
 unfold WA.spawn
 split
 ·exact h
 ·split
  ·exact h
  ·rename_i ht
   obtain⟨t1,t2,t3⟩:=(oV h.qa).2 (by simpa using ht);refine⟨(FI.Cn h.EP).1,(FI.Cn h.EP).2.trans h.aO,h.may,fun x=>?_,fun x p hx=>?_⟩
   ·show (aG a.row a.ar.bG.2.1 _ x).isSome=_;rw [t3 x];unfold aG
    split
    ·rfl
    ·exact h.Dl x
   ·have hx:aG a.row a.ar.bG.2.1 _ x=some p:=hx;unfold aG at hx
    split at hx
    ·obtain rfl:=alm hx;exact sw ps ER (by unfold WA.emp;rw [xF];intro x hx;cases hx)
    ·exact h.Gf x p hx
theorem ub {a:WA} (h:a.Ok) (ht:a.ar.bG.2.2=0):a.row a.ar.bG.2.1=none /\ ∀L:List bw,L.Nodup->(∀x∈L,(a.row x).isSome=true)->L.length < 200:=by
 obtain⟨t1,t2,t3⟩:=(oV h.qa).2 ht;have aW:a.row a.ar.bG.2.1=none:=by
  have:=h.Dl a.ar.bG.2.1;rw [t2] at this
  cases hr:a.row a.ar.bG.2.1 with
  | none=>rfl
  | some p=>rw [hr] at this;cases this
 refine⟨aW,fun L bJ hL=>?_⟩;have:=xO t1 (L:=a.ar.bG.2.1 :: L) (by
  rw [al6];exact⟨fun hm=>(by have:=hL _ hm;rw [aW] at this;cases this),bJ⟩) (fun x hx=>by
  rw [t3 x]
  split
  ·rfl
  ·rcases alF.1 hx with rfl | hx
   ·rename_i h;exact absurd rfl h
   ·rw [<-h.Dl x];exact hL x hx)
 simp only [alQ] at this;omega
section
variable {S:List Nat} {w0 w:World} {ae:List aa}
theorem kJ {b:Nat} {m:WM} {q:WH} {u v:aa} {more:List aa} (h:Hp S w0 w (q.all b m u++(v :: more))):Hp S w0 w (q.all b m v++(u :: more)):=by
 have h:Hp S w0 w ([q.ra b]++(u :: q.rest m)++ [v]++more):=by simpa [WH.all,WH.rest] using h
 have h:=h.ME;have h:Hp S w0 w ([q.ra b,v]++ [u]++q.rest m++more):=by simpa using h
 have h:=h.ME
 simpa [WH.all,WH.rest] using h
theorem qT {b:Nat} {a:WA} {m:WM} {q:WH} {u:aa} {B:List aa} {s:Sl} {xs:List PV} (aT:a.Ok) (ht:dS a.ks a.row a.m.aE q.bS) (hk:kinds q.xs=a.ks) (hp:m.ar=a.ar) (hs:m.aE=a.m.aE)
  (h:Hp S w0 w (q.all b m u++B++ [aj s 36 2 ck xs,ak (xs.map tV)])):Hp S w0 w [tW b a,aN s (xs.map bq)]:=by
 have h:=dT (rest:= [_,_]) aT ht hk hp hs h.cZ;have h:=h.dv (i:=1) (j:=2) (e:=36) (n:=2) (cells:=ck) (sub:=tV) (vis:=bq) (s:=s) (xs:=xs) (l:=xs.map bq) (by decide) rfl rfl rfl;have h:Hp S w0 w ([tW b a,aN s (xs.map bq)]++ [ao]):=h;exact h.front
set_option maxHeartbeats 4000000 in
theorem Gh (h:Hp S w0 w ae) (i j:Nat) (iZ:i≠j) {b:Nat} {a:WA} {s:Sl} {ps:List Part} (hi:ae[i]? =some (tW b a)) (hj:ae[j]? =some (aN s ps)) (ER: ∀x∈ps,-9223372036854775808<=x.1 /\ x.1<=9223372036854775807) (kU: ∀x∈ps,FP.eW x.2) (si:ps.length<=1000000) {K:Int->Int->Int->World->Prop}
  (hK: ∀w',Hp S w0 w' (ae.set i (tW b (a.spawn ps).1))->K (a.spawn ps).2.1.1 (a.spawn ps).2.1.2 (a.spawn ps).2.2 w'):VU (some ⟨b,0,none⟩) s w K:=by
 refine Jo ?_;unfold f15;obtain⟨O,h1,back⟩:=h.f2 iZ hi hj rfl rfl;clear h;obtain⟨q,aT,ht,hk,h⟩:=gf h1;obtain⟨xs,fx,h⟩:=h.du (i:=8) rfl;have iB:=WA.xU aT ps kU;have h:Hp O w w (q.all b a.m ao++ [aj s 36 2 ck xs,ak (xs.map tV)]):=h;have cO:(kinds q.xs).length=q.xs.length:=by simp [kinds]
 have ig:=aT.len;have uV:q.xs.length<=12:=by rw [hk] at cO;omega
 have mJ:=aT.four;have h4: ∀x∈q.xs,x.2.2.length<=4:=fun x hx=>mJ (x.1,x.2.2) (by rw [<-hk];exact alu.2 ⟨x,hx,rfl⟩);have ja:xs.length=ps.length:=by rw [<-fx,alr]
 have fin: ∀{w':World} {a':WA},Hp O w w' [tW b a',aN s (xs.map bq)]->Hp S w0 w' (ae.set i (tW b a')):=fun{w' a'} h=>by
  rw [fx] at h;have:=back (rest:= []) rfl rfl rfl h;rw [alh] at this;have e:(ae.set i (tW b a')).set j (aN s ps)=ae.set i (tW b a'):=Hp.bN (by rw [alC iZ];exact hj)
  rwa [e] at this
 have fB:=h.len (s:=s) 8 rfl;refine h.nw (c:= [_,_]) fun ab w1 h=>?_;have h:=h.up;have h:=(h.nil 2 1 iv).up;refine⟨fun sset values t16 mm w'=> ∃(k:Nat) (p:PL),sset=aA p /\ t16=k /\ k<=xs.length /\ mm=xs.length - k /\ p.fit a.ks /\ aY a.ks (ps.drop k) p=aY a.ks ps a.emp /\ Hp O w w' (q.all b a.m ao++ [aj values 2 1 iv (flat p),af ab 33 [.int .i64 0,.int .i64 0]]++ [aj s 36 2 ck xs,ak (xs.map tV)]),⟨xs.length,0,a.emp,by unfold WA.emp;rw [Cj],rfl,by omega,rfl,vZ _,rfl,by unfold WA.emp;rw [xF];exact h⟩,?_⟩;clear h;rintro sset values t16 mm w2 ⟨k,p,rfl,rfl,uX,rfl,aZ,dM,h⟩;have zu:=fg (show p.length<=12 by rw [aZ.1];omega);have q9:=ff p;by_cases av:k < xs.length
 ·refine aL (by simp;omega) ?_;have hx:xs[k]? =some xs[k]:=by simp [av]
  have wE:ps[k]? =some (bq xs[k]):=by rw [<-fx,alc,hx];rfl
  generalize xs[k]=x at hx wE;obtain⟨kd,sv,v⟩:=x;have wE:ps[k]? =some (kd,v):=wE;have vD:=ER _ (ala wE);dsimp only at vD;have Cf:ps.drop k=(kd,v) :: ps.drop (k+1):=by
   have hl:=(ak6.1 wE).1;have he:=(ak6.1 wE).2;rw [<-he];exact al0 hl
  rw [Cf] at dM;refine h.rf (s:=s) (l:=xs) (f:=ck) (n:=2) (e:=36) 10 rfl (by omega) (by rw [ak7];exact hx) aR fun ad hc=>?_;refine dG (k:=.i .i64) (x:=kd) (hc 0 (by omega)) rfl ?_;refine jB (k:=.sl) (x:=sv) (hc 1 (by omega)) rfl ?_;refine h.nw (c:= [_,_]) fun pb w3 h=>?_;have h:Hp O w w3 (q.all b a.m ao++ [aj values 2 1 iv (flat p),af ab 33 [.int .i64 0,.int .i64 0],aj s 36 2 ck xs,ak (xs.map tV)]++ [af pb 36 [.int .i64 0,.slice none 0 0]]):=h;have h:=h.up;refine h.gz 8 rfl (by simp) rfl fun w4 h=>?_;refine h.st (n:=1) 8 rfl (by simp) rfl fun w5 h=>?_;have h:Hp O w w5 (q.all b a.m ao++ [af pb 36 [.int .i64 kd,.slice sv.a sv.len sv.cap],aj values 2 1 iv (flat p),af ab 33 [.int .i64 0,.int .i64 0]]++ [aj s 36 2 ck xs,ak (xs.map tV)]):=h
  -- a refusal
  have bad: ∀{w6:World} {err:Int},err≠0->(aY a.ks ps a.emp).2=err->Hp O w w6 (q.all b a.m ao++ [af pb 36 [.int .i64 kd,.slice sv.a sv.len sv.cap],aj values 2 1 iv (flat p),af ab 33 [.int .i64 0,.int .i64 0]]++ [aj s 36 2 ck xs,ak (xs.map tV)])->
    (St ⟨ab,0,none⟩ (.int .i64 0) w6 fun w=>St ((⟨ab,0,none⟩:Addr).add 1) (.int .i64 0) w fun w=>Ld (.i .i64) w ⟨ab,0,none⟩ fun(cT:Int)=>Ld (.i .i64) w ((⟨ab,0,none⟩:Addr).add 1) fun(fG:Int)=>K cT fG err w):=by
   intro w6 err aW Q8 h;refine h.gz 10 rfl (by simp) rfl fun w7 h=>?_;refine h.st (n:=1) 10 rfl (by simp) rfl fun w8 h=>?_;refine h.bE (k:=.i .i64) (x:=(0:Int)) 10 rfl rfl ?_;refine h.ld (n:=1) (k:=.i .i64) (x:=(0:Int)) 10 rfl rfl ?_;have AN:a.spawn ps=(a,(0,0),err):=by unfold WA.spawn;rw [if_pos (by rw [Q8];exact aW),Q8]
   rw [AN] at hK;have h:Hp O w w8 (q.all b a.m ao++ [af pb 36 [.int .i64 kd,.slice sv.a sv.len sv.cap],aj values 2 1 iv (flat p),af ab 33 [.int .i64 0,.int .i64 0]]++ [aj s 36 2 ck xs,ak (xs.map tV)]):=h;exact hK w8 (fin (qT aT ht hk rfl rfl h))
  refine h.bE (k:=.i .i64) (x:=kd) 8 rfl rfl ?_;refine lv h 0 2 3 (cells:= [_,_,_]) rfl rfl rfl (by omega) vD.1 vD.2 ?_;rw [hk]
  cases hf:fl a.ks kd with
  | none=>
   dsimp only;refine aL rfl (bad (by decide) ?_ h);rw [<-dM];unfold aY;dsimp only;rw [hf]
  | some n=>
   dsimp only;refine aJ (by simp) ?_;refine h.bE (k:=.i .i64) (x:=kd) 8 rfl rfl ?_;obtain⟨r,kk,rfl,nt,zr⟩:=xS hf;have eT:r < p.length:=by rw [aZ.1];exact(ak6.1 nt).1
   have qb:p.length<=12:=by rw [aZ.1];omega
   have er:((((r+1:Nat):Int)) - 1).toNat=r:=by omega
   have rE:=(xB (set:=aA p) (k:=r+1) q9 (by omega) (by omega)).trans (oO p r);refine⟨by omega,?_⟩;by_cases hh:(p.getD r none).isSome=true
   ·refine aL (by rw [rE,hh];rfl) (bad (by decide) ?_ h);rw [<-dM];unfold aY;dsimp only;rw [hf];dsimp only;rw [er,if_pos hh]
   ·refine aJ (by rw [rE,if_neg hh];decide) ?_;refine h.ld (n:=1) (k:=.sl) (x:=sv) 8 rfl rfl ?_;have gJ:v.length=sv.len:=by
     have:=h.kY (i:=12) rfl;obtain⟨O',gD⟩:=this;obtain⟨O1,O2,g1,_⟩:=dk (k:=k) (t:=tV (((r+1:Nat):Int),sv,v)) (by rw [alc,hx];rfl) gD;exact g1.1
    by_cases hn:v.length=n
    ·refine aJ (by simp;omega) ?_;refine h.dr fun w6 h=>?_;refine h.bE (k:=.i .i64) (x:=((r+1:Nat):Int)) 8 rfl rfl ?_;refine h.ld (n:=1) (k:=.sl) (x:=sv) 8 rfl rfl ?_;refine jQ h 0 2 3 (cells:= [_,_,_]) rfl rfl rfl uV h4 q9 (by omega) (q:=r) (by rw [aZ.1,<-hk,cO] at eT;omega) ?_;refine⟨h.xl (n:=1) 8 rfl rfl,?_⟩;rw [hk];have dz:p.getD r none=none:=by simpa using hh
     have uR:=aZ.at (q:=r) (by omega);have YC:=fD mJ (aA p) r;have bz:=aZ.all;have Gi:=fD mJ (aA p) a.ks.length;have Gg:=mJ _ (ala nt);have hle:gd a.ks (aA p) r<=(flat p).length:=by
      have kU:p[r]? =some none:=by
       have:p[r]? =some p[r]:=by simp [eT]
       rw [this];rw [alk,this] at dz;simpa using dz
      rw [uR,dI kU];simp
     have h:=h.pick (i:=12) (k:=k) (t:=tV (((r+1:Nat):Int),sv,v)) rfl (by rw [alc,hx];rfl) rfl;refine uT h 9 13 (by decide) (s:=values) (v:=sv) (l:=flat p) (xs:=v) rfl rfl hle (by omega) fun s' w7 h=>?_;rw [<-aZ.ins eT dz v] at h;have HC:k < (xs.map tV).length:=by simpa using av
     have h:=h.iT (i:=12) (j:=13) (k:=k) (ts:=(xs.map tV).set k ao) (t:=tV (((r+1:Nat):Int),sv,v)) (by decide) rfl rfl (by rw [alx HC]) rfl;rw [al2] at h;have eb:(xs.map tV).set k (tV (((r+1:Nat):Int),sv,v))=xs.map tV:=Hp.bN (by rw [alc,hx];rfl);rw [eb] at h;have h:Hp O w w7 (q.all b a.m ao++ [af pb 36 [.int .i64 ((r+1:Nat):Int),.slice sv.a sv.len sv.cap],aj s' 2 1 iv (flat (p.set r (some v))),af ab 33 [.int .i64 0,.int .i64 0],aj s 36 2 ck xs,ak (xs.map tV)]++ [ao]):=h;have h:=h.front;refine h.bE (k:=.i .i64) (x:=((r+1:Nat):Int)) 8 rfl rfl ?_;refine⟨by omega,xs.length - (k+1),by omega,k+1,p.set r (some v),sb qb eT v,by rw [aI (by omega) (by omega)];omega,by omega,rfl,aZ.set nt (by rw [zr];exact hn),?_,?_⟩
     ·rw [<-dM]
      conv=>rhs;unfold aY
      dsimp only;rw [hf];dsimp only;rw [er,if_neg hh,if_neg (by simpa using hn)]
     ·have h:Hp O w w7 (q.all b a.m ao++ [af pb 36 [.int .i64 ((r+1:Nat):Int),.slice sv.a sv.len sv.cap]]++ [aj s' 2 1 iv (flat (p.set r (some v))),af ab 33 [.int .i64 0,.int .i64 0],aj s 36 2 ck xs,ak (xs.map tV)]):=h;exact h.cZ
    ·refine aL (by simp;omega) (bad (by decide) ?_ h);rw [<-dM];unfold aY;dsimp only;rw [hf];dsimp only;rw [er,if_neg hh,if_pos hn]
 ·refine aJ (by simp;omega) ?_;have dM:(p,(0:Int))=aY a.ks ps a.emp:=by
   rw [amb (by omega)] at dM;exact dM
  refine aS ?_;refine h.ld (n:=1) (k:=.p) (x:=some ⟨q.pb,0,none⟩) 0 rfl rfl ?_;refine FI.KF h 4 (m:=a.ar) aT.qa rfl fun w3 h=>?_;have h:Hp O w w3 (q.all b { a.m with ar:=a.ar.bG.1} ao++ [aj values 2 1 iv (flat p),af ab 33 [.int .i64 0,.int .i64 0],aj s 36 2 ck xs,ak (xs.map tV)]):=h;have Lh:(aY a.ks ps a.emp).2=0:=by rw [<-dM]
  have Li:(aY a.ks ps a.emp).1=p:=by rw [<-dM]
  refine h.nw (c:= [_,_]) fun eb w4 h=>?_;have h:=h.up;refine h.gz 8 rfl (by simp) rfl fun w5 h=>?_;refine h.st (n:=1) 8 rfl (by simp) rfl fun w6 h=>?_;have AN:a.spawn ps=if a.ar.bG.2.2≠0 then (a,(0,0),a.ar.bG.2.2) else (⟨a.ks,a.ar.bG.1,aG a.row a.ar.bG.2.1 (some p)⟩,a.ar.bG.2.1,0):=by
   unfold WA.spawn;rw [if_neg (by rw [Lh];simp),Li]
  by_cases hb:a.ar.bG.2.2=0
  ·rw [if_neg (by simpa using hb)] at AN;rw [AN] at hK iB;dsimp only at hK iB;obtain⟨Lj,Lk⟩:=ub aT hb;generalize a.ar.bG.2.1=e at hK Lj iB h ⊢;generalize a.ar.bG.1=nM at hK iB h ⊢;refine aJ (by rw [hb];simp) ?_;have h:Hp O w w6 (q.all b { a.m with ar:=nM} ao++ [af eb 33 [.int .i64 e.1,.int .i64 e.2]]++ [aj values 2 1 iv (flat p)]++ [af ab 33 [.int .i64 0,.int .i64 0],aj s 36 2 ck xs,ak (xs.map tV)]):=h;have h:=h.ME;refine h.bE (k:=.i .i64) (x:=e.1) 9 rfl rfl ?_;refine h.ld (n:=1) (k:=.i .i64) (x:=e.2) 9 rfl rfl ?_;have h:Hp O w w6 (q.all b { a.m with ar:=nM} ao++(aj values 2 1 iv (flat p) :: [af eb 33 [.int .i64 e.1,.int .i64 e.2],af ab 33 [.int .i64 0,.int .i64 0],aj s 36 2 ck xs,ak (xs.map tV)])):=h;have h:=kJ h;refine pS h (row:=a.row) (e:=e) (p:=p) (by rw [hk];exact ht) (by rw [hk];exact aT.may) Lj (by rw [hk];exact aZ) Lk Hp.bZ fun T' w7 BM h=>?_;refine h.bE (k:=.i .i64) (x:=e.1) 9 rfl rfl ?_;refine h.ld (n:=1) (k:=.i .i64) (x:=e.2) 9 rfl rfl ?_;refine h.gz 10 rfl (by simp) rfl fun w8 h=>?_;refine h.st (n:=1) 10 rfl (by simp) rfl fun w9 h=>?_;refine h.bE (k:=.i .i64) (x:=e.1) 10 rfl rfl ?_;refine h.ld (n:=1) (k:=.i .i64) (x:=e.2) 10 rfl rfl ?_;refine hK w9 (fin ?_);refine qT (B:= [ao,af eb 33 [.int .i64 e.1,.int .i64 e.2],af ab 33 [.int .i64 e.1,.int .i64 e.2]]) (m:={ a.m with ar:=nM,aE:=aG a.m.aE e (some (aA p))}) (q:={ q with T:=T'}) (u:=aj values 2 1 iv (flat p)) iB ?_ hk rfl ?_ h
   ·show dS a.ks (aG a.row e (some p)) (fun x=>(aG a.row e (some p) x).map aA) _;rw [eX,<-hk];exact BM
   ·exact(eX a.row e (some p)).symm
  ·rw [if_pos hb] at AN;have dU:=(oV aT.qa).1 hb;rw [AN] at hK;rw [dU] at hK h ⊢;refine aL (by simp) ?_;refine h.gz 10 rfl (by simp) rfl fun w8 h=>?_;refine h.st (n:=1) 10 rfl (by simp) rfl fun w9 h=>?_;refine h.bE (k:=.i .i64) (x:=(0:Int)) 10 rfl rfl ?_;refine h.ld (n:=1) (k:=.i .i64) (x:=(0:Int)) 10 rfl rfl ?_;have h:Hp O w w9 (q.all b a.m ao++ [af eb 33 [.int .i64 0,.int .i64 0],aj values 2 1 iv (flat p),af ab 33 [.int .i64 0,.int .i64 0]]++ [aj s 36 2 ck xs,ak (xs.map tV)]):=h;exact hK w9 (fin (qT aT ht hk rfl rfl h))
end
def WA.put (a:WA) (e:bw) (p:PL):WA:=⟨a.ks,a.ar,aG a.row e (some p)⟩
def WA.ask (a:WA) (e:bw) (kind:Int):(PL×Nat×Nat)×Int:=match a.row e with
 | none=>(([],0,0),41)
 | some p=>match fl a.ks kind with
  | none=>(([],0,0),60)
  | some n=>((p,(kind - 1).toNat,n),0)
def WA.add (a:WA) (e:bw) (x:Part):WA×Int:=
 if (a.ask e x.1).2≠0 then (a,(a.ask e x.1).2) else
 if ((a.ask e x.1).1.1.getD (a.ask e x.1).1.2.1 none).isSome=true then (a,61) else
 if x.2.length≠(a.ask e x.1).1.2.2 then (a,63) else (a.put e ((a.ask e x.1).1.1.set (a.ask e x.1).1.2.1 (some x.2)),0)
theorem kK {a:WA} {e:bw} {kind:Int} (h:a.row e=none):a.ask e kind=(([],0,0),41):=by unfold WA.ask;rw [h]
theorem kL {a:WA} {e:bw} {kind:Int} {p:PL} (h:a.row e=some p) (hf:fl a.ks kind=none):a.ask e kind=(([],0,0),60):=by
 unfold WA.ask;rw [h];dsimp only;rw [hf]
theorem mu {a:WA} {e:bw} {p:PL} {i:Nat} {k:ByteArray×List ByteArray} (h:a.row e=some p) (hk:a.ks[i]? =some k):a.ask e ((i+1:Nat):Int)=((p,i,k.2.length),0):=by
 have dh:fl a.ks ((i+1:Nat):Int)=some k.2.length:=by
  unfold fl;rw [if_pos (by omega),show (((i+1:Nat):Int) - 1).toNat=i by omega,hk];rfl
 unfold WA.ask;rw [h];dsimp only;rw [dh,show (((i+1:Nat):Int) - 1).toNat=i by omega]
theorem WA.xW {a:WA} (h:a.Ok) {e:bw} (he:(a.row e).isSome=true) {p:PL} (hp:FP.eW (flat p)):(a.put e p).Ok:=by
 refine⟨h.EP,h.aO,h.may,fun x=>?_,fun x p' hx=>?_⟩
 ·show (aG a.row e (some p) x).isSome=a.ar.is x.1 x.2;rw [<-h.Dl x];unfold aG
  split
  ·rename_i hx;rw [hx,he];rfl
  ·rfl
 ·have hx:aG a.row e (some p) x=some p':=hx;unfold aG at hx
  split at hx
  ·obtain rfl:=alm hx;exact hp
  ·exact h.Gf x p' hx
theorem AO (row:bw->Option PL) (e:bw) (o o':Option PL):aG (aG row e o) e o'=aG row e o':=by
 funext x
 unfold aG
 split <;> rfl
theorem mv (aE:bw->Option Int) (e:bw) (o o':Option Int):aG (aG aE e o) e o'=aG aE e o':=by
 funext x
 unfold aG
 split <;> rfl
theorem xX {a:WA} (h:a.Ok) {e:bw} (he:(a.row e).isSome=true): ∀L:List bw,L.Nodup->(∀x∈L,(aG a.row e none x).isSome=true)->L.length < 200:=by
 intro L bJ hL;have vC: ∀x∈L,x≠e /\ (a.row x).isSome=true:=fun x hx=>by
  have:=hL x hx;unfold aG at this
  split at this
  ·cases this
  ·rename_i aW;exact⟨aW,this⟩
 have:=xO h.qa (L:=e :: L) (by
  rw [al6];exact⟨fun hm=>(vC e hm).1 rfl,bJ⟩) (fun x hx=>by
  rw [<-h.Dl x]
  rcases alF.1 hx with rfl | hx
  ·exact he
  ·exact(vC x hx).2)
 simp only [alQ] at this;omega
section
variable {S:List Nat} {w0 w:World} {ae:List aa}
set_option maxHeartbeats 4000000 in
theorem Q9 (h:Hp S w0 w ae) (i j:Nat) (iZ:i≠j) {b:Nat} {a:WA} {e:bw} {kind:Int} {sv:Sl} {v:List Int} (hi:ae[i]? =some (tW b a)) (hj:ae[j]? =some (aj sv 2 1 iv v)) (k1: -9223372036854775808<=kind) (k2:kind<=9223372036854775807) (qv:FP.eW v) {K:Int->World->Prop}
  (hK: ∀w',Hp S w0 w' (ae.set i (tW b (a.add e (kind,v)).1))->K (a.add e (kind,v)).2 w'):VV (some ⟨b,0,none⟩) e.1 e.2 kind sv w K:=by
 refine Jp ?_;unfold f16;obtain⟨O,h1,back⟩:=h.f2 iZ hi hj rfl rfl;clear h;obtain⟨q,aT,ht,hk,h⟩:=gf h1;have cO:(kinds q.xs).length=q.xs.length:=by simp [kinds]
 have ig:=aT.len;have uV:q.xs.length<=12:=by rw [hk] at cO;omega
 have mJ:=aT.four;have h4: ∀x∈q.xs,x.2.2.length<=4:=fun x hx=>mJ (x.1,x.2.2) (by rw [<-hk];exact alu.2 ⟨x,hx,rfl⟩);have fin: ∀{w':World} {a':WA},Hp O w w' [tW b a',aj sv 2 1 iv v]->Hp S w0 w' (ae.set i (tW b a')):=fun{w' a'} h=>by
  have:=back (rest:= []) rfl rfl rfl h;rw [alh] at this;have e:(ae.set i (tW b a')).set j (aj sv 2 1 iv v)=ae.set i (tW b a'):=Hp.bN (by rw [alC iZ];exact hj)
  rwa [e] at this
 have gJ:=h.len (s:=sv) 8 rfl;refine h.nw (c:= [_,_]) fun eb w1 h=>?_;have h:=h.up;refine h.nw (c:= [_,_]) fun pb w2 h=>?_;have h:=h.up;refine h.bE (k:=.i .i64) (x:=e.1) 9 rfl rfl ?_;refine h.ld (n:=1) (k:=.i .i64) (x:=e.2) 9 rfl rfl ?_;refine h.bE (k:=.i .i64) (x:=kind) 8 rfl rfl ?_;have same: ∀{w3:World},Hp O w w3 (q.all b a.m ao++(af pb 36 [.int .i64 kind,.slice sv.a sv.len sv.cap] :: af eb 33 [.int .i64 e.1,.int .i64 e.2] :: [aj sv 2 1 iv v]))->Hp S w0 w3 (ae.set i (tW b a)):=fun{w3} h=>by
  have h:Hp O w w3 (q.all b a.m ao++ [af pb 36 [.int .i64 kind,.slice sv.a sv.len sv.cap],af eb 33 [.int .i64 e.1,.int .i64 e.2]]++ [aj sv 2 1 iv v]):=h;exact fin (dT (rest:= [_]) aT ht hk rfl rfl h.cZ)
 refine sr h aT ht hk k1 k2 fun w3 h=>⟨fun hr=>?_,fun p hr hf=>?_,fun p r k hr oU nt=>?_⟩
 ·have hg:a.add e (kind,v)=(a,41):=by unfold WA.add;rw [kK hr,if_pos (by decide)]
  rw [hg] at hK;exact aL rfl (hK w3 (same h))
 ·have hg:a.add e (kind,v)=(a,60):=by unfold WA.add;rw [kL hr hf,if_pos (by decide)]
  rw [hg] at hK;exact aL rfl (hK w3 (same h))
 ·subst oU;have kM:=mu (a:=a) (e:=e) hr nt;refine aJ (by simp) ?_;have aZ:=ht.fit e p hr;have eT:r < p.length:=by rw [aZ.1];exact(ak6.1 nt).1
  have qb:p.length<=12:=by rw [aZ.1];omega
  have zu:=fg qb;have q9:=ff p;by_cases hh:(p.getD r none).isSome=true
  ·have hg:a.add e (((r+1:Nat):Int),v)=(a,61):=by unfold WA.add;dsimp only;rw [kM,if_neg (by simp),if_pos hh]
   rw [hg] at hK;exact aL hh (hK w3 (same h))
  ·refine aJ hh ?_;refine h.ld (n:=1) (k:=.sl) (x:=sv) 8 rfl rfl ?_;by_cases hn:v.length=k.2.length
   ·refine aJ (by simp;omega) ?_;have hg:a.add e (((r+1:Nat):Int),v)=(a.put e (p.set r (some v)),0):=by
     unfold WA.add;dsimp only;rw [kM,if_neg (by simp),if_neg hh,if_neg (by simpa using hn)]
    rw [hg] at hK;have sW:(a.row e).isSome=true:=by rw [hr];rfl
    have iB:=WA.xW aT sW (mq (aT.Gf e p hr) r qv);refine h.dr fun w4 h=>?_;refine h.bE (k:=.i .i64) (x:=e.1) 9 rfl rfl ?_;refine h.ld (n:=1) (k:=.i .i64) (x:=e.2) 9 rfl rfl ?_;refine h.bE (k:=.i .i64) (x:=((r+1:Nat):Int)) 8 rfl rfl ?_;refine h.ld (n:=1) (k:=.sl) (x:=sv) 8 rfl rfl ?_;refine v7 h (row:=a.row) (p:=p) (by rw [hk];exact ht) hr fun s T' w5 BM h=>?_;have h:=h.up;refine⟨h.xl (n:=1) 9 rfl rfl,h.vw 9 rfl rfl,?_⟩;refine jQ h 0 2 3 (cells:= [_,_,_]) rfl rfl rfl uV h4 q9 (by omega) (q:=r) (by show r<=q.xs.length;rw [aZ.1,<-hk,cO] at eT;omega) ?_;refine⟨h.xl (n:=1) 9 rfl rfl,?_⟩;show R4 _ ((gd (kinds q.xs) (aA p) r:Nat):Int) _ _ _;rw [hk];have dz:p.getD r none=none:=by simpa using hh
    have uR:=aZ.at (q:=r) (by omega);have bz:=aZ.all;have Gi:=fD mJ (aA p) a.ks.length;have Gg:=mJ _ (ala nt);have hle:gd a.ks (aA p) r<=(flat p).length:=by
     have kU:p[r]? =some none:=by
      have:p[r]? =some p[r]:=by simp [eT]
      rw [this];rw [alk,this] at dz;simpa using dz
     rw [uR,dI kU];simp
    refine uT h 8 11 (by decide) (s:=s) (v:=sv) (l:=flat p) (xs:=v) rfl rfl hle (by omega) fun s' w6 h=>?_;rw [<-aZ.ins eT dz v] at h;refine h.dr fun w7 h=>?_;refine h.bE (k:=.i .i64) (x:=e.1) 10 rfl rfl ?_;refine h.ld (n:=1) (k:=.i .i64) (x:=e.2) 10 rfl rfl ?_;refine h.bE (k:=.i .i64) (x:=((r+1:Nat):Int)) 9 rfl rfl ?_;refine⟨by omega,?_⟩;rw [sb qb eT v];have h:Hp O w w7 (({ q with T:=T'}:WH).all b { a.m with aE:=aG a.m.aE e none} ao++(aj s' 2 1 iv (flat (p.set r (some v))) :: [af pb 36 [.int .i64 ((r+1:Nat):Int),.slice sv.a sv.len sv.cap],af eb 33 [.int .i64 e.1,.int .i64 e.2],aj sv 2 1 iv v])):=h;have h:=kJ h;have eJ:PL.fit a.ks (p.set r (some v)):=aZ.set nt hn;refine pS h (row:=aG a.row e none) (e:=e) (p:=p.set r (some v)) BM (by show cY (kinds q.xs);rw [hk];exact aT.may) (by unfold aG;rw [if_pos rfl]) (by show PL.fit (kinds q.xs) _;rw [hk];exact eJ) (xX aT sW) Hp.bZ fun T2 w8 Ik h=>?_;have h:Hp O w w8 (({ q with T:=T2}:WH).all b { a.m with aE:=aG (aG a.m.aE e none) e (some (aA (p.set r (some v))))} (aj s' 2 1 iv (flat (p.set r (some v))))++ [ao,af pb 36 [.int .i64 ((r+1:Nat):Int),.slice sv.a sv.len sv.cap],af eb 33 [.int .i64 e.1,.int .i64 e.2]]++ [aj sv 2 1 iv v]):=h;rw [AO] at Ik;refine hK w8 (fin (dT (rest:= [_]) (m:={ a.m with aE:=aG (aG a.m.aE e none) e (some (aA (p.set r (some v))))}) (q:={ q with T:=T2}) iB ?_ hk rfl ?_ h.cZ))
    ·show dS a.ks (aG a.row e (some (p.set r (some v)))) (fun x=>(aG a.row e (some (p.set r (some v))) x).map aA) _;rw [eX,<-hk];have:aG (aG a.m.aE e none) e (some (aA (p.set r (some v))))=aG (fun x=>(a.row x).map aA) e ((some (p.set r (some v))).map aA):=by rw [mv];rfl
     rw [<-this];exact Ik
    ·show aG (aG a.m.aE e none) e _=_;rw [mv];exact(eX a.row e (some (p.set r (some v)))).symm
   ·have hg:a.add e (((r+1:Nat):Int),v)=(a,63):=by
     unfold WA.add;dsimp only;rw [kM,if_neg (by simp),if_neg hh,if_pos hn]
    rw [hg] at hK;exact aL (by simp;omega) (hK w3 (same h))
end
section
variable {S:List Nat} {w0 w:World} {ae:List aa}
theorem HD {P:Program} {w:World} {b:Nat} {e:TypeId} {c:List Value} (hb:fF w b e c) {off m cap:Nat} {t ty:TypeId} {inf:TypeInfo} {z:Value} {K:Value->World->Prop}
  (ht:P.underlying t=some (.slice e)) (iE:P.info? e=some inf) (hz:inf.zero=some z) (hzc:z.cells=#[z]) (h1:z.oneCell'=true) (hm:0 < m) (ll:off+m<=c.length)
  (hK: ∀v w',fF w' b e (c.take off++List.replicate m z++c.drop (off+m))->Fr [b] w w'->K v w'):
  cA .v P (Builtin.clear_ #[t] ty #[.slice (some ⟨b,off,none⟩) m cap]) w K:=by
 have Wi:(Builtin.zeroCells z.cells m).toList=List.replicate m z:=by
  rw [hzc];simp [Builtin.zeroCells];apply List.ext_getElem
  ·simp
  ·intro i h1 h2;simp [Nat.mod_one]
 have bW:=run_storeCells_at P b off e (List.replicate m z) 0 c.toArray w hb (by simp only [anx,amr];omega) (fun v hv=>by rw [List.eq_of_mem_replicate hv];exact h1);have hv: ∀w,(zeroValue e).run P w=.ok z w:=fun w=>by simp [zeroValue,typeInfo,iE,hz]
 refine⟨.tuple #[],w.setRow b (c.take off++List.replicate m z++c.drop (off+(List.replicate m z).length)).toArray,?_,hK _ _ ?_ ⟨rfl,rfl,rfl,by simp,fun q _ hq=>setRow_other w b q _ (fun e=>hq (by simp [e]))⟩⟩
 ·simp only [amW] at bW;obtain⟨m',rfl⟩: ∃m',m=m'+1:=⟨m - 1,by omega⟩;simp [Builtin.clear_,run_underlying ht,hv,Wi,bW,Kd.inj]
 ·have:=setRow_heap w b c.toArray (c.take off++List.replicate m z++c.drop (off+(List.replicate m z).length)).toArray e _ hb;rw [amr] at this;rw [amr];exact this
set_option maxHeartbeats 2000000 in
theorem CC (h:Hp S w0 w ae) (idx:Nat) {s:Sl} {l:List Int} (hi:ae[idx]? =some (aj s 2 1 iv l)) {i j:Nat} (iZ:i<=j) (hj:j<=l.length) (hl:l.length<=1000000) {K:Sl->World->Prop}
  (hK: ∀s' w',Hp S w0 w' (ae.set idx (aj s' 2 1 iv (l.take i++l.drop j)))->K s' w'):c84 s (i:Int) (j:Int) w K:=by
 refine Ug ?_;unfold f84;obtain⟨inf,q1,q2,q3,q4⟩:=FT.ku;have fB:=h.len (s:=s) idx (by rw [hi];rfl);have Mz:=h.cap (s:=s) idx (by rw [hi];rfl);refine⟨by omega,by omega,by omega,by simp only [];omega,?_⟩;by_cases hz:i=j
 ·refine aL (by simp [hz]) (hK s w ?_);subst hz;rw [amg,Hp.bN hi];exact h
 refine aJ (by simp;omega) ?_;obtain⟨O,hO,back⟩:=h.step hi rfl;obtain⟨b,off,c,ha,ho,ke,_,fm,dU⟩: ∃b off c,s.a=some ⟨b,off,none⟩ /\ O= [b] /\ fF w b 2 c /\ s.len<=s.cap /\ off+s.cap*1<=c.length /\ (c.drop off).take (s.len*1)=l.flatMap iv:=by
  rcases hO.2 with ⟨_,h0,_⟩ | h
  ·omega
  ·exact h
 subst ho;rw [amf] at fm dU;refine Go.Den.dr fun w1 yH _ n9=>?_;have tJ:=n9 _ _ _ ke;have hS1:cq w1 s 2 1 iv l [b]:=⟨fB,.inr ⟨b,off,c,ha,rfl,tJ,Mz,by rw [amf];exact fm,by rw [amf];exact dU⟩⟩;have hS3:cq w1 ⟨some ⟨b,off,none⟩,i,s.cap⟩ 2 1 iv (l.take i) [b]:=by
  refine⟨by rw [alv];show min i l.length=i;omega,.inr ⟨b,off,c,rfl,rfl,tJ,by show i<=s.cap;omega,by show off+s.cap*1<=_;omega,?_⟩⟩;show (c.drop off).take (i*1)=_;rw [amf,<-pC aB,<-dU,anE,amf,am1 (by omega)]
 refine fC ha (by omega) (by omega) (by omega) (al4 _) (by simp;omega) ?_;have t0:(0:Int).toNat=0:=rfl;have t1:((i:Nat):Int).toNat=i:=ak7 _;have t2:((s.cap:Nat):Int).toNat=s.cap:=ak7 _;have t3:((j:Nat):Int).toNat=j:=ak7 _;have t4:((s.len:Nat):Int).toNat=s.len:=ak7 _;simp only [t0,t1,t2,amW,Nat.sub_zero];refine⟨by omega,by omega,by omega,by simp only [];omega,?_⟩;simp only [t2,t3,t4,ha];have fb: ∀x:Addr,(s.len - j≠0->x=⟨b,off+j,none⟩)-> ∀p u,((l.drop j).flatMap iv)[p]? =some u->w1.cell? (x.add p)=some u:=by
  intro x hx p u hp;have si:=(ak6.1 hp).1;rw [qO,alT] at si;rw [hx (by omega),Addr.aU,tJ.cell];have:c[off+j+p]? =(l.flatMap iv)[j+p]? :=by
   rw [<-dU,alU,if_pos (by omega),alZ];congr 1;omega
  rw [this];have hjd:(l.drop j).flatMap iv=(l.flatMap iv).drop j:=by
   have:=pD aB l j;rw [amf] at this;exact this.symm
  rw [hjd,alZ] at hp;exact hp
 have main: ∀x:Addr,(s.len - j≠0->x=⟨b,off+j,none⟩)->cA .sl Tryz.prog (Builtin.append_ #[34,34] 34 #[.slice (some ⟨b,off,none⟩) i s.cap,.slice (some x) (s.len - j) (s.cap - j)]) w1 fun(s5:Sl) w=>
   Cut ⟨s5.a,s5.len,s5.cap⟩ (s5.len:Int) (s.len:Int) (s5.cap:Int) 1 fun(s6:Sl)=>
   cA .v Tryz.prog (Builtin.clear_ #[34] 0 #[.slice s6.a s6.len s6.cap]) w fun(n_:Value) w=>K s5 w:=by
  intro x hx;refine cq.Kc (s:=⟨some ⟨b,off,none⟩,i,s.cap⟩) (m:=s.len - j) (news:=l.drop j) aB FT.eS q1 q3 hS3 (by rw [alT];omega) (fb x hx) (fun u hu=>by
   obtain⟨y,_,hy⟩:=amt.1 hu;simp only [iv,ali] at hy;subst hy;rfl) (by simp) (by simp only [];omega) fun w2 hS5 pL=>?_
  simp only [];obtain⟨c2,p9,Yc,aec⟩: ∃c2,fF w2 b 2 c2 /\ off+s.cap<=c2.length /\ (c2.drop off).take (i+(s.len - j))=(l.take i++l.drop j).flatMap iv:=by
   rcases hS5.2 with ⟨h0,_⟩ | ⟨b',Pb,c',h0,ho,g1,g2,g3,g4⟩
   ·cases h0
   ·injection h0 with h0;injection h0 with h0 MA;subst h0 MA;exact⟨c',g1,by simpa using g3,by simpa using g4⟩
  refine fC (b:=b) (off:=off) rfl (by omega) (by omega) (by omega) (al4 _) (by simp only [ak7];omega) ?_;have t5:((i+(s.len - j):Nat):Int).toNat=i+(s.len - j):=ak7 _;simp only [t4,t5];refine HD p9 FT.eS q1 q2 rfl rfl (by omega) (by omega) fun v w3 B4 Ba=>?_;have Pc:Fr [b] w w3:=((yH.mono (S':= [b]) (by simp)).trans pL (fun k hk=>.inl hk)).trans Ba (fun k hk=>.inl hk);refine hK _ w3 (back Pc (t':=aj ⟨some ⟨b,off,none⟩,i+(s.len - j),s.cap⟩ 2 1 iv (l.take i++l.drop j)) (O':= [b]) ?_ (fun k hk=>.inl hk) rfl);refine⟨hS5.1,.inr ⟨b,off,_,rfl,rfl,B4,by show i+(s.len - j)<=s.cap;omega,?_,?_⟩⟩
  ·show off+s.cap*1<=_;simp only [alb,alv,amr,alT];omega
  ·show List.take ((i+(s.len - j))*1) _=_;rw [amf,<-aec,ale,List.drop_append_of_le_length (by simp;omega),List.take_append_of_le_length (by simp;omega),List.drop_take];rw [show off+(i+(s.len - j)) - off=i+(s.len - j) by omega,anE,Nat.min_self]
 by_cases hcj:s.cap=j
 ·rw [if_pos hcj];exact main ⟨b,off,none⟩ (fun h0=>by omega)
 ·rw [if_neg hcj];simp only [al8,amf,Addr.aU];exact main ⟨b,off+j,none⟩ (fun _=>rfl)
def WA.remove (a:WA) (e:bw) (kind:Int):WA×Int:=
 if (a.ask e kind).2≠0 then (a,(a.ask e kind).2) else
 if (a.ask e kind).1.1.getD (a.ask e kind).1.2.1 none=none then (a,62) else (a.put e ((a.ask e kind).1.1.set (a.ask e kind).1.2.1 none),0)
set_option maxHeartbeats 4000000 in
theorem Ll (h:Hp S w0 w ae) (i:Nat) {b:Nat} {a:WA} {e:bw} {kind:Int} (hi:ae[i]? =some (tW b a)) (k1: -9223372036854775808<=kind) (k2:kind<=9223372036854775807) {K:Int->World->Prop}
  (hK: ∀w',Hp S w0 w' (ae.set i (tW b (a.remove e kind).1))->K (a.remove e kind).2 w'):c30 (some ⟨b,0,none⟩) e.1 e.2 kind w K:=by
 refine Tc ?_;unfold f30;obtain⟨O,h1,back⟩:=h.f1 hi rfl;clear h;obtain⟨q,aT,ht,hk,h⟩:=gf h1;have cO:(kinds q.xs).length=q.xs.length:=by simp [kinds]
 have ig:=aT.len;have uV:q.xs.length<=12:=by rw [hk] at cO;omega
 have mJ:=aT.four;have h4: ∀x∈q.xs,x.2.2.length<=4:=fun x hx=>mJ (x.1,x.2.2) (by rw [<-hk];exact alu.2 ⟨x,hx,rfl⟩);have fin: ∀{w':World} {a':WA},Hp O w w' [tW b a']->Hp S w0 w' (ae.set i (tW b a')):=fun{w' a'} h=>by
  have:=back (rest:= []) rfl rfl h
  rwa [alh] at this
 refine h.nw (c:= [_,_]) fun eb w1 h=>?_;have h:=h.up;refine h.bE (k:=.i .i64) (x:=e.1) 8 rfl rfl ?_;refine h.ld (n:=1) (k:=.i .i64) (x:=e.2) 8 rfl rfl ?_;have same: ∀{w3:World},Hp O w w3 (q.all b a.m ao++ [af eb 33 [.int .i64 e.1,.int .i64 e.2]])->Hp S w0 w3 (ae.set i (tW b a)):=fun{w3} h=>
  fin (dT (rest:= []) aT ht hk rfl rfl (by rw [alh];exact h.front))
 refine sr h aT ht hk k1 k2 fun w3 h=>⟨fun hr=>?_,fun p hr hf=>?_,fun p r k hr oU nt=>?_⟩
 ·have hg:a.remove e kind=(a,41):=by unfold WA.remove;rw [kK hr,if_pos (by decide)]
  rw [hg] at hK;exact aL rfl (hK w3 (same h))
 ·have hg:a.remove e kind=(a,60):=by unfold WA.remove;rw [kL hr hf,if_pos (by decide)]
  rw [hg] at hK;exact aL rfl (hK w3 (same h))
 ·subst oU;have kM:=mu (a:=a) (e:=e) hr nt;refine aJ (by simp) ?_;have aZ:=ht.fit e p hr;have eT:r < p.length:=by rw [aZ.1];exact(ak6.1 nt).1
  have qb:p.length<=12:=by rw [aZ.1];omega
  have zu:=fg qb;have q9:=ff p
  cases hh:p.getD r none with
  | none=>
   have hg:a.remove e ((r+1:Nat):Int)=(a,62):=by unfold WA.remove;rw [kM,if_neg (by simp),if_pos hh]
   rw [hg] at hK;exact aL rfl (hK w3 (same h))
  | some v=>
   refine aJ (by simp) ?_;have kU:=getD_some hh;have hg:a.remove e ((r+1:Nat):Int)=(a.put e (p.set r none),0):=by
    unfold WA.remove;rw [kM,if_neg (by simp),if_neg (by rw [hh];simp)]
   rw [hg] at hK;have sW:(a.row e).isSome=true:=by rw [hr];rfl
   have iB:=WA.xW aT sW (u9 (aT.Gf e p hr) r);refine jQ h 0 2 3 (cells:= [_,_,_]) rfl rfl rfl uV h4 q9 (by omega) (q:=r) (by rw [aZ.1,<-hk,cO] at eT;omega) ?_;rw [hk];refine h.bE (k:=.i .i64) (x:=e.1) 8 rfl rfl ?_;refine h.ld (n:=1) (k:=.i .i64) (x:=e.2) 8 rfl rfl ?_;refine v7 h (row:=a.row) (p:=p) (by rw [hk];exact ht) hr fun s T' w5 BM h=>?_;have h:=h.up;have uR:=aZ.at (q:=r) (by omega);have bz:=aZ.all;have Gi:=fD mJ (aA p) a.ks.length;have YC:=fD mJ (aA p) r;have gJ:=aZ.2 r v k kU nt;have Gg:=mJ _ (ala nt);have YA:gd a.ks (aA p) r+v.length<=(flat p).length:=by rw [dI kU,uR];simp
   have hw:i64.wrap (((gd a.ks (aA p) r:Nat):Int)+(k.2.length:Int))=((gd a.ks (aA p) r+v.length:Nat):Int):=by rw [aI (by omega) (by omega)];omega
   rw [hw];refine CC h 8 (s:=s) (l:=flat p) rfl (Nat.le_add_right _ _) YA (by omega) fun s' w6 h=>?_;rw [<-aZ.cut kU] at h;refine h.dr fun w7 h=>?_;refine h.bE (k:=.i .i64) (x:=e.1) 9 rfl rfl ?_;refine h.ld (n:=1) (k:=.i .i64) (x:=e.2) 9 rfl rfl ?_;refine⟨by omega,?_⟩;rw [KL qb eT];have h:Hp O w w7 (({ q with T:=T'}:WH).all b { a.m with aE:=aG a.m.aE e none} ao++(aj s' 2 1 iv (flat (p.set r none)) :: [af eb 33 [.int .i64 e.1,.int .i64 e.2]])):=h;have h:=kJ h;have eJ:PL.fit a.ks (p.set r none):=aZ.off r;refine pS h (row:=aG a.row e none) (e:=e) (p:=p.set r none) BM (by show cY (kinds q.xs);rw [hk];exact aT.may) (by unfold aG;rw [if_pos rfl]) (by show PL.fit (kinds q.xs) _;rw [hk];exact eJ) (xX aT sW) Hp.bZ fun T2 w8 Ik h=>?_;have h:Hp O w w8 (({ q with T:=T2}:WH).all b { a.m with aE:=aG (aG a.m.aE e none) e (some (aA (p.set r none)))} (aj s' 2 1 iv (flat (p.set r none)))++ [ao,af eb 33 [.int .i64 e.1,.int .i64 e.2]]):=h;rw [AO] at Ik;refine hK w8 (fin (dT (rest:= []) (m:={ a.m with aE:=aG (aG a.m.aE e none) e (some (aA (p.set r none)))}) (q:={ q with T:=T2}) iB ?_ hk rfl ?_ (by rw [alh];exact h.front)))
   ·show dS a.ks (aG a.row e (some (p.set r none))) (fun x=>(aG a.row e (some (p.set r none)) x).map aA) _;rw [eX,<-hk];have:aG (aG a.m.aE e none) e (some (aA (p.set r none)))=aG (fun x=>(a.row x).map aA) e ((some (p.set r none)).map aA):=by rw [mv];rfl
    rw [<-this];exact Ik
   ·show aG (aG a.m.aE e none) e _=_;rw [mv];exact(eX a.row e (some (p.set r none))).symm
end
theorem dS.put {ks:KD} {row:bw->Option PL} {aE:bw->Option Int} {bS:List (Int×az)} (h:dS ks row aE bS) {e:bw} {p p':PL} (hr:row e=some p) (aZ:p'.fit ks) (jE:aA p'=aA p)
  {k r:Nat} {t t':az} (hk:bS[k]? =some (aA p,t)) (oN:t.rows[r]? =some (e,flat p)) (aT:t'.Ok) (hn:t'.n=t.n) (bg:t'.rows=t.rows.set r (e,flat p')):
  dS ks (aG row e (some p')) aE (bS.set k (aA p,t')):=by
 have cO:=(ak6.1 hk).1;have eT:=(ak6.1 oN).1;have dF:=ala hk;obtain⟨tk,tn,tne,tr⟩:=h.tok _ dF;have lH: ∀{i j:Nat} {a b:Int×az},bS[i]? =some a->bS[j]? =some b->a.1=b.1->i=j:=fun{i j a b} hi hj he=>
  (amh (i:=i) (j:=j) (l:=bS.map (·.1)) (by simpa using (ak6.1 hi).1) h.nd).1 (by rw [alc,alc,hi,hj];simp [he])
 have vC: ∀x∈bS.set k (aA p,t'),x=(aA p,t') \/ (x∈bS /\ x.1≠aA p):=by
  intro x hx;obtain⟨j,hj⟩:=aly hx;rw [alN] at hj;by_cases sd:k=j
  ·subst sd;simp only [if_true,if_pos cO,ald] at hj;exact .inl hj.symm
  ·rw [if_neg sd] at hj;exact .inr ⟨ala hj,fun he=>sd (lH hk hj he.symm)⟩
 -- what is in the row's table
 have e9: ∀y∈t'.rows,y=(e,flat p') \/ (y∈t.rows /\ y.1≠e):=by
  intro y hy;rw [bg] at hy;obtain⟨j,hj⟩:=aly hy;rw [alN] at hj;by_cases sd:r=j
  ·subst sd;simp only [if_true,if_pos eT,ald] at hj;exact .inl hj.symm
  ·rw [if_neg sd] at hj;refine .inr ⟨ala hj,fun he=>sd ?_⟩;exact(amh (i:=r) (j:=j) (l:=t.aw) (by unfold az.aw;simpa using eT) tk.nd).1 (by unfold az.aw;rw [alc,alc,oN,hj];simp [he])
 refine⟨?_,?_,?_,?_,?_⟩
 ·rw [h.aE]
  funext x
  show (row x).map aA=(aG row e (some p') x).map aA;unfold aG
  split
  ·rename_i hx;rw [hx,hr];show some _=some _;rw [jE]
  ·rfl
 ·have:(bS.set k (aA p,t')).map (·.1)=bS.map (·.1):=by
   rw [amm];exact Hp.jY (by rw [alc,hk];rfl)
  rw [this];exact h.nd
 ·intro x hx
  rcases vC x hx with rfl | ⟨hx,kT⟩
  ·refine⟨aT,by rw [hn];exact tn,fun e0=>?_,fun y hy=>?_⟩
   ·have e0:t'.rows= []:=e0;have:=congrArg List.length (bg.symm.trans e0);rw [alV,amF] at this;omega
   ·rcases e9 y hy with rfl | ⟨hy,aW⟩
    ·exact⟨p',by unfold aG;rw [if_pos rfl],jE,rfl⟩
    ·obtain⟨p2,g1,g2,g3⟩:=tr y hy;exact⟨p2,by unfold aG;rw [if_neg aW];exact g1,g2,g3⟩
  ·obtain⟨a1,a2,a3,a4⟩:=h.tok x hx;refine⟨a1,a2,a3,fun y hy=>?_⟩;obtain⟨p2,g1,g2,g3⟩:=a4 y hy;refine⟨p2,?_,g2,g3⟩;unfold aG;rw [if_neg (fun he=>by rw [he,hr] at g1;obtain rfl:=alm g1;exact kT g2.symm)];exact g1
 ·intro e' p2 iD;unfold aG at iD;by_cases yS:e'=e
  ·rw [if_pos yS] at iD;obtain rfl:=alm iD;subst yS;exact⟨t',ala (i:=k) (by rw [alx cO,jE]),by rw [bg];exact ala (i:=r) (by rw [alx eT])⟩
  ·rw [if_neg yS] at iD;obtain⟨t2,h1,h2⟩:=h.has e' p2 iD;by_cases hs:aA p2=aA p
   ·obtain⟨j,hj⟩:=aly h1;have sd:=lH hk hj hs.symm;subst sd;rw [hk] at hj;obtain⟨_,rfl⟩:=amx (alm hj);obtain⟨j2,Ah⟩:=aly h2;refine⟨t',ala (i:=k) (by rw [alx cO,hs]),?_⟩;rw [bg];exact ala (i:=j2) (by rw [alC (fun e0=>by subst e0;rw [oN] at Ah;have:=alm Ah;exact yS (by rw [amA] at this;exact this.1.symm))];exact Ah)
   ·obtain⟨j,hj⟩:=aly h1;have sd:k≠j:=fun e0=>by subst e0;rw [hk] at hj;have:=alm hj;rw [amA] at this;exact hs this.1.symm
    exact⟨t2,ala (i:=j) (by rw [alC sd];exact hj),h2⟩
 ·intro e' p2 iD;unfold aG at iD;by_cases yS:e'=e
  ·rw [if_pos yS] at iD;obtain rfl:=alm iD;exact aZ
  ·rw [if_neg yS] at iD;exact h.fit e' p2 iD
theorem zK {p:PL} {r:Nat} {v0:List Int} (hp:p[r]? =some (some v0)) (v:List Int):aA (p.set r (some v))=aA p:=by
 unfold aA;congr 1;apply amM;intro j;rw [iz,iz];show (((none :: p).set (r+1) (some v)).getD j none).isSome=_;rw [tQ];by_cases hj:r+1=j
 ·subst hj;have hl:=(ak6.1 hp).1;rw [if_pos ⟨rfl,by simpa using hl⟩];show _=(p.getD r none).isSome;rw [alk,hp];rfl
 ·rw [if_neg (fun h=>hj h.1)]
theorem ES {α:Type} (l:List α) (r:Nat) (x:α) (f:α->α):(l.set r x).modify r f=l.set r (f x):=by
 apply alM;intro j;rw [List.getElem?_modify,alN,alN];by_cases hj:r=j
 ·subst hj;by_cases hl:r < l.length
  ·simp [hl]
  ·simp [hl]
 ·simp [hj]
def WA.set (a:WA) (e:bw) (x:Part):WA×Int:=
 if (a.ask e x.1).2≠0 then (a,(a.ask e x.1).2) else
 if (a.ask e x.1).1.1.getD (a.ask e x.1).1.2.1 none=none then (a,62) else
 if x.2.length≠(a.ask e x.1).1.2.2 then (a,63) else (a.put e ((a.ask e x.1).1.1.set (a.ask e x.1).1.2.1 (some x.2)),0)
def cx (t:az) (r:Nat) (e:bw) (l:List Int):az:=⟨t.n,t.rows.set r (e,l)⟩
theorem qU {t:az} (h:t.Ok) {r:Nat} {e:bw} {l0 l:List Int} (hr:t.rows[r]? =some (e,l0)) (hl:l.length=t.n):(cx t r e l).Ok:=by
 have ho:(cx t r e l).aw=t.aw:=by
  unfold cx az.aw;dsimp only;rw [amm];apply alM;intro j;rw [alN]
  split
  ·rename_i hj
   subst hj;have:=(ak6.1 hr).1;rw [if_pos (by simpa using this),alc,hr];rfl
  ·rfl
 refine⟨h.QH,by show (t.rows.set r (e,l)).length<=200;rw [alV];exact h.Ej,by rw [ho];exact h.nd,fun y hy=>?_⟩;obtain⟨j,hj⟩:=aly hy;have hj:(t.rows.set r (e,l))[j]? =some y:=hj;rw [alN] at hj
 split at hj
 ·split at hj
  ·obtain rfl:=alm hj;exact hl
  ·cases hj
 ·exact h.len y (ala hj)
theorem CD {t:az} {r:Nat} {e:bw} {l:List Int} {c:Nat} {x:Int}:(cx t r e l).set r c x=cx t r e (l.set c x):=by
 unfold cx az.set;dsimp only;rw [ES]
theorem ET {t:az} {r:Nat} {e:bw} {l0 l:List Int} (hr:t.rows[r]? =some (e,l0)) {x:bw}:jV (cx t r e l) x=jV t x:=by
 have ho:(cx t r e l).aw=t.aw:=by
  unfold cx az.aw;dsimp only;rw [amm];apply alM;intro j;rw [alN]
  split
  ·rename_i hj
   subst hj;have:=(ak6.1 hr).1;rw [if_pos (by simpa using this),alc,hr];rfl
  ·rfl
 unfold jV az.at_;rw [ho]
section
variable {S:List Nat} {w0 w:World} {ae:List aa}
set_option maxHeartbeats 4000000 in
theorem YD (h:Hp S w0 w ae) (i j:Nat) (iZ:i≠j) {b:Nat} {a:WA} {e:bw} {kind:Int} {u:aa} {sv:Sl} {v:List Int} (hi:ae[i]? =some (tW b a)) (hj:ae[j]? =some u) (hu:Hp.Reads u sv 1 iv v) (k1: -9223372036854775808<=kind) (k2:kind<=9223372036854775807) (qv:FP.eW v) {K:Int->World->Prop}
  (hK: ∀w',Hp S w0 w' (ae.set i (tW b (a.set e (kind,v)).1))->K (a.set e (kind,v)).2 w'):c81 (some ⟨b,0,none⟩) e.1 e.2 kind sv w K:=by
 refine Ud ?_;unfold f81;obtain⟨KI,r1,r2,r3,r4⟩:=AD;obtain⟨O,h1,back⟩:=h.XM iZ hi hj rfl;have gJ:=h.dR j (by rw [hj];rfl) hu;clear h;obtain⟨q,aT,ht,hk,h⟩:=gf h1;have hu:Hp.Reads u.ro sv 1 iv v:=⟨fun{w O} h=>hu.rd h⟩;have cO:(kinds q.xs).length=q.xs.length:=by simp [kinds]
 have ig:=aT.len;have uV:q.xs.length<=12:=by rw [hk] at cO;omega
 have mJ:=aT.four;have h4: ∀x∈q.xs,x.2.2.length<=4:=fun x hx=>mJ (x.1,x.2.2) (by rw [<-hk];exact alu.2 ⟨x,hx,rfl⟩);have fin: ∀{w':World} {a':WA},Hp O w w' [tW b a']->Hp S w0 w' (ae.set i (tW b a')):=fun{w' a'} h=>by
  have:=back (rest:= []) rfl rfl h
  rwa [alh] at this
 refine h.nw (c:= [_,_]) fun eb w1 h=>?_;have h:=h.up;refine h.nw (c:= [_,_]) fun pb w2 h=>?_;have h:=h.up;refine h.bE (k:=.i .i64) (x:=e.1) 9 rfl rfl ?_;refine h.ld (n:=1) (k:=.i .i64) (x:=e.2) 9 rfl rfl ?_;refine h.bE (k:=.i .i64) (x:=kind) 8 rfl rfl ?_;have same: ∀{w3:World},Hp O w w3 (q.all b a.m ao++(af pb 36 [.int .i64 kind,.slice sv.a sv.len sv.cap] :: af eb 33 [.int .i64 e.1,.int .i64 e.2] :: [u.ro]))->Hp S w0 w3 (ae.set i (tW b a)):=fun{w3} h=>
  fin (dT (rest:= []) aT ht hk rfl rfl (by rw [alh];exact h.front))
 refine sr h aT ht hk k1 k2 fun w3 h=>⟨fun hr=>?_,fun p hr hf=>?_,fun p r kk hr oU nt=>?_⟩
 ·have hg:a.set e (kind,v)=(a,41):=by unfold WA.set;rw [kK hr,if_pos (by decide)]
  rw [hg] at hK;exact aL rfl (hK w3 (same h))
 ·have hg:a.set e (kind,v)=(a,60):=by unfold WA.set;rw [kL hr hf,if_pos (by decide)]
  rw [hg] at hK;exact aL rfl (hK w3 (same h))
 ·subst oU;have kM:=mu (a:=a) (e:=e) hr nt;refine aJ (by simp) ?_;have aZ:=ht.fit e p hr;have eT:r < p.length:=by rw [aZ.1];exact(ak6.1 nt).1
  have qb:p.length<=12:=by rw [aZ.1];omega
  have zu:=fg qb;have q9:=ff p
  cases hh:p.getD r none with
  | none=>
   have hg:a.set e (((r+1:Nat):Int),v)=(a,62):=by unfold WA.set;dsimp only;rw [kM,if_neg (by simp),if_pos hh]
   rw [hg] at hK;exact aL rfl (hK w3 (same h))
  | some v0=>
   refine aJ (by simp) ?_;have kU:=getD_some hh;refine h.ld (n:=1) (k:=.sl) (x:=sv) 8 rfl rfl ?_;by_cases hn:v.length=kk.2.length
   ·refine aJ (by simp;omega) ?_;have hg:a.set e (((r+1:Nat):Int),v)=(a.put e (p.set r (some v)),0):=by
     unfold WA.set;dsimp only;rw [kM,if_neg (by simp),if_neg (by rw [hh];simp),if_neg (by simpa using hn)]
    rw [hg] at hK;have sW:(a.row e).isSome=true:=by rw [hr];rfl
    have iB:=WA.xW aT sW (mq (aT.Gf e p hr) r qv);have eJ:PL.fit a.ks (p.set r (some v)):=aZ.set nt hn;obtain⟨k,rr,t,hkt,tk,uR,oN⟩:=ht.find hr;unfold WH.bS at hkt;rw [alc] at hkt;obtain⟨⟨s0,tb,t0⟩,Bd,he⟩:=alH.1 hkt;obtain⟨rfl,rfl⟩:=amx he;dsimp only at tk uR oN hkt;have bJ:(q.T.map (·.1)).Nodup:=by have:=ht.nd;unfold WH.bS at this;rw [amJ] at this;exact this
    have hv0:=aZ.2 r v0 kk kU nt;have YE:=aZ.at (q:=r) (by omega);have J3:=dI kU;have Lm:flat (p.set r (some v))=flat (p.take r)++(v++flat (p.drop (r+1))):=xE (some v) eT;have V9:t0.n=(flat p).length:=by
     have:=tk.len _ (ala oN);exact this.symm
    have O9:=tk.QH;have FR:=tk.Ej;have aiF:=(ak6.1 oN).1;have Gg:=mJ _ (ala nt);generalize hA:flat (p.take r)=A at YE J3 Lm;generalize hR:flat (p.drop (r+1))=R at J3 Lm;have J3:flat p=A++(v0++R):=J3;refine aS ?_;refine h.ld (n:=3) (k:=.m) (x:=some q.mt) 0 rfl rfl ?_;refine h.lu (kd:=.p) (vk:=fun tb=>some ⟨tb,0,none⟩) (z:=(none:Option Addr)) (ek:=Value.int .i64) (ev:=pv) (g:=cz q.T) (k:=aA p) 6 rfl rfl rZ tw r1 r2 (fun _=>rfl) ?_;rw [AF bJ Bd];dsimp only;refine h.ld (n:=1) (k:=.sl) (x:=sv) 8 rfl rfl ?_;have Es:q.T.set k (aA p,tb,cx t0 rr e (A++((v.take 0++v0.drop 0)++R)))=q.T:=by
     rw [anD,amP,alO,<-J3];refine Hp.jY ?_;rw [Bd];have:cx t0 rr e (flat p)=t0:=by
      unfold cx;rw [Hp.jY oN]
     rw [this]
    refine⟨fun t46 mm w'=> ∃(n:Nat),t46=n /\ n<=v.length /\ mm=v.length - n /\ Hp O w w' (({ q with T:=q.T.set k (aA p,tb,cx t0 rr e (A++((v.take n++v0.drop n)++R)))}:WH).all b a.m ao++ [af pb 36 [.int .i64 ((r+1:Nat):Int),.slice sv.a sv.len sv.cap],af eb 33 [.int .i64 e.1,.int .i64 e.2],u.ro]),⟨v.length,0,rfl,by omega,rfl,by rw [Es];exact h⟩,?_⟩;clear h;rintro t46 mm w4 ⟨n,rfl,Mt,rfl,h⟩;by_cases av:n < v.length
    ·refine aL (by simp;omega) ?_;refine h.fH (k:=.i .i64) (u:=u.ro) (y:=v[n]) (x:=v[n]) 10 rfl hu (by omega) (by simp [av]) aB rfl ?_;refine h.dr fun w5 h=>?_;refine h.bE (k:=.i .i64) (x:=e.1) 9 rfl rfl ?_;refine h.ld (n:=1) (k:=.i .i64) (x:=e.2) 9 rfl rfl ?_;refine h.bE (k:=.i .i64) (x:=((r+1:Nat):Int)) 8 rfl rfl ?_;have Pq:=(ak6.1 Bd).1;have Bc:(A++((v.take n++v0.drop n)++R)).length=t0.n:=by
      rw [V9,J3];simp only [alb,alv,alT];omega
     refine Q2 h 7 rfl (k:=k) (set:=aA p) (tb:=tb) (t:=cx t0 rr e (A++((v.take n++v0.drop n)++R))) (by rw [alx Pq]) (by rw [ET oN];exact uR) fun w6 h=>?_;refine⟨h.vw 8 rfl rfl,?_⟩;refine jQ h 0 2 3 (cells:= [_,_,_]) rfl rfl rfl uV h4 q9 (by omega) (q:=r) (by show r<=q.xs.length;rw [aZ.1,<-hk,cO] at eT;omega) ?_;show Ng _ _ (i64.wrap (((gd (kinds q.xs) (aA p) r:Nat):Int)+(n:Int))) _ _ _;rw [hk,YE];have dh:A.length+v.length<=t0.n:=by rw [V9,J3];simp only [alb];omega
     have hw:i64.wrap (((A.length:Nat):Int)+(n:Int))=((A.length+n:Nat):Int):=by rw [aI (by omega) (by omega)];omega
     rw [hw];have hmk:((q.T.set k (aA p,tb,cx t0 rr e (A++((v.take n++v0.drop n)++R)))).map tT)[k]? =some (fA tb (cx t0 rr e (A++((v.take n++v0.drop n)++R)))):=by
      rw [alc,alx Pq];rfl
     have h:=h.pick (i:=7) (k:=k) rfl hmk rfl;refine FT.J8 h 11 (m:=cx t0 rr e (A++((v.take n++v0.drop n)++R))) (qU tk oN Bc) rfl fun w7 h=>?_;have fb:(cx t0 rr e (A++((v.take n++v0.drop n)++R))).rS (rr:Int) ((A.length+n:Nat):Int)=0:=by
      refine FT.zq.2 ⟨⟨by omega,?_⟩,by omega,?_⟩
      ·show (rr:Int) < ((t0.rows.set rr _).length:Nat);rw [alV];omega
      ·show ((A.length+n:Nat):Int) < (t0.n:Nat);omega
     have jE:(cx t0 rr e (A++((v.take n++v0.drop n)++R))).OY (rr:Int) ((A.length+n:Nat):Int) v[n]=cx t0 rr e (A++((v.take (n+1)++v0.drop (n+1))++R)):=by
      unfold az.OY;rw [if_pos fb,ak7,ak7,CD];congr 1;rw [alj _ _ (by omega),amn,amc _ _ (by simp;omega),FI.Kz (by omega) (by simp [av])]
     rw [jE] at h;have h:=h.iT (i:=7) (j:=11) (k:=k) (ts:=((q.T.set k (aA p,tb,cx t0 rr e (A++((v.take n++v0.drop n)++R)))).map tT).set k ao) (t:=tT (aA p,tb,cx t0 rr e (A++((v.take (n+1)++v0.drop (n+1))++R)))) (by decide) rfl rfl (by rw [alx (by simpa using Pq)]) rfl;rw [al2,<-amm,al2] at h;refine⟨v.length - (n+1),by omega,n+1,by rw [aI (by omega) (by omega)];omega,by omega,rfl,?_⟩;have ep:cz (q.T.set k (aA p,tb,cx t0 rr e (A++((v.take n++v0.drop n)++R))))=cz (q.T.set k (aA p,tb,cx t0 rr e (A++((v.take (n+1)++v0.drop (n+1))++R)))):=by
      rw [r9 Bd,r9 Bd]
     have h:Hp O w w7 ([q.ra b,ao,aj q.sk 107 2 df q.xs,ak (q.xs.map tF),aD 149 q.pb a.m.ar,dW q.ms ct (Value.int .i64) a.m.aE,dW q.mt (Value.int .i64) pv (cz (q.T.set k (aA p,tb,cx t0 rr e (A++((v.take n++v0.drop n)++R))))),ak ((q.T.set k (aA p,tb,cx t0 rr e (A++((v.take (n+1)++v0.drop (n+1))++R)))).map tT)]++ [af pb 36 [.int .i64 ((r+1:Nat):Int),.slice sv.a sv.len sv.cap],af eb 33 [.int .i64 e.1,.int .i64 e.2],u.ro]++ [ao]):=h;rw [ep] at h;exact h.front
    ·refine aJ (by simp;omega) ?_;obtain rfl:n=v.length:=by omega
     rw [amB,show v.length=v0.length by omega,ana,alh,<-Lm] at h;refine hK w4 (fin (dT (rest:= []) (m:=a.m) (q:={ q with T:=q.T.set k (aA p,tb,cx t0 rr e (flat (p.set r (some v))))}) iB ?_ hk rfl ?_ (by rw [alh];exact h.front)))
     ·have Bc:(flat (p.set r (some v))).length=t0.n:=by
       rw [V9,Lm,J3];simp only [alb];omega
      have:=ht.put hr eJ (zK kU v) (k:=k) (r:=rr) (t:=t0) (t':=cx t0 rr e (flat (p.set r (some v)))) (by unfold WH.bS;rw [alc,Bd];rfl) oN (qU tk oN Bc) rfl rfl;have es:(a.put e (p.set r (some v))).m.aE=a.m.aE:=by
       have:=this.aE;exact this.symm
      rw [es];unfold WH.bS;rw [amm];exact this
     ·have:=(ht.put hr eJ (zK kU v) (k:=k) (r:=rr) (t:=t0) (t':=cx t0 rr e (flat (p.set r (some v)))) (by unfold WH.bS;rw [alc,Bd];rfl) oN (qU tk oN (by rw [V9,Lm,J3];simp only [alb];omega)) rfl rfl).aE;exact this
   ·have hg:a.set e (((r+1:Nat):Int),v)=(a,63):=by
     unfold WA.set;dsimp only;rw [kM,if_neg (by simp),if_neg (by rw [hh];simp),if_pos hn]
    rw [hg] at hK;exact aL (by simp;omega) (hK w3 (same h))
end
open FP (bu gL bV bQ tB bx dO eW)
def eP (p:PL):List Int:=bu (aA p)++bV (flat p)
def WA.snap (a:WA):List Int:=bQ a.ar.aH++bQ a.ar.free++a.all.flatMap fun e=>eP ((a.row e).getD [])
theorem fu (l:List Int):(bQ l).length<=21+10*l.length:=by
 have h1:=bx l.length;have h2:=FP.tZ l;unfold bQ;rw [alb]
 split
 ·simp only [amF];omega
 ·omega
theorem xY (p:PL): ∀k,k<=p.length->(cF p k).flatMap (fun x=>bV x.2)=bV (flat (p.take k))
 | 0,_=>by simp [cF,flat,bV]
 | k+1,hk=>by
  have ih:=xY p k (by omega);have hp:p[k]? =some p[k]:=by simp [show k < p.length by omega]
  rw [cF,alJ,ih,tR hp];have ha: ∀a b:List Int,bV (a++b)=bV a++bV b:=fun a b=>by unfold bV;rw [alJ]
  rw [ha];congr 1;have:p.getD k none=p[k]:=by rw [alk,hp];rfl
  rw [this]
  cases p[k] with
  | none=>rfl
  | some v=>simp
theorem zL (p:PL):(partsOf p).flatMap (fun x=>bV x.2)=bV (flat p):=by
 unfold partsOf;rw [xY p p.length (alA _),amB]
section
variable {S:List Nat} {w0 w:World} {ae:List aa}
theorem xZ (h:Hp S w0 w ae) (j:Nat) {u:aa} {s:Sl} {l:List Int} (hj:ae[j]? =some u) (hu:Hp.Reads u s 1 iv l) (hl:l.length<=1000000000) {K:Sl->World->Prop} (hK: ∀r w',Hp S w0 w' (ae++ [aj r 2 1 iv l])->K r w'):c38 s w K:=by
 refine Ts ?_;unfold f38;obtain⟨inf,q1,q2,q3,q4⟩:=FT.ku;have Vc:=(ak6.1 hj).1;have fB:=h.dR j (by rw [hj];rfl) hu;have h:=h.nil 2 1 iv;refine⟨fun out t8 mm w'=> ∃k:Nat,t8=k /\ k<=l.length /\ mm=l.length - k /\ Hp S w0 w' (ae++ [aj out 2 1 iv (l.take k)]),⟨l.length,0,rfl,by omega,rfl,h⟩,?_⟩;clear h;rintro out t8 mm w2 ⟨k,rfl,hk,rfl,h⟩;have lq:=h.len (s:=out) ae.length (by rw [alw];rfl);rw [alv] at lq;by_cases av:k < l.length
 ·refine aL (by simp;omega) ?_;refine h.fH (k:=.i .i64) (u:=u) (y:=l[k]) (x:=l[k]) j (by rw [ak9 Vc,hj];rfl) hu (by omega) (by simp [av]) aB rfl ?_;refine h.cj ae.length (l[k]) (c:= [_]) alw aB FT.eS q1 q3 q2 rfl rfl (by simp [iv,Value.oneCell']) (by rw [q4];omega) (by omega) fun bR w3 h _ _=>?_;rw [cM,<-alp av] at h;exact⟨l.length - (k+1),by omega,k+1,by rw [aI (by omega) (by omega)];omega,by omega,rfl,h⟩
 ·refine aJ (by simp;omega) ?_;rw [aln (by omega)] at h;exact hK out w2 h
theorem gY {m:ai} (hm:m.Ok):eW m.aH /\ m.aH.length<=200 /\ eW m.free /\ m.free.length<=200:=by
 have Ce:=hm.fZ;refine⟨fun x hx=>?_,by unfold ai.aH;rw [List.length_mapIdx];exact Ce,fun x hx=>?_,FI.Ok.vY hm⟩
 ·unfold ai.aH at hx;obtain⟨i,hi,rfl⟩:=List.mem_mapIdx.1 hx;have:=hm.au _ (alz hi)
  split <;> omega
 ·have:=hm.free x hx;omega
set_option maxHeartbeats 4000000 in
theorem EU {b:Nat} {a:WA} {q:WH} {u:aa} (h:Hp S w0 w (q.all b a.m u)) (aT:a.Ok) (ht:dS a.ks a.row a.m.aE q.bS) (hk:kinds q.xs=a.ks) {K:Sl->World->Prop}
  (hK: ∀s w',Hp S w0 w' (q.all b a.m u++ [tB s a.snap])->K s w'):Qs (some ⟨b,0,none⟩) w K:=by
 refine SN ?_;unfold f11;obtain⟨KI,z1,z2,z3,z4⟩:=FT.nW;obtain⟨g1,g2,g3,g4⟩:=gY aT.qa;have aed:=aT.len;have mJ:=aT.four;refine aS ?_;refine h.ld (n:=1) (k:=.p) (x:=some ⟨q.pb,0,none⟩) 0 rfl rfl ?_;refine FI.Pt h 4 (m:=a.ar) aT.qa rfl fun gs fs w1 h=>?_;have h:Hp S w0 w1 (q.all b a.m u++ [aj gs 3 1 iv a.ar.aH,aj fs 3 1 iv a.ar.free]):=h;refine xZ h 8 (u:=aj gs 3 1 iv a.ar.aH) rfl Hp.bZ (by omega) fun r w2 h=>?_;have h:=h.nil 5 1 ky;have h:Hp S w0 w2 (q.all b a.m u++ [aj gs 3 1 iv a.ar.aH,aj fs 3 1 iv a.ar.free,aj r 2 1 iv a.ar.aH,tB ⟨none,0,0⟩ []]):=by
  simpa using h
 have l1:=fu a.ar.aH;have l2:=fu a.ar.free;refine FP.u7 h 11 10 rfl Hp.bZ rfl Hp.bZ g1 (by omega) (by simp) fun r2 w3 h=>?_;rw [alO] at h;have h:Hp S w0 w3 (q.all b a.m u++ [aj gs 3 1 iv a.ar.aH,aj fs 3 1 iv a.ar.free,aj r 2 1 iv a.ar.aH,tB ⟨none,0,0⟩ []]++ [tB r2 (bQ a.ar.aH)]):=h;refine xZ h 9 (u:=aj fs 3 1 iv a.ar.free) rfl Hp.bZ (by omega) fun r3 w4 h=>?_;refine FP.u7 h 12 13 rfl Hp.bZ rfl Hp.bZ g3 (by omega) (by omega) fun b0 w5 h=>?_;have h:Hp S w0 w5 (q.all b a.m u++ [aj gs 3 1 iv a.ar.aH,aj fs 3 1 iv a.ar.free,aj r 2 1 iv a.ar.aH,tB ⟨none,0,0⟩ [],tB r2 (bQ a.ar.aH),aj r3 2 1 iv a.ar.free]++ [tB b0 (bQ a.ar.aH++bQ a.ar.free)]):=h;have h:=h.cZ;refine Lf h aT ht hk fun r4 w6 h=>?_;obtain⟨xs,fx,h⟩:=h.du (i:=9) (e:=75) (n:=3) (cells:=rdv) (sub:=gA) (vis:=dX) (s:=r4) (l:=a.rows) rfl;obtain⟨pre,EN⟩: ∃pre,pre=bQ a.ar.aH++bQ a.ar.free:=⟨_,rfl⟩;have age:pre.length<=5000:=by rw [EN,alb];omega
 have h:Hp S w0 w6 (q.all b a.m u++ [tB b0 (pre++ []),aj r4 75 3 rdv xs,ak (xs.map gA)]):=by
  rw [alh,EN];exact h
 have eT:=h.len (s:=r4) 9 rfl;have ja:xs.length=a.all.length:=by
  have:=congrArg List.length fx;unfold WA.rows at this
  simpa using this
 have ig:a.all.length<=200:=by
  have h1:=ai.kz a.ar a.ar.au.length;have h2:=aT.qa.fZ;show (a.ar.iG a.ar.au.length).length<=200;omega
 obtain⟨acc,HE⟩: ∃acc:Nat->List Int,acc=fun k=>(a.all.take k).flatMap fun e=>eP ((a.row e).getD []):=⟨_,rfl⟩;have YF: ∀k,(acc k).length<=490*k:=by
  intro k;rw [HE]
  induction k with
  | zero=>simp
  | succ k ih=>
   dsimp only at ih ⊢;by_cases cO:k < a.all.length
   ·rw [alp cO,alJ,alb];obtain⟨p,hr⟩:=gw aT (alz cO);simp only [alX,an0,alh,hr];unfold eP;rw [alb];have e1:=bx (aA p);have e2:=dO (flat p);have e3:=(ht.fit _ p hr).all;have e4:=fD mJ (aA p) a.ks.length;have e5:(bu (aA p)).length+(bV (flat p)).length<=490:=by omega
    have e6:490*(k+1)=490*k+490:=rfl;rw [e6];exact Nat.add_le_add ih e5
   ·rw [aln (by omega)];rw [aln (by omega)] at ih;omega
 refine⟨fun b2 t29 mm w'=> ∃k:Nat,t29=k /\ k<=xs.length /\ mm=xs.length - k /\ Hp S w0 w' (q.all b a.m u++ [tB b2 (pre++acc k),aj r4 75 3 rdv xs,ak (xs.map gA)]),⟨xs.length,0,rfl,by omega,rfl,by rw [HE];exact h⟩,?_⟩;clear h;rintro b2 t29 mm w7 ⟨k,rfl,uX,rfl,h⟩;by_cases av:k < xs.length
 ·refine aL (by simp;omega) ?_;have hx:xs[k]? =some xs[k]:=by simp [av]
  have Wk:a.all[k]? =some (a.all[k]'(by omega)):=by simp [show k < a.all.length by omega]
  have PI:dX xs[k]=a.ns (a.all[k]'(by omega)):=by
   have h1:(xs.map dX)[k]? =some (dX xs[k]):=by rw [alc,hx];rfl
   rw [fx] at h1;unfold WA.rows at h1;rw [alc,Wk] at h1;exact(alm h1).symm
  obtain⟨p,hr⟩:=gw aT (alz (show k < a.all.length by omega));have rJ:acc (k+1)=acc k++(bu (aA p)++bV (flat p)):=by
   rw [HE];dsimp only;rw [alp (show k < a.all.length by omega),alJ];simp only [alX,an0,alh,hr];rfl
  generalize xs[k]=x at hx PI;generalize a.all[k]'(by omega)=e0 at Wk PI hr;obtain⟨e,ps,parts⟩:=x;unfold dX WA.ns at PI;obtain⟨rfl,oc⟩:=amx PI;rw [hr] at oc;have oc:parts=partsOf p:=oc;subst oc;have aZ:=ht.fit e p hr;have qb:p.length<=12:=by rw [aZ.1];omega
  have zu:=fg qb;have q9:=ff p;have jE:a.m.aE e=some (aA p):=by show (a.row e).map aA=_;rw [hr];rfl
  have PJ:=aT.Gf e p hr;have agf:(flat p).length<=48:=by
   have:=fD mJ (aA p) a.ks.length;rw [aZ.all];omega
  have aiG:=YF k;refine h.rf (s:=r4) (l:=xs) (f:=rdv) (n:=3) (e:=75) 9 rfl (by omega) (by rw [ak7];exact hx) cc fun ad hc=>?_;refine dG (k:=.i .i64) (x:=e.1) (hc 0 (by omega)) rfl ?_;refine jB (k:=.i .i64) (x:=e.2) (hc 1 (by omega)) rfl ?_;refine jB (k:=.sl) (x:=ps) (hc 2 (by omega)) rfl ?_;refine h.nw (c:= [_,_,_]) fun rb w8 h=>?_;have h:=h.up;refine h.gz 8 rfl (by simp) rfl fun w9 h=>?_;refine h.st (n:=1) 8 rfl (by simp) rfl fun nK h=>?_;refine h.st (n:=2) 8 rfl (by simp) rfl fun qo h=>?_;have h:Hp S w0 qo (q.all b a.m u++(af rb 75 [.int .i64 e.1,.int .i64 e.2,.slice ps.a ps.len ps.cap] :: [tB b2 (pre++acc k),aj r4 75 3 rdv xs,ak (xs.map gA)])):=h;refine h.dr fun vB h=>?_;refine aS ?_;refine h.ld (n:=2) (k:=.m) (x:=some q.ms) 0 rfl rfl ?_;refine h.bE (k:=.i .i64) (x:=e.1) 8 rfl rfl ?_;refine h.ld (n:=1) (k:=.i .i64) (x:=e.2) 8 rfl rfl ?_;refine h.lu (kd:=.i .i64) (vk:=id) (z:=(0:Int)) (ek:=ct) (ev:=Value.int .i64) (g:=a.m.aE) (k:=e) 5 rfl rfl u5 dH z1 z2 (fun _=>rfl) ?_;rw [jE];dsimp only [id_eq];rw [FP.rh,Int.emod_eq_of_lt q9 (by omega)];refine FP.Cq h 9 rfl Hp.bZ q9 (by omega) (by rw [alb];omega) fun b3 Dm h=>?_;have h:=h.up;have h:Hp S w0 Dm ((q.all b a.m u++ [tB b3 (pre++acc k++bu (aA p)),af rb 75 [.int .i64 e.1,.int .i64 e.2,.slice ps.a ps.len ps.cap]])++ [tB b2 (pre++acc k)]++ [aj r4 75 3 rdv xs,ak (xs.map gA)]):=h;have h:=h.cZ;refine h.ld (n:=2) (k:=.sl) (x:=ps) 9 rfl rfl ?_;have h:=h.pick (i:=11) (k:=k) (t:=gA (e,ps,partsOf p)) rfl (by rw [alc,hx];rfl) rfl;obtain⟨ys,sJ,h⟩:=h.du (i:=12) (e:=36) (n:=2) (cells:=ck) (sub:=tV) (vis:=bq) (s:=ps) (l:=partsOf p) rfl;obtain⟨uc,Ln⟩: ∃uc,uc=pre++acc k++bu (aA p):=⟨_,rfl⟩;have aee:uc.length<=200000:=by
   have:=bx (aA p);rw [Ln,alb,alb];omega
  obtain⟨T',Px⟩: ∃T',T'=ak ((xs.map gA).set k ao):=⟨_,rfl⟩;have h:Hp S w0 Dm (q.all b a.m u++ [tB b3 (uc++ []),af rb 75 [.int .i64 e.1,.int .i64 e.2,.slice ps.a ps.len ps.cap],aj r4 75 3 rdv xs,T',aj ps 36 2 ck ys,ak (ys.map tV)]):=by
   rw [alh,Ln,Px];exact h
  have aef:=h.len (s:=ps) 12 rfl;have vA:ys.length=(partsOf p).length:=by rw [<-sJ,alr]
  have agh:(partsOf p).length<=12:=by have:=kI p p.length;unfold partsOf;omega
  have Vd:=zL p;have YG: ∀y∈partsOf p,y.2.length<=48 /\ eW y.2:=by
   intro y hy;have: ∀k,∀y∈cF p k,some y.2∈p:=by
    intro k
    induction k with
    | zero=>simp [cF]
    | succ k ih=>
     intro y hy;rw [cF] at hy
     rcases alg.1 hy with hy | hy
     ·exact ih y hy
     ·split at hy
      ·rename_i v hv
       simp only [ali] at hy;subst hy;exact ala (getD_some hv)
      ·cases hy
   have hm:=this _ y hy;refine⟨?_,fun z hz=>PJ z (amt.2 ⟨some y.2,hm,hz⟩)⟩;obtain⟨i,hi⟩:=aly hm;have:=dI hi;have hl:=congrArg List.length this;simp only [alb,amu] at hl;omega
  obtain⟨gx,Gj⟩: ∃gx:Nat->List Int,gx=fun j=>((partsOf p).take j).flatMap fun x=>bV x.2:=⟨_,rfl⟩;have Ve: ∀j,(gx j).length<=480*j:=by
   intro j;rw [Gj]
   induction j with
   | zero=>simp
   | succ j ih=>
    dsimp only at ih ⊢;by_cases gQ:j < (partsOf p).length
    ·rw [alp gQ,alJ,alb];simp only [alX,an0,alh];have e1:=dO ((partsOf p)[j]).2;have e2:=(YG _ (alz gQ)).1;omega
    ·rw [aln (by omega)];rw [aln (by omega)] at ih;omega
  refine⟨fun b4 t46 mm2 w'=> ∃j:Nat,t46=j /\ j<=ys.length /\ mm2=ys.length - j /\ Hp S w0 w' (q.all b a.m u++ [tB b4 (uc++gx j),af rb 75 [.int .i64 e.1,.int .i64 e.2,.slice ps.a ps.len ps.cap],aj r4 75 3 rdv xs,T',aj ps 36 2 ck ys,ak (ys.map tV)]),⟨ys.length,0,rfl,by omega,rfl,by rw [Gj];exact h⟩,?_⟩;clear h;rintro b4 t46 mm2 PK ⟨j,rfl,GY,rfl,h⟩;by_cases dZ:j < ys.length
  ·refine aL (by simp;omega) ?_;have hy:ys[j]? =some ys[j]:=by simp [dZ]
   have Q4:(partsOf p)[j]? =some (bq ys[j]):=by rw [<-sJ,alc,hy];rfl
   generalize ys[j]=y at hy Q4;obtain⟨kd,sv,v⟩:=y;have Q4:(partsOf p)[j]? =some (kd,v):=Q4;have Vf:gx (j+1)=gx j++bV v:=by
    rw [Gj];dsimp only;have gQ:=(ak6.1 Q4).1;have QD:=(ak6.1 Q4).2;rw [alp gQ,alJ,QD];simp
   have hv:=YG _ (ala Q4);have haj:=Ve j;have hv1:v.length<=48:=hv.1;refine h.rf (s:=ps) (l:=ys) (f:=ck) (n:=2) (e:=36) 12 rfl (by omega) (by rw [ak7];exact hy) aR fun Is lF=>?_;refine dG (k:=.i .i64) (x:=kd) (lF 0 (by omega)) rfl ?_;refine jB (k:=.sl) (x:=sv) (lF 1 (by omega)) rfl ?_;refine h.nw (c:= [_,_]) fun pb Vg h=>?_;have h:=h.up;refine h.gz 8 rfl (by simp) rfl fun Wl h=>?_;refine h.st (n:=1) 8 rfl (by simp) rfl fun Ra h=>?_;have h:Hp S w0 Ra (q.all b a.m u++ [af pb 36 [.int .i64 kd,.slice sv.a sv.len sv.cap],tB b4 (uc++gx j++bV (v.take 0)),af rb 75 [.int .i64 e.1,.int .i64 e.2,.slice ps.a ps.len ps.cap],aj r4 75 3 rdv xs,T',aj ps 36 2 ck ys,ak (ys.map tV)]):=by
    have e0:bV (v.take 0)= []:=rfl;rw [e0,alh];exact h
   have Be:Hp.Reads (ak (ys.map tV)) sv 1 iv v:=⟨fun{w O} hO=>by
    obtain⟨O1,O2,g,_⟩:=dk (k:=j) (t:=tV (kd,sv,v)) (by rw [alc,hy];rfl) hO;exact⟨O1,cq.toR g⟩⟩
   have gJ:=h.dR 14 (u:=ak (ys.map tV)) rfl Be;refine h.ld (n:=1) (k:=.sl) (x:=sv) 8 rfl rfl ?_;refine⟨fun b5 t53 mm3 w'=> ∃i:Nat,t53=i /\ i<=v.length /\ mm3=v.length - i /\ Hp S w0 w' (q.all b a.m u++ [af pb 36 [.int .i64 kd,.slice sv.a sv.len sv.cap],tB b5 (uc++gx j++bV (v.take i)),af rb 75 [.int .i64 e.1,.int .i64 e.2,.slice ps.a ps.len ps.cap],aj r4 75 3 rdv xs,T',aj ps 36 2 ck ys,ak (ys.map tV)]),⟨v.length,0,rfl,by omega,rfl,h⟩,?_⟩;clear h;rintro b5 t53 mm3 YH ⟨i,rfl,hii,rfl,h⟩;by_cases pZ:i < v.length
   ·refine aL (by simp;omega) ?_;have hvi:v[i]? =some v[i]:=by simp [pZ]
    have dL:bV (v.take (i+1))=bV (v.take i)++bu (gL v[i]):=by
     unfold bV;rw [alp pZ,alJ];simp
    have qv:=hv.2 v[i] (alz pZ);have Il:=dO (v.take i);rw [alv] at Il;generalize v[i]=z at hvi dL qv;refine h.fH (k:=.i .i64) (u:=ak (ys.map tV)) (y:=z) (x:=z) 14 rfl Be (by omega) (by rw [ak7];exact hvi) aB rfl ?_;refine FP.Cr h 9 rfl Hp.bZ qv.1 qv.2 (by rw [alb,alb];omega) fun b6 Vh h=>?_;have h:=h.up;have h:Hp S w0 Vh ((q.all b a.m u++ [tB b6 (uc++gx j++bV (v.take i)++bu (gL z)),af pb 36 [.int .i64 kd,.slice sv.a sv.len sv.cap]])++ [tB b5 (uc++gx j++bV (v.take i))]++ [af rb 75 [.int .i64 e.1,.int .i64 e.2,.slice ps.a ps.len ps.cap],aj r4 75 3 rdv xs,T',aj ps 36 2 ck ys,ak (ys.map tV)]):=h;have h:=h.cZ;have h:Hp S w0 Vh (q.all b a.m u++ [tB b6 (uc++gx j++bV (v.take i)++bu (gL z))]++ [af pb 36 [.int .i64 kd,.slice sv.a sv.len sv.cap]]++ [af rb 75 [.int .i64 e.1,.int .i64 e.2,.slice ps.a ps.len ps.cap],aj r4 75 3 rdv xs,T',aj ps 36 2 ck ys,ak (ys.map tV)]):=h;have h:=h.ME;refine⟨v.length - (i+1),by omega,i+1,by rw [aI (by omega) (by omega)];omega,by omega,rfl,?_⟩;rw [dL,<-ale];exact h
   ·refine aJ (by simp;omega) ?_;rw [aln (by omega)] at h;have h:Hp S w0 YH (q.all b a.m u++ [af pb 36 [.int .i64 kd,.slice sv.a sv.len sv.cap]]++ [tB b5 (uc++gx j++bV v),af rb 75 [.int .i64 e.1,.int .i64 e.2,.slice ps.a ps.len ps.cap],aj r4 75 3 rdv xs,T',aj ps 36 2 ck ys,ak (ys.map tV)]):=h;have h:=h.cZ;refine⟨ys.length - (j+1),by omega,j+1,by rw [aI (by omega) (by omega)];omega,by omega,rfl,?_⟩;rw [Vf,<-ale];exact h
  ·refine aJ (by simp;omega) ?_;have haP:gx j=bV (flat p):=by
    rw [Gj];dsimp only;rw [aln (by omega),Vd]
   rw [haP,Px] at h;have h:=h.dv (i:=12) (j:=13) (e:=36) (n:=2) (cells:=ck) (sub:=tV) (vis:=bq) (s:=ps) (xs:=ys) (l:=partsOf p) (by decide) rfl rfl sJ;have HC:k < (xs.map gA).length:=by simpa using av
   have h:=h.iT (i:=11) (j:=12) (k:=k) (ts:=(xs.map gA).set k ao) (t:=gA (e,ps,partsOf p)) (by decide) rfl rfl (by rw [alx HC]) rfl;rw [al2] at h;have eb:(xs.map gA).set k (gA (e,ps,partsOf p))=xs.map gA:=Hp.jY (by rw [alc,hx];rfl);rw [eb] at h;have h:Hp S w0 PK (q.all b a.m u++ [tB b4 (uc++bV (flat p)),af rb 75 [.int .i64 e.1,.int .i64 e.2,.slice ps.a ps.len ps.cap],aj r4 75 3 rdv xs,ak (xs.map gA)]++ [ao,ao]):=h;have h:=h.front;have h:Hp S w0 PK ((q.all b a.m u++ [tB b4 (uc++bV (flat p))])++ [af rb 75 [.int .i64 e.1,.int .i64 e.2,.slice ps.a ps.len ps.cap]]++ [aj r4 75 3 rdv xs,ak (xs.map gA)]):=h;have h:=h.cZ;refine⟨xs.length - (k+1),by omega,k+1,by rw [aI (by omega) (by omega)];omega,by omega,rfl,?_⟩;rw [rJ];rw [Ln] at h;simp only [ale] at h ⊢;exact h
 ·refine aJ (by simp;omega) ?_;have qd:pre++acc k=a.snap:=by
   rw [EN,HE];dsimp only;rw [aln (by omega)];rfl
  rw [qd] at h;have h:Hp S w0 w7 (q.all b a.m u++ [tB b2 a.snap]++ [aj r4 75 3 rdv xs,ak (xs.map gA)]):=h;exact hK b2 w7 h.front
theorem kN (h:Hp S w0 w ae) (i:Nat) {b:Nat} {a:WA} (hi:ae[i]? =some (tW b a)) {K:Sl->World->Prop}
  (hK: ∀s w',Hp S w0 w' (ae++ [tB s a.snap])->K s w'):Qs (some ⟨b,0,none⟩) w K:=by
 obtain⟨O,h1,back⟩:=h.f1 hi rfl;clear h;obtain⟨q,aT,ht,hk,h⟩:=gf h1;rw [alh] at h;refine EU h aT ht hk fun s w' h=>?_;exact hK s w' (qu hi back rfl (dT (rest:= [_]) (m:=a.m) aT ht hk rfl rfl h))
end
open FI (pk)
def mw (x:KS):ByteArray×List ByteArray:=(x.1,x.2.2)
def aK (s:Sl) (l:KD):aa:=iA 107 2 df tF mw s l
def WA.new (ks:KD):WA:=⟨ks,⟨200,[],[],[]⟩,fun _=>none⟩
theorem WA.EV {ks:KD} (h:cY ks):(WA.new ks).Ok:=by
 refine⟨FI.PA (by decide) (by decide),rfl,h,fun e=>?_,fun e p hp=>by cases hp⟩;show false=ai.is ⟨200,[],[],[]⟩ e.1 e.2;unfold ai.is ai.bD;simp
def gg:KD:= [(⟨#[80,111,115]⟩,[⟨#[120]⟩,⟨#[121]⟩]),(⟨#[86,101,108]⟩,[⟨#[120]⟩]),(⟨#[68,101,97,100]⟩,[]),(⟨#[66,111,120]⟩,[⟨#[97]⟩,⟨#[98]⟩,⟨#[99]⟩,⟨#[100]⟩])]
theorem oW {L:List ByteArray} (h:(L.all fun x=>decide (eU (cJ x)))=true) (hn:L.Nodup):bB L:=fun i hi=>by
 refine⟨of_decide_eq_true (ame.1 h _ (alz hi)),fun hm=>?_⟩;obtain⟨j,hj,he⟩:=amd.1 hm;rw [List.getElem_take] at he;have:=(amh (i:=j) (j:=i) (by simp at hj;omega) hn).1 (by simp only [alf (show j < L.length by simp at hj;omega),alf hi,he]);simp at hj;omega
theorem HF:cY gg:=by
 refine⟨fun x hx=>?_,by decide,by decide,oW (by decide) (by decide)⟩;simp only [gg,alF,amp,or_false] at hx
 rcases hx with rfl | rfl | rfl | rfl
 ·exact⟨by decide,oW (by decide) (by decide)⟩
 ·exact⟨by decide,oW (by decide) (by decide)⟩
 ·exact⟨by decide,oW (by decide) (by decide)⟩
 ·exact⟨by decide,oW (by decide) (by decide)⟩
section
variable {S:List Nat} {w0 w:World} {ae:List aa}
theorem YI (h:Hp S w0 w ae) (i:Nat) {s:Sl} {l:KD} (hi:ae[i]? =some (aK s l)) (hl:l.length<=1000000) (dL: ∀x∈l,x.1.size<=1000000000000 /\ ∀y∈x.2,y.size<=1000000000000) {K:Option Addr->Int->World->Prop}
  (aT:cY l-> ∀b w',Hp S w0 w' (ae++ [tW b (WA.new l)])->K (some ⟨b,0,none⟩) 0 w') (dz: ¬cY l-> ∀w',Hp S w0 w' ae->K none 65 w'):Qt s w K:=by
 have jD:=(ak6.1 hi).1;obtain⟨xs,fx,h⟩:=h.du hi;have hk:kinds xs=l:=fx;have ja:xs.length=l.length:=by rw [<-fx,alr]
 have e1:(ae.set i (aj s 107 2 df xs)++ [ak (xs.map tF)])[i]? =some (aj s 107 2 df xs):=by
  rw [ak9 (by simpa using jD),alx jD]
 have e2:(ae.set i (aj s 107 2 df xs)++ [ak (xs.map tF)])[ae.length]? =some (ak (xs.map tF)):=by
  rw [ak8 (by simp)];simp
 have back: ∀{w':World} {more:List aa},Hp S w0 w' (ae.set i (aj s 107 2 df xs)++ [ak (xs.map tF)]++more)->Hp S w0 w' (ae++more):=fun{w' more} h=>by
  have h:=h.dv (i:=i) (j:=ae.length) (e:=107) (n:=2) (cells:=df) (sub:=tF) (vis:=mw) (s:=s) (xs:=xs) (l:=l) (by omega) (by rw [ak9 (by simp;omega)];exact e1) (by rw [ak9 (by simp)];exact e2) fx;have e3:((ae.set i (aj s 107 2 df xs)++ [ak (xs.map tF)]++more).set i (iA 107 2 df tF mw s l)).set ae.length ao=ae++ [ao]++more:=by
   rw [ale,amc _ _ (by simpa using jD),al2,alj _ _ (by simp),Hp.jY (x:=iA 107 2 df tF mw s l) hi];simp
  rw [e3] at h;exact h.cZ
 refine xu h i ae.length e1 e2 (by omega) (fun x hx=>?_) (fun hm b w' h=>?_) (fun hm w' h=>?_)
 ·have:=dL (x.1,x.2.2) (by rw [<-hk];exact alu.2 ⟨x,hx,rfl⟩);exact this
 ·rw [hk] at hm h;refine aT hm b w' ?_;have h:=back h;have h:=h.kq (i:=ae.length) (p:=(WA.new l).Ok /\ dS l (fun _=>none) (WA.new l).m.aE []) ⟨WA.EV hm,dS.new l⟩ alw rfl;rw [cM] at h;have h:=h.nH (i:=ae.length) (f:=fun T:List (Int×az)=>kZ ((WA.new l).Ok /\ dS (WA.new l).ks (WA.new l).row (WA.new l).m.aE T) (kD b ⟨(WA.new l).ks,(WA.new l).ar,(WA.new l).m.aE,T⟩)) [] alw rfl;rw [cM] at h;exact h
 ·rw [hk] at hm;refine dz hm w' ?_;have h:Hp S w0 w' (ae.set i (aj s 107 2 df xs)++ [ak (xs.map tF)]++ []):=by rw [alh];exact h
  have:=back h
  rwa [alh] at this
theorem EW (h:Hp S w0 w ae) {K:Sl->World->Prop} (hK: ∀s w',Hp S w0 w' (ae++ [aK s gg])->K s w'):c14 w K:=by
 refine SV ?_;unfold f14;refine h.K8 (l:= [(⟨#[120]⟩:ByteArray),⟨#[121]⟩]) (f:=sv) (n:=1) (c:= [_,_]) rfl rfl cW fun b1 w1 h=>?_;refine h.K8 (l:= [(⟨#[120]⟩:ByteArray)]) (f:=sv) (n:=1) (c:= [_]) rfl rfl cW fun b2 w2 h=>?_;have h:=h.nil 9 1 sv;refine h.K8 (l:= [(⟨#[97]⟩:ByteArray),⟨#[98]⟩,⟨#[99]⟩,⟨#[100]⟩]) (f:=sv) (n:=1) (c:= [_,_,_,_]) rfl rfl cW fun b3 w3 h=>?_;refine h.K8 (l:= [((⟨#[80,111,115]⟩,⟨some ⟨b1,0,none⟩,2,2⟩,[⟨#[120]⟩,⟨#[121]⟩]):KS),(⟨#[86,101,108]⟩,⟨some ⟨b2,0,none⟩,1,1⟩,[⟨#[120]⟩]),(⟨#[68,101,97,100]⟩,⟨none,0,0⟩,[]),(⟨#[66,111,120]⟩,⟨some ⟨b3,0,none⟩,4,4⟩,[⟨#[97]⟩,⟨#[98]⟩,⟨#[99]⟩,⟨#[100]⟩])]) (f:=df) (n:=2) (c:= [_,_,_,_,_,_,_,_]) rfl rfl bn fun b4 w4 h=>?_;have h:Hp S w0 w4 (ae++ [aj ⟨some ⟨b1,0,none⟩,2,2⟩ 9 1 sv [⟨#[120]⟩,⟨#[121]⟩],aj ⟨some ⟨b2,0,none⟩,1,1⟩ 9 1 sv [⟨#[120]⟩],aj ⟨none,0,0⟩ 9 1 sv [],aj ⟨some ⟨b3,0,none⟩,4,4⟩ 9 1 sv [⟨#[97]⟩,⟨#[98]⟩,⟨#[99]⟩,⟨#[100]⟩]]++ [aj ⟨some ⟨b4,0,none⟩,4,4⟩ 107 2 df [((⟨#[80,111,115]⟩,⟨some ⟨b1,0,none⟩,2,2⟩,[⟨#[120]⟩,⟨#[121]⟩]):KS),(⟨#[86,101,108]⟩,⟨some ⟨b2,0,none⟩,1,1⟩,[⟨#[120]⟩]),(⟨#[68,101,97,100]⟩,⟨none,0,0⟩,[]),(⟨#[66,111,120]⟩,⟨some ⟨b3,0,none⟩,4,4⟩,[⟨#[97]⟩,⟨#[98]⟩,⟨#[99]⟩,⟨#[100]⟩])]]):=by
  simpa using h
 have h:=h.Q1;rw [ale] at h;exact hK _ w4 (h.zI (vis:=mw) (sub:=tF) rfl)
def exA:WA:=((WA.new gg).spawn [(2,[7]),(1,[1,2])]).1
def YJ:WA:=(exA.spawn []).1
def exC:WA:=(YJ.add (1,1) (3,[])).1
def exD:WA:=(exC.add (1,1) (3,[])).1
def exE:WA:=(exD.da (0,1)).1
theorem ex1:((WA.new gg).spawn [(2,[7]),(1,[1,2])]).2=((0,1),0):=by decide
theorem ex2:(exA.spawn []).2=((1,1),0):=by decide
theorem ex3:(YJ.add (1,1) (3,[])).2=0:=by decide
theorem ex4:(exC.add (1,1) (3,[])).2=61:=by decide
theorem ex5:(exD.da (0,1)).2=0:=by decide
theorem ex6:exE.snap=cJ ⟨#[2,0,2,2,1,0,0,8]⟩:=by decide
end
end Go.Proofs.YtcccjgmekakabaaGreat.FW
end

section
namespace Go.Den
open Go
variable {κ ν:Type} [DecidableEq κ]
theorem ud: ∀(n:Nat) (L:List Nat),L.Nodup->(∀x∈L,x < n)->L.length<=n
 | 0,L,_,h=>by
  cases L with
  | nil=>simp
  | cons x L=>exact absurd (h x (by simp)) (by omega)
 | n+1,L,bJ,h=>by
  have h1:=ud n (L.erase n) (bJ.erase n) (fun x hx=>by
   have hm:=(bJ.mem_erase_iff).1 hx;have:=h x hm.2;have:=hm.1;omega)
  have h2:=List.length_erase (a:=n) (l:=L)
  split at h2 <;> omega
theorem zM: ∀(n:Nat) (L:List Nat),(∀j,j < n->j∈L)->n<=L.length
 | 0,_,_=>Nat.zero_le _
 | n+1,L,h=>by
  have h1:=zM n (L.erase n) (fun j hj=>(List.mem_erase_of_ne (by omega)).2 (h j (by omega)));rw [List.length_erase_of_mem (h n (by omega))] at h1;have:0 < L.length:=anT (h n (by omega));omega
def YK (w:World) (b:Nat) (ek:κ->Value) (ev:ν->Value) (g:κ->Option ν) (es:Array MapEntry) (clock:Nat) (l:List (κ×ν)):Prop:=
 w.heap[b]? =some (.map es clock) /\ es.toList.map (fun e=>(e.key,e.val))=l.map (fun p=>(ek p.1,ev p.2)) /\ tH (es.toList.map (·.born)) clock /\ (l.map (·.1)).Nodup /\ ∀k,ib l k=g k
def yV (b r:Nat) (ek:κ->Value) (ev:ν->Value) (g:κ->Option ν) (N:Nat) (done:List κ):aa:=
  { holds:=fun w O=>O= [b,r] /\ b≠r /\ ∃es clock l seen last,YK w b ek ev g es clock l /\ w.heap[r]? =some (.mapIter (some b) clock seen last) /\ clock<=last /\ (done= [] \/ last=clock) /\ l.length=N /\
      done.Nodup /\ ∃js:List Nat,js.length=done.length /\ seen.toList=js.map (fun j=>(es.toList.map (·.born)).getD j 0) /\ (∀n j:Nat,js[n]? =some j-> ∃p,l[j]? =some p /\ done[n]? =some p.1)
    fr:=fun{S w w' O} h hf hn=>by
      obtain⟨rfl,Vi,es,clock,l,seen,last,⟨h1,h2⟩,h3,h4⟩:=h;exact⟨rfl,Vi,es,clock,l,seen,last,⟨(hf.block b (als.1 h1).1 (hn b (by simp))).trans h1,h2⟩,(hf.block r (als.1 h3).1 (hn r (by simp))).trans h3,h4⟩
    lt:=fun{w O} h k hk=>by
      obtain⟨rfl,Vi,es,clock,l,seen,last,⟨h1,h2⟩,h3,h4⟩:=h;simp only [alF,amp,or_false] at hk
      rcases hk with rfl | rfl
      · exact(als.1 h1).1
      · exact(als.1 h3).1}
theorem run_next_at {P:Program} (w:World) (ty:TypeId) (r bm since c0:Nat) (seen:Array Nat) (es:Array MapEntry) (clock:Nat) (hr:w.heap[r]? =some (.mapIter (some bm) since seen c0)) (hb:w.heap[bm]? =some (.map es clock)) (hold: ∀x∈es.toList,x.born < since) (Mz:since<=c0):
  ((leftOf es seen).size=0 /\ (Instr.next (.pointer (some ⟨r,0,none⟩)) false ty).run P w=.ok (.tuple #[.bool false]) w) \/
  ∃e∈(leftOf es seen).toList,∃w1:World,(w1=w \/ w1=w.drew) /\ (Instr.next (.pointer (some ⟨r,0,none⟩)) false ty).run P w=.ok (.tuple #[.bool true,e.key,e.val]) ({ w1 with heap:=w1.heap.setIfInBounds r (.mapIter (some bm) since (seen.push e.born) clock)}):=by
 simp only [Instr.next,getObj,Sem.run_bind,Sem.run,hr,hb,Result.andThen,next_test_false seen es since c0 hold Mz,amk,if_false];unfold leftOf;have dF: ∀x∈(Array.filter (fun e=> !seen.contains e.born) es).toList,x.born < since:=fun x hx=>hold x (by simp at hx ⊢;exact hx.1);generalize Array.filter (fun e=> !seen.contains e.born) es=L at dF ⊢;have e1:L.filter (fun x=>decide (x.born < since))=L:=Array.filter_eq_self.2 (fun x hx=>by simpa using dF x (by simpa using hx));have e2:L.filter (fun x=>decide (x.born>=since))=#[]:=by
  rw [Array.filter_eq_empty_iff];intro x hx;have:=dF x (by simpa using hx);simp;omega
 simp only [e1,e2,Array.append_empty];by_cases h0:L.size=0
 ·left;have:L=#[]:=Array.eq_empty_of_size_eq_zero h0;subst this;refine⟨rfl,?_⟩;simp [choose,Sem.run,Question.forced]
 ·right;have aW:L.isEmpty=false:=by simp [Array.isEmpty,h0]
  simp only [aW,amk,if_false,Array.empty_append,Array.size_map];have hch: ∃(j:Nat) (w1:World),j < L.size /\ (w1=w \/ w1=w.drew) /\ (choose (Question.mapNext L.size)).run P w=.ok j w1:=by
   by_cases hf:L.size<=1
   ·exact⟨0,w,by omega,.inl rfl,by simp [choose,Sem.run,Question.forced,hf]⟩
   ·exact⟨_,w.drew,Nat.mod_lt _ (by omega),.inr rfl,by
     simp only [choose,Sem.run,Question.forced,decide_eq_true_eq,hf,if_false,Question.cut];rfl⟩
  obtain⟨j,w1,hj,ig,DA⟩:=hch;refine⟨L[j],by simp,w1,ig,?_⟩;have ze:w1.heap[r]? =some (.mapIter (some bm) since seen c0):=by rcases ig with rfl | rfl <;> exact hr
  have jE: ∀o':Obj,(setObj r o').run P w1=.ok () { w1 with heap:=w1.heap.setIfInBounds r o'}:=fun o'=>by
   simp only [setObj,Sem.run];rw [ze]
  simp only [DA,Array.getElem?_map,amU hj,al8,Sem.run_bind,jE,Result.andThen];rfl
theorem left_at {es:Array MapEntry} {seen:Array Nat} {e:MapEntry} (he:e∈(leftOf es seen).toList): ∃j:Nat,es.toList[j]? =some e /\ e.born ∉ seen.toList:=by
 have:=mem_left he;obtain⟨j,hj⟩:=aly this.1;refine⟨j,hj,fun hm=>?_⟩;have h2:=this.2;simp only [an5,decide_eq_false_iff_not] at h2;exact h2 (Array.mem_toList_iff.1 hm)
namespace Hp
variable {S:List Nat} {w0 w:World} {ae:List aa} {P:Program} {ek:κ->Value} {ev:ν->Value} {g:κ->Option ν}
theorem oX (h:Hp S w0 w ae) (i:Nat) {b:Nat} {mt kt vt:TypeId} {K:Option Addr->World->Prop} (hi:ae[i]? =some (dW b ek ev g)) (hm:P.underlying mt=some (.map kt vt))
  (hK: ∀r N w',Hp S w0 w' (ae.set i (yV b r ek ev g N []))->K (some ⟨r,0,none⟩) w'):cA .p P (Instr.range mt (.map (some b))) w K:=by
 obtain⟨O,⟨l,⟨⟨es,clock,hb,p6,bW⟩,rfl⟩,bJ,hg⟩,back⟩:=h.step hi rfl;have av:=(als.1 hb).1;refine⟨some ⟨w.heap.size,0,none⟩,w.alloc (.mapIter (some b) clock #[] clock),run_range_map w mt kt vt b es clock hm hb,hK _ l.length _ ?_⟩;refine back ((Fr.alloc w _).mono (by simp)) (t':=yV b w.heap.size ek ev g l.length []) (O':= [b,w.heap.size]) ?_ (fun k hk=>?_) rfl
 ·refine⟨rfl,by omega,es,clock,l,#[],clock,⟨(heap_alloc_old w _ av).trans hb,p6,bW,bJ,hg⟩,heap_alloc_new w _,alA _,.inl rfl,rfl,by simp,[],rfl,rfl,by simp⟩
 ·simp only [alF,amp,or_false] at hk
  rcases hk with rfl | rfl
  ·exact .inl (by simp)
  ·exact .inr (alA _)
theorem qV (h:Hp S w0 w ae) (i:Nat) {b r N:Nat} {ty:TypeId} {done:List κ} {K0:World->Prop} {K1:Value->Value->World->Prop} (hi:ae[i]? =some (yV b r ek ev g N done))
  (h0:(∀k,(g k).isSome=true->k∈done)->done.length=N->Hp S w0 w ae->K0 w)
  (h1: ∀k v x1 x2 w',g k=some v->k ∉ done->done.length < N->Hp S w0 w' (ae.set i (yV b r ek ev g N (done++ [k])))->K1 x1 x2 w'):Ww P (.pointer (some ⟨r,0,none⟩)) ty w K0 K1:=by
 obtain⟨O,⟨rfl,Vi,es,clock,l,seen,last,⟨hb,p6,bW,bJ,hg⟩,hr,hle,me,hN,Ij,js,gQ,zN,Rb⟩,back⟩:=h.step hi rfl;have Il:es.toList.length=l.length:=by have:=congrArg List.length p6;simpa using this
 have hold: ∀x∈es.toList,x.born < clock:=fun x hx=>bW.2 _ (alu.2 ⟨x,hx,rfl⟩);have hbj: ∀(j:Nat) (e:MapEntry),es.toList[j]? =some e->(es.toList.map (·.born)).getD j 0=e.born:=fun j e he=>by
  rw [alk,alc,he];rfl
 have PF: ∀(i j:Nat),i < l.length->(es.toList.map (·.born)).getD i 0=(es.toList.map (·.born)).getD j 0->j < l.length->i=j:=fun i j hi he hj=>by
  refine(amh (i:=i) (j:=j) (l:=es.toList.map (·.born)) (by rw [alr];omega) bW.1).1 ?_;rw [alk,alk] at he;have a1:(es.toList.map (·.born))[i]? =some ((es.toList.map (·.born))[i]'(by rw [alr];omega)):=alf _;have a2:(es.toList.map (·.born))[j]? =some ((es.toList.map (·.born))[j]'(by rw [alr];omega)):=alf _;rw [a1,a2] at he ⊢
  simpa using he
 have lH: ∀(i j:Nat) (p q:κ×ν),l[i]? =some p->l[j]? =some q->p.1=q.1->i=j:=fun i j p q hi hj he=>
  (amh (i:=i) (j:=j) (l:=l.map (·.1)) (by simpa using (ak6.1 hi).1) bJ).1 (by rw [alc,alc,hi,hj];simp [he])
 have dZ: ∀n j:Nat,js[n]? =some j->j < l.length:=fun n j hn=>by
  obtain⟨p,hp,_⟩:=Rb n j hn;exact(ak6.1 hp).1
 have YL:js.Nodup:=by
  rw [amq,amG];intro n m MF hm yF he;have gG:js[m]? =some js[m]:=alf hm;obtain⟨p,hp,hd⟩:=Rb m _ gG;obtain⟨p',uv,hd'⟩:=Rb n js[m] (by rw [alf MF,he]);rw [hp] at uv;obtain rfl:=alm uv;have:=(amh (i:=n) (j:=m) (l:=done) (by omega) Ij).1 (by rw [hd,hd']);omega
 have hdl:done.length<=l.length:=by
  rw [<-gQ];exact ud l.length js YL (fun x hx=>by
   obtain⟨n,hn⟩:=aly hx;exact dZ n x hn)
 rcases run_next_at (P:=P) w ty r b clock last seen es clock hr hb hold hle with ⟨hz,DA⟩ | ⟨e,he,w1,IY,DA⟩
 ·refine⟨_,_,DA,.inl ⟨rfl,h0 (fun k hk=>?_) ?_ h⟩⟩
  ·obtain⟨v,hv⟩:=amv.1 hk;rw [<-hg,jN] at hv;obtain⟨p,hp,rfl⟩:=alH.1 hv;have UG:=ans hp;simp only [decide_eq_true_eq] at UG;obtain⟨j,hj⟩:=aly (amT hp);have Lo:=(ak6.1 hj).1;have HG:es.toList[j]? =some (es.toList[j]'(by omega)):=alf _;have vC:(es.toList[j]'(by omega)).born∈seen.toList:=by
    refine Classical.byContradiction fun dz=>?_;have hm:(es.toList[j]'(by omega))∈(leftOf es seen).toList:=by
     unfold leftOf;rw [Array.toList_filter,ama];refine⟨alz _,?_⟩;simp only [an5,alS,decide_eq_false_iff_not];exact fun hm=>dz (Array.mem_toList_iff.2 hm)
    have:(leftOf es seen).toList= []:=by
     rw [<-anr,anp];exact hz
    rw [this] at hm
    cases hm
   rw [zN] at vC;obtain⟨j',eA,lT⟩:=alu.1 vC;obtain⟨n,hn⟩:=aly eA;have nc:=dZ n j' hn;rw [<-hbj j _ HG] at lT;have:=PF j' j nc lT Lo;subst this;obtain⟨q,hq,YM⟩:=Rb n j' hn;rw [hj] at hq;obtain rfl:=alm hq;rw [UG] at YM;exact ala YM
  ·-- all have come
   have bz: ∀j,j < l.length->j∈js:=fun j hj=>by
    have HG:es.toList[j]? =some (es.toList[j]'(by omega)):=alf _;have vC:(es.toList[j]'(by omega)).born∈seen.toList:=by
     refine Classical.byContradiction fun dz=>?_;have hm:(es.toList[j]'(by omega))∈(leftOf es seen).toList:=by
      unfold leftOf;rw [Array.toList_filter,ama];refine⟨alz _,?_⟩;simp only [an5,alS,decide_eq_false_iff_not];exact fun hm=>dz (Array.mem_toList_iff.2 hm)
     have:(leftOf es seen).toList= []:=by
      rw [<-anr,anp];exact hz
     rw [this] at hm
     cases hm
    rw [zN] at vC;obtain⟨j',eA,lT⟩:=alu.1 vC;obtain⟨n,hn⟩:=aly eA;rw [<-hbj j _ HG] at lT;have:=PF j' j (dZ n j' hn) lT hj;subst this;exact eA
   have:=zM l.length js bz;omega
 ·obtain⟨j,HG,aeh⟩:=left_at he;have Lo:j < l.length:=by have:=(ak6.1 HG).1;omega
  have KP:l[j]? =some l[j]:=alf Lo;have Im:e.key=ek (l[j]).1 /\ e.val=ev (l[j]).2:=by
   have:=congrArg (fun x=>x[j]?) p6;simp only [alc,HG,KP,al8,ald,amA] at this;exact this
  have zy:g (l[j]).1=some (l[j]).2:=by
   rw [<-hg,jN];have:l.find? (fun p=>decide (p.1=(l[j]).1))=some l[j]:=by
    cases hf:l.find? (fun p=>decide (p.1=(l[j]).1)) with
    | none=>
     have:=ant.1 hf l[j] (alz _);simp at this
    | some q=>
     have hq:=ans hf;simp only [decide_eq_true_eq] at hq;obtain⟨j',eA⟩:=aly (amT hf);have:=lH j' j q _ eA KP hq;subst this;rw [KP] at eA;exact eA.symm
   rw [this];rfl
  have YN:j ∉ js:=fun hm=>aeh (by rw [zN];exact alu.2 ⟨j,hm,hbj j e HG⟩);have YO:(l[j]).1 ∉ done:=fun hm=>by
   obtain⟨n,hn⟩:=aly hm;have lL:=(ak6.1 hn).1;have Qr:js[n]? =some (js[n]'(by omega)):=alf _;obtain⟨q,hq,YM⟩:=Rb n _ Qr;rw [hn] at YM;have:=lH _ j q _ hq KP (alm YM).symm;rw [this] at Qr;exact YN (ala Qr)
  have hlN:done.length < N:=by
   have:=ud l.length (j :: js) (al6.2 ⟨YN,YL⟩) (fun x hx=>by
    rcases alF.1 hx with rfl | hx
    ·exact Lo
    ·obtain⟨n,hn⟩:=aly hx;exact dZ n x hn)
   simp only [alQ] at this;omega
  have dL:w1.heap=w.heap /\ w1.os=w.os /\ w1.tape=w.tape /\ w1.output=w.output:=by rcases IY with rfl | rfl <;> exact⟨rfl,rfl,rfl,rfl⟩
  have eT:=(als.1 hr).1;have yM:=(als.1 hb).1;refine⟨_,_,DA,.inr ⟨e.key,e.val,rfl,h1 (l[j]).1 (l[j]).2 _ _ _ zy YO hlN ?_⟩⟩;refine back (w':={ w1 with heap:=w1.heap.setIfInBounds r (.mapIter (some b) clock (seen.push e.born) clock)}) (t':=yV b r ek ev g N (done++ [(l[j]).1])) (O':= [b,r]) ⟨dL.2.1,dL.2.2.1,dL.2.2.2,by show w.heap.size<=(w1.heap.setIfInBounds r _).size;simp [dL.1],fun k hk hn=>?_⟩ ?_ (fun k hk=>.inl hk) rfl
  ·show (w1.heap.setIfInBounds r _)[k]? =w.heap[k]?;rw [dL.1,Array.getElem?_setIfInBounds_ne (fun e=>hn (by simp [e]))]
  ·refine⟨rfl,Vi,es,clock,l,seen.push e.born,clock,⟨?_,p6,bW,bJ,hg⟩,?_,alA _,.inr rfl,hN,?_,js++ [j],by simp [gQ],?_,?_⟩
   ·show (w1.heap.setIfInBounds r _)[b]? =_;rw [dL.1,Array.getElem?_setIfInBounds_ne (fun e=>Vi e.symm)];exact hb
   ·show (w1.heap.setIfInBounds r _)[r]? =_;rw [dL.1,Array.getElem?_setIfInBounds_self_of_lt eT]
   ·rw [al1];exact⟨Ij,by simp,fun a ha c hc=>by simp only [ali] at hc;subst hc;exact fun e=>YO (e ▸ ha)⟩
   ·rw [Array.toList_push,alW,zN];simp only [alR,amK];rw [hbj j e HG]
   ·intro n m hn;by_cases av:n < js.length
    ·rw [ak9 av] at hn;obtain⟨q,hq,hd⟩:=Rb n m hn;exact⟨q,hq,by rw [ak9 (by omega)];exact hd⟩
    ·rw [ak8 (by omega)] at hn;have h00:n - js.length=0:=by
      rcases amL (n - js.length) with h | h
      ·exact h
      ·rw [alE (by simp;omega)] at hn;cases hn
     rw [h00] at hn;obtain rfl:=alm hn;refine⟨_,KP,?_⟩;rw [ak8 (by omega),show n - done.length=0 by omega];rfl
theorem oY (h:Hp S w0 w ae) (i:Nat) {b r N:Nat} {done:List κ} {k:κ} {v:ν} {K:Value->Value->World->Prop} (hi:ae[i]? =some (yV b r ek ev g N (done++ [k]))) (zy:g k=some v) (hK:K (ek k) (ev v) w):Wx P (.pointer (some ⟨r,0,none⟩)) w K:=by
 obtain⟨O,rfl,Vi,es,clock,l,seen,last,⟨hb,p6,bW,bJ,hg⟩,hr,hle,me,hN,Ij,js,gQ,zN,Rb⟩:=h.kY hi;have me:last=clock:=by
  rcases me with h | h
  ·simp at h
  ·exact h
 subst me;have hn:js[done.length]? =some (js[done.length]'(by rw [gQ];simp)):=alf _;obtain⟨p,hp,hd⟩:=Rb _ _ hn;have UG:p.1=k:=by
  rw [ak8 (alA _),alK] at hd;exact(alm hd).symm
 generalize js[done.length]'(by rw [gQ];simp)=j at hn hp hd;have Lo:=(ak6.1 hp).1;have Il:es.toList.length=l.length:=by have:=congrArg List.length p6;simpa using this
 have HG:es.toList[j]? =some (es.toList[j]'(by omega)):=alf _;have Im:(es.toList[j]'(by omega)).key=ek p.1 /\ (es.toList[j]'(by omega)).val=ev p.2:=by
  have:=congrArg (fun x=>x[j]?) p6;simp only [alc,HG,hp,al8,ald,amA] at this;exact this
 have qR:p.2=v:=by
  have h1:ib l k=some v:=by rw [hg];exact zy
  rw [jN] at h1;obtain⟨q,hq,hqv⟩:=alH.1 h1;have Wb:=ans hq;simp only [decide_eq_true_eq] at Wb;obtain⟨j',eA⟩:=aly (amT hq);have:j'=j:=(amh (i:=j') (j:=j) (l:=l.map (·.1)) (by simpa using (ak6.1 eA).1) bJ).1 (by rw [alc,alc,eA,hp];simp [Wb,UG]);subst this;rw [hp] at eA;rw [alm eA];exact hqv
 generalize es.toList[j]'(by omega)=e at HG Im;have Cz:seen.back? =some e.born:=by
  have h1:seen.toList.getLast? =some e.born:=by
   rw [zN];have aei:js=js.take done.length++ [j]:=by
    have hl:js.length=done.length+1:=by rw [gQ];simp
    have h1:=alp (l:=js) (i:=done.length) (by omega);have h2:js.take (done.length+1)=js:=aln (by omega);have h3:js[done.length]'(by omega)=j:=by
     rw [alf (by omega)] at hn;exact alm hn
    rw [h3] at h1;exact h2.symm.trans h1
   rw [aei,alW];simp only [alR,amK,List.getLast?_append,List.getLast?_singleton,Option.some_or];rw [alk,alc,HG];rfl
  rw [<-Array.getLast?_toList];exact h1
 have hf:es.find? (·.born ==e.born)=some e:=by rw [<-Array.find?_toList];exact find_born e es.toList bW.1 (ala HG)
 refine⟨e.key,e.val,?_,?_⟩
 ·simp only [Instr.entry,getObj,Sem.run_bind,Sem.run,hr,hb,Result.andThen,Cz,bne_self_eq_false,amk,if_false,hf];rfl
 ·rw [Im.1,Im.2,UG,qR];exact hK
theorem qW (h:Hp S w0 w ae) {i b r N:Nat} {done:List κ} (hi:ae[i]? =some (yV b r ek ev g N done)):Hp S w0 w (ae.set i (dW b ek ev g)):=
 h.less hi rfl (fun w O hO=>by
  obtain⟨rfl,Vi,es,clock,l,seen,last,⟨hb,p6,bW,bJ,hg⟩,_⟩:=hO;exact⟨[b],⟨l,⟨⟨es,clock,hb,p6,bW⟩,rfl⟩,bJ,hg⟩,by simp⟩) rfl
end Hp
def kO (y:Option Addr) (o:Obj):aa:=
  { holds:=fun w O=>(y=none /\ O= []) \/ ∃b,y=some ⟨b,0,none⟩ /\ w.heap[b]? =some o /\ O= [b]
    fr:=fun{S w w' O} h hf hn=>by
      rcases h with h | ⟨b,h1,h2,rfl⟩
      · exact .inl h
      · exact .inr ⟨b,h1,(hf.block b (als.1 h2).1 (hn b (by simp))).trans h2,rfl⟩
    lt:=fun{w O} h k hk=>by
      rcases h with ⟨_,rfl⟩ | ⟨b,h1,h2,rfl⟩
      · cases hk
      · simp only [ali] at hk;subst hk;exact(als.1 h2).1}
namespace Hp
variable {S:List Nat} {w0 w:World} {ae:List aa}
theorem YP (h:Hp S w0 w ae) (o:Obj):Hp S w0 w (ae++ [kO none o]):=
 h.grow (Fr.refl _ _) (t:=kO none o) (O:= []) (.inl ⟨rfl,rfl⟩) (by simp) rfl
theorem EX (h:Hp S w0 w ae) {i:Nat} {o:Obj} (hi:ae[i]? =some (kO none o)):Hp S w0 (w.alloc o) (ae.set i (kO (some ⟨w.heap.size,0,none⟩) o)):=by
 obtain⟨O,hO,back⟩:=h.step hi rfl
 rcases hO with ⟨_,rfl⟩ | ⟨b,hb,_⟩
 ·exact back (t':=kO (some ⟨w.heap.size,0,none⟩) o) (O':= [w.heap.size]) (Fr.alloc w _) (.inr ⟨_,rfl,heap_alloc_new w o,rfl⟩) (by simp) rfl
 ·cases hb
theorem aej (h:Hp S w0 w ae) (i:Nat) {y:Option Addr} {o:Obj} {K:Option Addr->World->Prop} (hi:ae[i]? =some (kO y o))
  (hK: ∀y' w',Hp S w0 w' (ae.set i (kO y' o))->K y' w'):vI [(o,y)] w K:=by
 refine EI (P:=fun ys w'=> ∃y,ys= [y] /\ Hp S w0 w' (ae.set i (kO y o))) ?_ ?_ _ _ _ ⟨y,rfl,by rw [bN hi];exact h⟩
 ·rintro ys w' ⟨y,rfl,h⟩;exact hK y w' h
 ·rintro ys w' q o' ⟨y,rfl,h⟩ ho hy;have li:=(ak6.1 hi).1
  match q,ho,hy with
  | 0,ho,hy=>
   simp only [alR,alo,ald] at ho hy;subst ho;subst hy;refine⟨_,rfl,?_⟩;have h2:=h.EX (i:=i) (o:=o) (by simp [li]);rw [al2] at h2;exact h2
  | q+1,ho,hy=>simp at hy
theorem Lp (h:Hp S w0 w ae) (i j:Nat) (iZ:i≠j) {y1 y2:Option Addr} {o1 o2:Obj} {K:Option Addr->Option Addr->World->Prop} (hi:ae[i]? =some (kO y1 o1)) (hj:ae[j]? =some (kO y2 o2))
  (hK: ∀y1' y2' w',Hp S w0 w' ((ae.set i (kO y1' o1)).set j (kO y2' o2))->K y1' y2' w'):vI [(o1,y1),(o2,y2)] w K:=by
 have li:=(ak6.1 hi).1;have lj:=(ak6.1 hj).1;refine EI (P:=fun ys w'=> ∃y1 y2,ys= [y1,y2] /\ Hp S w0 w' ((ae.set i (kO y1 o1)).set j (kO y2 o2))) ?_ ?_ _ _ _ ⟨y1,y2,rfl,by rw [bN hi,bN hj];exact h⟩
 ·rintro ys w' ⟨y1,y2,rfl,h⟩;exact hK y1 y2 w' h
 ·rintro ys w' q o ⟨y1,y2,rfl,h⟩ ho hy
  match q,ho,hy with
  | 0,ho,hy=>
   simp only [alR,alo,ald] at ho hy;subst ho;subst hy;refine⟨_,y2,rfl,?_⟩;have h2:=h.EX (i:=i) (o:=o1) (by rw [alC (Ne.symm iZ)];simp [li]);rw [anL _ _ (Ne.symm iZ),al2] at h2;exact h2
  | 1,ho,hy=>
   simp only [alR,alo,alP,ald] at ho hy;subst ho;subst hy;refine⟨y1,_,rfl,?_⟩;have h2:=h.EX (i:=j) (o:=o2) (by simp [lj]);rw [al2] at h2;exact h2
  | q+2,ho,hy=>simp at hy
theorem Rc (h:Hp S w0 w ae) (i:Nat) {y:Option Addr} {o:Obj} {K:Addr->Prop} (hi:ae[i]? =some (kO y o))
  (hK: ∀b,Hp S w0 w (ae.set i (U0 b o))->K ⟨b,0,none⟩):td y K:=by
 cases y with
 | none=>trivial
 | some a=>
  obtain⟨O,hO,back⟩:=h.step hi rfl
  rcases hO with ⟨h1,_⟩ | ⟨b,hb,h2,rfl⟩
  ·cases h1
  ·simp only [ald] at hb;subst hb;exact hK b (back (Fr.refl _ _) (t':=U0 b o) (O':= [b]) ⟨rfl,h2⟩ (fun k hk=>.inl hk) rfl)
theorem Rd {κ ν:Type} [DecidableEq κ] (h:Hp S w0 w ae) {i b:Nat} (ek:κ->Value) (ev:ν->Value) (hi:ae[i]? =some (U0 b (.map #[] 0))):Hp S w0 w (ae.set i (dW b ek ev fun _=>none)):=
 h.rP hi rfl (fun w O hO=>⟨[],⟨⟨#[],0,hO.2,rfl,by simp [tH]⟩,hO.1⟩,by simp,fun k=>rfl⟩) rfl
end Hp
end Go.Den
end
