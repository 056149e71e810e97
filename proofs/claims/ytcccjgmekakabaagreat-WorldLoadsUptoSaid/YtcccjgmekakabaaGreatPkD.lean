/-
  Part 4 of the proof:WorldLoads of layer 6 is true of the given program for every input that its guards let in (of bulk at most 1048576).
-/
import Derived.Test.YtcccjgmekakabaaGreatPkC
import Derived.MapKept
import Derived.Laws.Externs
import Derived.Lib.Overlaps
import Derived.Lib.AppendZerosOnto
import Derived.Lib.AppendStr
import Derived.Lib.ConvBytes
set_option linter.unusedSimpArgs false
set_option linter.unusedVariables false
set_option maxRecDepth 100000
section
namespace Go.Den
open Go.RowKit
def ai (b:Nat) (e:TypeId) (c:List Value):aa:=
  { holds:=fun w O=>fz w b e c /\ O= [b]
    fr:=fun h hf hn=>⟨h.1.fr hf (hn b (by rw [h.2];simp)),h.2⟩
    lt:=fun h k hk=>by rw [h.2] at hk;simp only [afF] at hk;subst hk;exact h.1.lt}
def aj {α:Type} (s:Sl) (e:TypeId) (n:Nat) (f:α->List Value) (l:List α):aa:=
  { holds:=fun w O=>cA w s e n f l O
    fr:=fun h hf hn=>h.fr hf hn
    lt:=fun h=>h.lt}
def kG {α:Type} (s:Sl) (n:Nat) (f:α->List Value) (l:List α):aa:=
  { holds:=fun w O=>cf w s n f l O
    fr:=fun h hf hn=>h.fr hf hn
    lt:=fun h=>h.lt}
def ao:aa:=
  { holds:=fun w O=>O= []
    fr:=fun h _ _=>h
    lt:=fun h k hk=>by rw [h] at hk;cases hk}
def aX (a b:aa):aa:=
  { holds:=fun w O=> ∃O1 O2,a.holds w O1 /\ b.holds w O2 /\ (∀k∈O1,k ∉ O2) /\ ∀k,k∈O↔k∈O1 \/ k∈O2
    fr:=fun⟨O1,O2,h1,h2,h3,h4⟩ hf hn=>⟨O1,O2,a.fr h1 hf (fun k hk=>hn k ((h4 k).2 (.inl hk))),b.fr h2 hf (fun k hk=>hn k ((h4 k).2 (.inr hk))),h3,h4⟩
    lt:=fun⟨O1,O2,h1,h2,h3,h4⟩ k hk=>((h4 k).1 hk).elim (a.lt h1 k) (b.lt h2 k)}
def KK {α:Type} (f:α->aa):aa:=
  { holds:=fun w O=> ∃x,(f x).holds w O
    fr:=fun⟨x,h⟩ hf hn=>⟨x,(f x).fr h hf hn⟩
    lt:=fun⟨x,h⟩=>(f x).lt h}
def kz (p:Prop) (t:aa):aa:=
  { holds:=fun w O=>p /\ t.holds w O
    fr:=fun⟨x,h⟩ hf hn=>⟨x,t.fr h hf hn⟩
    lt:=fun⟨x,h⟩=>t.lt h}
def an:List aa->aa
 | []=>ao
 | t :: ts=>aX t (an ts)
theorem aK: ∀ts:List aa,(an ts).own=true
 | []=>rfl
 | _ :: _=>rfl
def uA (L:List Nat) (clock:Nat):Prop:=L.Nodup /\ ∀x∈L,x < clock
def SX (w:World) (b:Nat) (l:List (Value×Value)):Prop:=
 ∃es clock,w.heap[b]? =some (.map es clock) /\ es.toList.map (fun e=>(e.key,e.val))=l /\ uA (es.toList.map (·.born)) clock
def D5 (b:Nat) (l:List (Value×Value)):aa:=
  { holds:=fun w O=>SX w b l /\ O= [b]
    fr:=fun{S w w' O} h hf hn=>by
      obtain⟨⟨es,clock,h1,h2⟩,rfl⟩:=h
      exact⟨⟨es,clock,(hf.block b (afL.1 h1).1 (hn b (by simp))).trans h1,h2⟩,rfl⟩
    lt:=fun{w O} h k hk=>by
      obtain⟨⟨es,clock,h1,h2⟩,rfl⟩:=h
      simp only [afF] at hk
      subst hk
      exact(afL.1 h1).1}
theorem dx: ∀{ts:List aa} {k:Nat} {t:aa} {w:World} {O:List Nat},ts[k]? =some t->(an ts).holds w O->
  ∃O1 O2,t.holds w O1 /\ (an (ts.set k ao)).holds w O2 /\ (∀k∈O1,k ∉ O2) /\ ∀k,k∈O↔k∈O1 \/ k∈O2
 | [],k,t,w,O,hk,h=>by simp at hk
 | u :: ts,0,t,w,O,hk,h=>by
  simp only [afJ,afy] at hk
  subst hk
  obtain⟨O1,O2,h1,h2,h3,h4⟩:=h
  refine⟨O1,O2,h1,⟨[],O2,rfl,h2,by simp,by simp⟩,h3,h4⟩
 | u :: ts,k+1,t,w,O,hk,h=>by
  obtain⟨O1,O2,h1,h2,h3,h4⟩:=h
  obtain⟨P1,P2,g1,g2,g3,g4⟩:=dx (k:=k) (t:=t) (by simpa using hk) h2
  refine⟨P1,O1++P2,g1,⟨O1,P2,h1,g2,fun k hk bG=>h3 k hk ((g4 k).2 (.inr bG)),by simp⟩,?_,?_⟩
  ·intro k hk bG
   rcases afB.1 bG with h | h
   ·exact h3 k h ((g4 k).2 (.inl hk))
   ·exact g3 k hk h
  ·intro k
   rw [h4,g4,afB]
   constructor
   ·rintro(h | h | h)
    ·exact .inr (.inl h)
    ·exact .inl h
    ·exact .inr (.inr h)
   ·rintro(h | h | h)
    ·exact .inr (.inl h)
    ·exact .inl h
    ·exact .inr (.inr h)
theorem zz: ∀{ts:List aa} {k:Nat} {t:aa} {w:World} {O1 O2:List Nat},ts[k]? =some ao->t.holds w O1->(an ts).holds w O2->(∀k∈O1,k ∉ O2)->(an (ts.set k t)).holds w (O1++O2)
 | [],k,t,w,O1,O2,hk,_,_,_=>by simp at hk
 | u :: ts,0,t,w,O1,O2,hk,h1,h2,h3=>by
  simp only [afJ,afy] at hk
  subst hk
  obtain⟨P1,P2,g1,g2,g3,g4⟩:=h2
  have g1':P1= []:=g1
  subst g1'
  exact⟨O1,P2,h1,g2,fun k hk bG=>h3 k hk ((g4 k).2 (.inr bG)),fun k=>by rw [afB,g4];simp⟩
 | u :: ts,k+1,t,w,O1,O2,hk,h1,h2,h3=>by
  obtain⟨P1,P2,g1,g2,g3,g4⟩:=h2
  have ih:=zz (k:=k) (t:=t) (by simpa using hk) h1 g2 (fun k hk bG=>h3 k hk ((g4 k).2 (.inr bG)))
  refine⟨P1,O1++P2,g1,ih,?_,?_⟩
  ·intro k hk bG
   rcases afB.1 bG with h | h
   ·exact h3 k h ((g4 k).2 (.inl hk))
   ·exact g3 k hk h
  ·intro k
   rw [afB,g4,afB]
   constructor
   ·rintro(h | h | h)
    ·exact .inr (.inl h)
    ·exact .inl h
    ·exact .inr (.inr h)
   ·rintro(h | h | h)
    ·exact .inr (.inl h)
    ·exact .inl h
    ·exact .inr (.inr h)
theorem iy: ∀{ts us:List aa} {w:World} {O1 O2:List Nat},(an ts).holds w O1->(an us).holds w O2->(∀k∈O1,k ∉ O2)->(an (ts++us)).holds w (O1++O2)
 | [],us,w,O1,O2,h1,h2,_=>by
  have:O1= []:=h1
  subst this
  simpa using h2
 | t :: ts,us,w,O1,O2,h1,h2,h3=>by
  obtain⟨P1,P2,g1,g2,g3,g4⟩:=h1
  refine⟨P1,P2++O2,g1,iy g2 h2 (fun k hk=>h3 k ((g4 k).2 (.inr hk))),?_,?_⟩
  ·intro k hk bG
   rcases afB.1 bG with h | h
   ·exact g3 k hk h
   ·exact h3 k ((g4 k).2 (.inl hk)) h
  ·intro k
   rw [afB,g4,afB]
   exact or_assoc
namespace Hp
variable {S:List Nat} {w0 w:World} {ae:List aa}
theorem at_ {t:aa} {i:Nat} (hi:(ae[i]?).map aa.holds=some t.holds): ∃u,ae[i]? =some u /\ u.holds=t.holds:=by
 rw [af2] at hi
 exact hi
theorem dQ (h:Hp S w0 w ae) {t:aa} {i:Nat} (hi:(ae[i]?).map aa.holds=some t.holds): ∃O,t.holds w O:=by
 obtain⟨u,h1,h2⟩:=at_ hi
 obtain⟨O,hO⟩:=h.n9 h1
 exact⟨O,by rw [<-h2];exact hO⟩
theorem split (h:Hp S w0 w ae) {i:Nat} {a b:aa} (hi:ae[i]? =some (aX a b)) (ha:a.own=true) (hb:b.own=true):Hp S w0 w (ae.set i a++ [b]):=by
 obtain⟨eN,F,h1,h2⟩:=h
 have ar:=(aft.1 hi).1
 obtain⟨⟨O1,O2,g1,g2,g3,g4⟩,q1,_⟩:=h1 i _ hi
 have q2: ∀k∈F i,k∈S \/ w0.heap.size<=k:=q1 rfl
 clear q1
 have key: ∀(j:Nat) (u:aa),(ae.set i a++ [b])[j]? =some u->(j < ae.length /\ j≠i /\ ae[j]? =some u) \/ (j=i /\ u=a) \/ (j=ae.length /\ u=b):=by
  intro j u hj
  by_cases hl:j < ae.length
  ·rw [afx (by simpa using hl),agm] at hj
   split at hj
   ·rename_i e;simp only [if_pos ar,afy] at hj;exact .inr (.inl ⟨e.symm,hj.symm⟩)
   ·rename_i e;exact .inl ⟨hl,fun h=>e h.symm,hj⟩
  ·rw [afv (by simp;omega)] at hj
   have:j - (ae.set i a).length=0:=by
    rcases agY (j - (ae.set i a).length) with h | h
    ·exact h
    ·rw [af0 (by simp only [ahi];omega)] at hj;cases hj
   rw [this] at hj
   simp only [afJ,afy] at hj
   simp only [agi] at this
   exact .inr (.inr ⟨by omega,hj.symm⟩)
 let F':Nat->List Nat:=fun j=>if j=ae.length then O2 else if j=i then O1 else F j
 have e0: ∀j,j < ae.length->j≠i->F' j=F j:=fun j h1 h2=>by simp only [F',if_neg (show ¬j=ae.length by omega),if_neg h2]
 have e1:F' i=O1:=by simp only [F',if_neg (show ¬i=ae.length by omega),if_true]
 have e2:F' ae.length=O2:=by simp only [F',if_true]
 have apart: ∀j u,j≠i->ae[j]? =some u->u.own=true-> ∀k∈F j,k ∉ F i:=fun j u aR hj C4=>h2 j i u _ hj hi aR C4 rfl
 refine⟨eN,F',?_,?_⟩
 ·intro j u hj
  rcases key j u hj with ⟨hl,aR,dI⟩ | ⟨rfl,rfl⟩ | ⟨rfl,rfl⟩
  ·rw [e0 j hl aR];exact h1 j u dI
  ·rw [e1];exact⟨g1,fun _ k hk=>q2 k ((g4 k).2 (.inl hk)),fun h=>by rw [ha] at h;cases h⟩
  ·rw [e2];exact⟨g2,fun _ k hk=>q2 k ((g4 k).2 (.inr hk)),fun h=>by rw [hb] at h;cases h⟩
 ·intro j j' u v hj dI aR hu hv k hk bG
  rcases key j u hj with ⟨hl,hn,D4⟩ | ⟨rfl,rfl⟩ | ⟨rfl,rfl⟩
  ·rw [e0 j hl hn] at hk
   rcases key j' v dI with ⟨cW,kq,sT⟩ | ⟨rfl,rfl⟩ | ⟨rfl,rfl⟩
   ·rw [e0 j' cW kq] at bG;exact h2 j j' u v D4 sT aR hu hv k hk bG
   ·rw [e1] at bG;exact apart j u hn D4 hu k hk ((g4 k).2 (.inl bG))
   ·rw [e2] at bG;exact apart j u hn D4 hu k hk ((g4 k).2 (.inr bG))
  ·rw [e1] at hk
   rcases key j' v dI with ⟨cW,kq,sT⟩ | ⟨rfl,rfl⟩ | ⟨rfl,rfl⟩
   ·rw [e0 j' cW kq] at bG;exact apart j' v kq sT hv k bG ((g4 k).2 (.inl hk))
   ·exact absurd rfl aR
   ·rw [e2] at bG;exact g3 k hk bG
  ·rw [e2] at hk
   rcases key j' v dI with ⟨cW,kq,sT⟩ | ⟨rfl,rfl⟩ | ⟨rfl,rfl⟩
   ·rw [e0 j' cW kq] at bG;exact apart j' v kq sT hv k bG ((g4 k).2 (.inr hk))
   ·rw [e1] at bG;exact g3 k bG hk
   ·exact absurd rfl aR
theorem join (h:Hp S w0 w ae) {i j:Nat} (aR:i≠j) {a b c:aa} (hi:ae[i]? =some a) (hj:ae[j]? =some b) (ha:a.own=true) (hb:b.own=true) (hc:c.own=true)
  (himp: ∀w O1 O2,a.holds w O1->b.holds w O2->(∀k∈O1,k ∉ O2)->c.holds w (O1++O2)):Hp S w0 w ((ae.set i c).set j ao):=by
 obtain⟨eN,F,h1,h2⟩:=h
 have ar:=(aft.1 hi).1
 have lM:=(aft.1 hj).1
 have key: ∀(n:Nat) (u:aa),((ae.set i c).set j ao)[n]? =some u->(n≠i /\ n≠j /\ ae[n]? =some u) \/ (n=i /\ u=c) \/ (n=j /\ u=ao):=by
  intro n u hn
  rw [agm] at hn
  split at hn
  ·rename_i e
   simp only [agi,if_pos lM,afy] at hn
   exact .inr (.inr ⟨e.symm,hn.symm⟩)
  ·rename_i e
   rw [agm] at hn
   split at hn
   ·rename_i e'
    simp only [if_pos ar,afy] at hn
    exact .inr (.inl ⟨e'.symm,hn.symm⟩)
   ·rename_i e'
    exact .inl ⟨fun h=>e' h.symm,fun h=>e h.symm,hn⟩
 obtain⟨a1,a2,_⟩:=h1 i a hi
 obtain⟨b1,b2,_⟩:=h1 j b hj
 let F':Nat->List Nat:=fun n=>if n=i then F i++F j else if n=j then [] else F n
 have e0: ∀n,n≠i->n≠j->F' n=F n:=fun n h1 h2=>by simp only [F',if_neg h1,if_neg h2]
 have e1:F' i=F i++F j:=by simp only [F',if_true]
 have e2:F' j= []:=by simp only [F',if_neg aR.symm,if_true]
 have dis: ∀k∈F i,k ∉ F j:=h2 i j a b hi hj aR ha hb
 refine⟨eN,F',?_,?_⟩
 ·intro n u hn
  rcases key n u hn with ⟨q1,q2,kq⟩ | ⟨rfl,rfl⟩ | ⟨rfl,rfl⟩
  ·rw [e0 n q1 q2];exact h1 n u kq
  ·rw [e1]
   refine⟨himp w _ _ a1 b1 dis,fun _ k hk=>?_,fun h=>by rw [hc] at h;cases h⟩
   rcases afB.1 hk with hk | hk
   ·exact a2 ha k hk
   ·exact b2 hb k hk
  ·rw [e2];exact⟨rfl,by simp,by simp⟩
 ·intro n m u v hn hm vY hu hv k hk bG
  rcases key n u hn with ⟨q1,q2,kq⟩ | ⟨rfl,rfl⟩ | ⟨rfl,rfl⟩
  ·rw [e0 n q1 q2] at hk
   rcases key m v hm with ⟨r1,r2,fC⟩ | ⟨rfl,rfl⟩ | ⟨rfl,rfl⟩
   ·rw [e0 m r1 r2] at bG;exact h2 n m u v kq fC vY hu hv k hk bG
   ·rw [e1] at bG
    rcases afB.1 bG with bG | bG
    ·exact h2 n _ u a kq hi q1 hu ha k hk bG
    ·exact h2 n _ u b kq hj q2 hu hb k hk bG
   ·rw [e2] at bG;cases bG
  ·rw [e1] at hk
   rcases key m v hm with ⟨r1,r2,fC⟩ | ⟨rfl,rfl⟩ | ⟨rfl,rfl⟩
   ·rw [e0 m r1 r2] at bG
    rcases afB.1 hk with hk | hk
    ·exact h2 m _ v a fC hi r1 hv ha k bG hk
    ·exact h2 m _ v b fC hj r2 hv hb k bG hk
   ·exact absurd rfl vY
   ·rw [e2] at bG;cases bG
  ·rw [e2] at hk;cases hk
theorem aL (h:Hp S w0 w ae) {i j:Nat} (aR:i≠j) {a b:aa} (hi:ae[i]? =some a) (hj:ae[j]? =some b) (ha:a.own=true) (hb:b.own=true):Hp S w0 w ((ae.set i (aX a b)).set j ao):=
 h.join aR hi hj ha hb rfl fun w O1 O2 h1 h2 h3=>⟨O1,O2,h1,h2,h3,by simp⟩
theorem oX (h:Hp S w0 w ae) {i:Nat} {α:Type} {f:α->aa} (hi:ae[i]? =some (KK f)) (ho: ∀x,(f x).own=true): ∃x,Hp S w0 w (ae.set i (f x)):=by
 obtain⟨O,⟨x,hO⟩,back⟩:=h.step hi rfl
 exact⟨x,back (Fr.refl _ _) hO (fun k hk=>.inl hk) (ho x)⟩
theorem nO (h:Hp S w0 w ae) {i:Nat} {p:Prop} {t:aa} (hi:ae[i]? =some (kz p t)) (ho:t.own=true):p /\ Hp S w0 w (ae.set i t):=by
 obtain⟨O,⟨x,hO⟩,back⟩:=h.step hi rfl
 exact⟨x,back (Fr.refl _ _) hO (fun k hk=>.inl hk) ho⟩
theorem mg (h:Hp S w0 w ae) {i:Nat} {α:Type} {f:α->aa} (x:α) (hi:ae[i]? =some (f x)) (ho:(f x).own=true):Hp S w0 w (ae.set i (KK f)):=
 h.sU hi ho (fun w O h=>⟨x,h⟩) rfl
theorem jA (h:Hp S w0 w ae) {i:Nat} {p:Prop} {t:aa} (hp:p) (hi:ae[i]? =some t) (ho:t.own=true):Hp S w0 w (ae.set i (kz p t)):=
 h.sU hi ho (fun w O h=>⟨hp,h⟩) rfl
theorem pick (h:Hp S w0 w ae) {i k:Nat} {ts:List aa} {t:aa} (hi:ae[i]? =some (an ts)) (hk:ts[k]? =some t) (ho:t.own=true):Hp S w0 w (ae.set i (an (ts.set k ao))++ [t]):=by
 have h1:=h.sU (t':=aX (an (ts.set k ao)) t) hi (aK ts) (fun w O hO=>by
  obtain⟨O1,O2,g1,g2,g3,g4⟩:=dx hk hO
  exact⟨O2,O1,g2,g1,fun k hk bG=>g3 k bG hk,fun k=>by rw [g4];exact or_comm⟩) rfl
 have ar:=(aft.1 hi).1
 have h2:=h1.split (i:=i) (a:=an (ts.set k ao)) (b:=t) (by simp [ar]) (aK _) ho
 simpa using h2
theorem mT (h:Hp S w0 w ae) {i j k:Nat} (aR:i≠j) {ts:List aa} {t:aa} (hi:ae[i]? =some (an ts)) (hj:ae[j]? =some t) (hk:ts[k]? =some ao) (ho:t.own=true):
  Hp S w0 w ((ae.set i (an (ts.set k t))).set j ao):=
 h.join aR hi hj (aK _) ho (aK _) fun w O1 O2 h1 h2 h3=>by
  have:=zz hk h2 h1 (fun k hk bG=>h3 k bG hk)
  refine(GG _ this ?_)
  intro k
  simp [or_comm]
where
 GG (ts:List aa) {w:World} {O O':List Nat} (h:(an ts).holds w O) (he: ∀k,k∈O↔k∈O'):(an ts).holds w O':=by
  cases ts with
  | nil=>
   have:O= []:=h
   subst this
   show O'= []
   apply ag6.2
   intro k hk
   exact absurd ((he k).2 hk) (by simp)
  | cons t ts=>
   obtain⟨O1,O2,h1,h2,h3,h4⟩:=h
   exact⟨O1,O2,h1,h2,h3,fun k=>by rw [<-he];exact h4 k⟩
end Hp
end Go.Den
end

section
namespace Go.Den
open Go.RowKit
theorem bg {a:Addr} {K:Addr->Prop} (h:K a):NN (some a) K:=h
namespace Hp
variable {S:List Nat} {w0 w:World} {ae:List aa}
theorem qY (w:World):Hp [] w w []:=init w
theorem uB {ae:List aa} {i:Nat} {t:aa} (hi:ae[i]? =some t): ∀n j:Nat,[i][n]? =some j->ae[j]? = [t][n]? :=by
 intro n j hn
 match n,hn with
 | 0,hn=>simp only [afJ,afy] at hn;subst hn;simpa using hi
theorem GH {ae:List aa} {i i':Nat} {t t':aa} (hi:ae[i]? =some t) (fK:ae[i']? =some t'): ∀n j:Nat,[i,i'][n]? =some j->ae[j]? = [t,t'][n]? :=by
 intro n j hn
 match n,hn with
 | 0,hn=>simp only [afJ,afy] at hn;subst hn;simpa using hi
 | 1,hn=>simp only [af8,afJ,afy] at hn;subst hn;simpa using fK
theorem GI {ae:List aa}: ∀n j:Nat,([]:List Nat)[n]? =some j->ae[j]? =([]:List aa)[n]? :=by
 intro n j hn;simp at hn
def owns (ts:List aa):Bool:=ts.all (·.own)
theorem hM {ts:List aa} (h:owns ts=true): ∀t∈ts,t.own=true:=agw.1 h
theorem f1 (h:Hp S w0 w ae) {i:Nat} {t:aa} (hi:ae[i]? =some t) (ho:t.own=true):
  ∃O,Hp O w w [t] /\ ∀{w':World} {t':aa} {rest:List aa},t'.own=true->owns rest=true->Hp O w w' (t' :: rest)->Hp S w0 w' (ae.set i t'++rest):=by
 obtain⟨O,h1,h2⟩:=h.frame [i] [] (by simp) (by simp) (ts:= [t]) (us:= []) rfl rfl (uB hi) GI (by simpa using ho)
 exact⟨O,by simpa using h1,fun{w' t' rest} lu hr hp=>h2 (ts':= [t']) rfl (by simpa using lu) (hM hr) (by simpa using hp)⟩
theorem Z7 (h:Hp S w0 w ae) {i j:Nat} (aR:i≠j) {t u:aa} (hi:ae[i]? =some t) (hj:ae[j]? =some u) (ho:t.own=true):
  ∃O,Hp O w w [t,u.ro] /\ ∀{w':World} {t':aa} {rest:List aa},t'.own=true->owns rest=true->Hp O w w' (t' :: rest)->Hp S w0 w' (ae.set i t'++rest):=by
 obtain⟨O,h1,h2⟩:=h.frame [i] [j] (by simp) (by simpa using aR) (ts:= [t]) (us:= [u]) rfl rfl (uB hi) (uB hj) (by simpa using ho)
 exact⟨O,by simpa using h1,fun{w' t' rest} lu hr hp=>h2 (ts':= [t']) rfl (by simpa using lu) (hM hr) (by simpa using hp)⟩
theorem X0 (h:Hp S w0 w ae) {i j j':Nat} (aR:i≠j) (X3:i≠j') {t u v:aa} (hi:ae[i]? =some t) (hj:ae[j]? =some u) (dI:ae[j']? =some v) (ho:t.own=true):
  ∃O,Hp O w w [t,u.ro,v.ro] /\ ∀{w':World} {t':aa} {rest:List aa},t'.own=true->owns rest=true->Hp O w w' (t' :: rest)->Hp S w0 w' (ae.set i t'++rest):=by
 obtain⟨O,h1,h2⟩:=h.frame [i] [j,j'] (by simp) (by simp [aR,X3]) (ts:= [t]) (us:= [u,v]) rfl rfl (uB hi) (GH hj dI) (by simpa using ho)
 exact⟨O,by simpa using h1,fun{w' t' rest} lu hr hp=>h2 (ts':= [t']) rfl (by simpa using lu) (hM hr) (by simpa using hp)⟩
theorem r0 (h:Hp S w0 w ae) {w':World} {rest:List aa} (hr:owns rest=true) (hp:Hp [] w w' rest):Hp S w0 w' (ae++rest):=by
 obtain⟨BS,F0,q1,q2⟩:=h
 obtain⟨pf,G,p1,p2⟩:=hp
 refine(⟨BS.trans pf (by simp),fun n=>if n < ae.length then F0 n else G (n - ae.length),?_,?_⟩:Hp S w0 w' (ae++rest))
 ·intro n v hn
  by_cases hl:n < ae.length
  ·rw [afx hl] at hn
   dsimp only
   rw [if_pos hl]
   exact⟨v.fr (q1 n v hn).1 pf (by simp),(q1 n v hn).2⟩
  ·rw [afv (by omega)] at hn
   dsimp only
   rw [if_neg hl]
   obtain⟨a1,a2,a3⟩:=p1 (n - ae.length) v hn
   have hv:=hM hr v (afz hn)
   refine⟨a1,fun _ k hk=>?_,fun h=>by rw [hv] at h;cases h⟩
   rcases a2 hv k hk with h | h
   ·cases h
   ·exact .inr (ag3 BS.size h)
 ·intro n m v x hn hm aR hv hx k hk bG
  by_cases hl:n < ae.length
  ·rw [afx hl] at hn
   simp only [if_pos hl] at hk
   by_cases cW:m < ae.length
   ·rw [afx cW] at hm
    simp only [if_pos cW] at bG
    exact q2 n m v x hn hm aR hv hx k hk bG
   ·rw [afv (by omega)] at hm
    simp only [if_neg cW] at bG
    rcases(p1 (m - ae.length) x hm).2.1 hx k bG with h | h
    ·cases h
    ·have:=v.lt (q1 n v hn).1 k hk;omega
  ·rw [afv (by omega)] at hn
   simp only [if_neg hl] at hk
   by_cases cW:m < ae.length
   ·rw [afx cW] at hm
    simp only [if_pos cW] at bG
    rcases(p1 (n - ae.length) v hn).2.1 hv k hk with h | h
    ·cases h
    ·have:=x.lt (q1 m x hm).1 k bG;omega
   ·rw [afv (by omega)] at hm
    simp only [if_neg cW] at bG
    exact p2 _ _ v x hn hm (by omega) hv hx k hk bG
theorem IY (h:Hp S w0 w ae) {j:Nat} {u:aa} (hj:(ae[j]?).map aa.holds=some u.holds):Hp [] w w [u.ro]:=by
 obtain⟨O',mv⟩:=h.dQ hj
 exact Hp.ey (Hp.init w) mv (by simp)
theorem X4 (h:Hp S w0 w ae) {i j:Nat} {t u:aa} (hi:(ae[i]?).map aa.holds=some t.holds) (hj:(ae[j]?).map aa.holds=some u.holds):Hp [] w w [t.ro,u.ro]:=by
 obtain⟨O',mv⟩:=h.dQ hj
 exact Hp.ey (h.IY hi) mv (by simp)
theorem f2 (h:Hp S w0 w ae) {i i':Nat} (aR:i≠i') {t u:aa} (hi:ae[i]? =some t) (fK:ae[i']? =some u) (ho:t.own=true) (lu:u.own=true):
  ∃O,Hp O w w [t,u] /\ ∀{w':World} {t' u':aa} {rest:List aa},t'.own=true->u'.own=true->owns rest=true->Hp O w w' (t' :: u' :: rest)->Hp S w0 w' ((ae.set i t').set i' u'++rest):=by
 obtain⟨O,h1,h2⟩:=h.frame [i,i'] [] (by simpa using aR) (by simp) (ts:= [t,u]) (us:= []) rfl rfl (GH hi fK) GI (by simp [ho,lu])
 exact⟨O,by simpa using h1,fun{w' t' u' rest} q1 q2 hr hp=>h2 (ts':= [t',u']) rfl (by simp [q1,q2]) (hM hr) (by simpa using hp)⟩
theorem f2r (h:Hp S w0 w ae) {i i' j:Nat} (aR:i≠i') (hj1:i≠j) (DR:i'≠j) {t u v:aa} (hi:ae[i]? =some t) (fK:ae[i']? =some u) (hj:ae[j]? =some v) (ho:t.own=true) (lu:u.own=true):
  ∃O,Hp O w w [t,u,v.ro] /\ ∀{w':World} {t' u':aa} {rest:List aa},t'.own=true->u'.own=true->owns rest=true->Hp O w w' (t' :: u' :: rest)->Hp S w0 w' ((ae.set i t').set i' u'++rest):=by
 obtain⟨O,h1,h2⟩:=h.frame [i,i'] [j] (by simpa using aR) (by simp [hj1,DR]) (ts:= [t,u]) (us:= [v]) rfl rfl (GH hi fK) (uB hj) (by simp [ho,lu])
 exact⟨O,by simpa using h1,fun{w' t' u' rest} q1 q2 hr hp=>h2 (ts':= [t',u']) rfl (by simp [q1,q2]) (hM hr) (by simpa using hp)⟩
theorem L9 {ae:List aa} {i i' tt:Nat} {t t' KL:aa} (hi:ae[i]? =some t) (fK:ae[i']? =some t') (v9:ae[tt]? =some KL): ∀n j:Nat,[i,i',tt][n]? =some j->ae[j]? = [t,t',KL][n]? :=by
 intro n j hn
 match n,hn with
 | 0,hn=>simp only [afJ,afy] at hn;subst hn;simpa using hi
 | 1,hn=>simp only [af8,afJ,afy] at hn;subst hn;simpa using fK
 | 2,hn=>simp only [af8,afJ,afy] at hn;subst hn;simpa using v9
theorem f3 (h:Hp S w0 w ae) {i i' tt:Nat} (aR: [i,i',tt].Nodup) {t u v:aa} (hi:ae[i]? =some t) (fK:ae[i']? =some u) (v9:ae[tt]? =some v) (ho:t.own=true) (lu:u.own=true) (PU:v.own=true):
  ∃O,Hp O w w [t,u,v] /\ ∀{w':World} {t' u' v':aa} {rest:List aa},t'.own=true->u'.own=true->v'.own=true->owns rest=true->Hp O w w' (t' :: u' :: v' :: rest)->Hp S w0 w' (((ae.set i t').set i' u').set tt v'++rest):=by
 obtain⟨O,h1,h2⟩:=h.frame [i,i',tt] [] aR (by simp) (ts:= [t,u,v]) (us:= []) rfl rfl (L9 hi fK v9) GI (by simp [ho,lu,PU])
 exact⟨O,by simpa using h1,fun{w' t' u' v' rest} q1 q2 q3 hr hp=>h2 (ts':= [t',u',v']) rfl (by simp [q1,q2,q3]) (hM hr) (by simpa using hp)⟩
theorem cK {i:Nat} {t:aa} (hi:ae[i]? =some t):ae.set i t=ae:=by
 obtain⟨h,rfl⟩:=aft.1 hi
 exact List.set_getElem_self h
theorem fc {x y:aa} {rest:List aa} (h:Hp S w0 w (x :: y :: rest)):Hp S w0 w (x :: rest):=by
 obtain⟨eN,F,h1,h2⟩:=h
 have key: ∀(n:Nat) (t:aa),(x :: rest)[n]? =some t->(x :: y :: rest)[if n=0 then 0 else n+1]? =some t:=by
  intro n t hn
  cases n with
  | zero=>simpa using hn
  | succ n=>simpa using hn
 refine⟨eN,fun n=>F (if n=0 then 0 else n+1),fun n t hn=>h1 _ t (key n t hn),fun n m t u hn hm aR=>h2 _ _ t u (key n t hn) (key m u hm) ?_⟩
 split <;> split <;> omega
theorem trim (h:Hp S w0 w ae) (n:Nat):Hp S w0 w (ae.take n):=by
 rw [<-agp n ae] at h
 exact h.front
theorem Ma (h:Hp S w0 w ae) {i:Nat} {u:aa} (hi:ae[i]? =some u.ro): ∃O,u.holds w O /\ ∀{t:aa} {O':List Nat},t.holds w O'->(∀k∈O',k∈O)->Hp S w0 w (ae++ [t.ro]):=by
 obtain⟨eN,F,h1,h2⟩:=h
 obtain⟨a1,_,a3⟩:=h1 i _ hi
 have a3:=a3 rfl
 refine⟨F i,a1,fun{t O'} ht hO=>?_⟩
 have key: ∀(j:Nat) (v:aa),(ae++ [t.ro])[j]? =some v->(j < ae.length /\ ae[j]? =some v) \/ (j=ae.length /\ v=t.ro):=by
  intro j v hj
  by_cases ar:j < ae.length
  ·rw [afx ar] at hj;exact .inl ⟨ar,hj⟩
  ·rw [afv (by omega)] at hj
   have:j - ae.length=0:=by
    rcases agY (j - ae.length) with h | h
    ·exact h
    ·rw [af0 (by simp only [ahi];omega)] at hj;cases hj
   rw [this] at hj
   simp only [afJ,afy] at hj
   exact .inr ⟨by omega,hj.symm⟩
 refine⟨eN,fun j=>if j=ae.length then O' else F j,?_,?_⟩
 ·intro j v hj
  rcases key j v hj with ⟨ar,dI⟩ | ⟨rfl,rfl⟩
  ·dsimp only;rw [if_neg (by omega)];exact h1 j v dI
  ·dsimp only;rw [if_pos rfl]
   exact⟨ht,fun h=>(by cases h),fun _ k hk=>a3 k (hO k hk)⟩
 ·intro j j' v x hj dI aR hv hx k hk bG
  rcases key j v hj with ⟨ar,D4⟩ | ⟨rfl,rfl⟩
  ·rcases key j' x dI with ⟨lM,sT⟩ | ⟨rfl,rfl⟩
   ·simp only [if_neg (show ¬j=ae.length by omega),if_neg (show ¬j'=ae.length by omega)] at hk bG
    exact h2 j j' v x D4 sT aR hv hx k hk bG
   ·cases hx
  ·cases hv
theorem KM (h:Hp S w0 w ae) {i:Nat} {t:aa} (hi:ae[i]? =some t) (ho:t.own=true):Hp S w0 w (ae.set i ao):=by
 obtain⟨O,hO,back⟩:=h.step hi ho
 exact back (Fr.refl _ _) (O':= []) rfl (by simp) rfl
theorem less (h:Hp S w0 w ae) {i:Nat} {t t':aa} (hi:ae[i]? =some t) (ho:t.own=true) (himp: ∀w O,t.holds w O-> ∃O',t'.holds w O' /\ ∀k∈O',k∈O) (lu:t'.own=true):Hp S w0 w (ae.set i t'):=by
 obtain⟨O,hO,back⟩:=h.step hi ho
 obtain⟨O',h1,h2⟩:=himp _ _ hO
 exact back (Fr.refl _ _) h1 (fun k hk=>.inl (h2 k hk)) lu
theorem nw (h:Hp S w0 w ae) {e:TypeId} {c:List Value} {K:Addr->World->Prop}
  (hK: ∀b w',Hp S w0 w' (ae++ [ai b e c])->K ⟨b,0,none⟩ w'):Nw (.cells c.toArray e) w K:=
 hK _ _ (h.grow (Fr.alloc w _) (t:=ai w.heap.size e c) (O:= [w.heap.size]) ⟨fz.alloc w c e,rfl⟩ (by simp) rfl)
theorem wX (h:Hp S w0 w ae) {K:Addr->World->Prop}
  (hK: ∀b w',Hp S w0 w' (ae++ [D5 b []])->K ⟨b,0,none⟩ w'):Nw (.map #[] 0) w K:=
 hK _ _ (h.grow (Fr.alloc w _) (t:=D5 w.heap.size []) (O:= [w.heap.size]) ⟨⟨#[],0,by show (w.heap.push _)[w.heap.size]? =_;simp,rfl,by simp [uA]⟩,rfl⟩ (by simp) rfl)
theorem dr (h:Hp S w0 w ae) {K:World->Prop} (hK: ∀w',Hp S w0 w' ae->K w'):Dr w K:=
 hK _ (h.cB (Fr.refl [] w).drew)
theorem ld (h:Hp S w0 w ae) (i:Nat) {k:Kd} {b n:Nat} {e:TypeId} {c:List Value} {x:k.T} {K:k.T->Prop}
  (hi:(ae[i]?).map aa.holds=some (ai b e c).holds) (hx:c[n]? =some (k.inj x)) (hK:K x):Ld k w ((⟨b,0,none⟩:Addr).add n) K:=by
 obtain⟨O,hO,_⟩:=h.dQ hi
 exact mf hO hx hK
theorem cx (h:Hp S w0 w ae) (i:Nat) {k:Kd} {b:Nat} {e:TypeId} {c:List Value} {x:k.T} {K:k.T->Prop}
  (hi:(ae[i]?).map aa.holds=some (ai b e c).holds) (hx:c[0]? =some (k.inj x)) (hK:K x):Ld k w ⟨b,0,none⟩ K:=by
 obtain⟨O,hO,_⟩:=h.dQ hi
 exact Go.Den.ld hO hx hK
theorem pV (h:Hp S w0 w ae) (i:Nat) {k:Kd} {b n m:Nat} {e:TypeId} {c:List Value} {x:k.T} {K:k.T->Prop}
  (hi:(ae[i]?).map aa.holds=some (ai b e c).holds) (hx:c[n+m]? =some (k.inj x)) (hK:K x):Ld k w (((⟨b,0,none⟩:Addr).add n).add m) K:=by
 rw [Addr.iu]
 exact h.ld i hi hx hK
theorem IZ (h:Hp S w0 w ae) (i:Nat) {b n:Nat} {e:TypeId} {c:List Value} {v:Value} (hi:(ae[i]?).map aa.holds=some (ai b e c).holds) (hx:c[n]? =some v):
  w.cell? ((⟨b,0,none⟩:Addr).add n)=some v:=by
 obtain⟨O,hO,_⟩:=h.dQ hi
 rw [Addr.aQ,hO.cell,agH,hx]
theorem GJ (h:Hp S w0 w ae) (i:Nat) {b:Nat} {e:TypeId} {c:List Value} {v:Value} (hi:(ae[i]?).map aa.holds=some (ai b e c).holds) (hx:c[0]? =some v):
  w.cell? (⟨b,0,none⟩:Addr)=some v:=by
 obtain⟨O,hO,_⟩:=h.dQ hi
 rw [hO.cell,hx]
theorem PW (h:Hp S w0 w ae) (i:Nat) {b o:Nat} {e:TypeId} {c:List Value} {v:Value} {K:World->Prop}
  (hi:ae[i]? =some (ai b e c)) (ho:o < c.length) (hv:v.oneCell'=true) (hK: ∀w',Hp S w0 w' (ae.set i (ai b e (c.set o v)))->K w'):St ⟨b,o,none⟩ v w K:=by
 obtain⟨O,⟨hO,rfl⟩,back⟩:=h.step hi rfl
 exact Go.Den.st hO ho hv fun w' hb hf _=>hK w' (back (t':=ai b e (c.set o v)) (O':= [b]) hf ⟨hb,rfl⟩ (fun k hk=>.inl hk) rfl)
theorem st (h:Hp S w0 w ae) (i:Nat) {b n:Nat} {e:TypeId} {c:List Value} {v:Value} {K:World->Prop}
  (hi:ae[i]? =some (ai b e c)) (ho:n < c.length) (hv:v.oneCell'=true) (hK: ∀w',Hp S w0 w' (ae.set i (ai b e (c.set n v)))->K w'):St ((⟨b,0,none⟩:Addr).add n) v w K:=by
 rw [Addr.aQ,agH]
 exact h.PW i hi ho hv hK
theorem iR (h:Hp S w0 w ae) (i:Nat) {b:Nat} {e:TypeId} {c:List Value} {v:Value} {K:World->Prop}
  (hi:ae[i]? =some (ai b e c)) (ho:0 < c.length) (hv:v.oneCell'=true) (hK: ∀w',Hp S w0 w' (ae.set i (ai b e (c.set 0 v)))->K w'):St ⟨b,0,none⟩ v w K:=
 h.PW i hi ho hv hK
theorem Vr (h:Hp S w0 w ae) {b len sz:Nat} {i:Int} {K:Addr->Prop} (h0:0<=i) (h1:i < len) (hK:K ⟨b,i.toNat*sz,none⟩):RP ⟨b,0,none⟩ len i sz K:=
 ⟨h0,h1,by rw [Addr.aQ,agH];exact hK⟩
theorem GK (h:Hp S w0 w ae) (i:Nat) {k:Kd} {b o:Nat} {e:TypeId} {c:List Value} {x:k.T} {K:k.T->Prop}
  (hi:(ae[i]?).map aa.holds=some (ai b e c).holds) (hx:c[o]? =some (k.inj x)) (hK:K x):Ld k w ⟨b,o,none⟩ K:=by
 obtain⟨O,hO,_⟩:=h.dQ hi
 exact Go.Den.ld hO hx hK
def D6 (y:Option Addr) (e:TypeId) (c:List Value):aa:=
  { holds:=fun w O=>(y=none /\ O= []) \/ ∃b,y=some ⟨b,0,none⟩ /\ fz w b e c /\ O= [b]
    fr:=fun{S w w' O} h hf hn=>by
      rcases h with h | ⟨b,h1,h2,rfl⟩
      · exact .inl h
      · exact .inr ⟨b,h1,h2.fr hf (hn b (by simp)),rfl⟩
    lt:=fun{w O} h k hk=>by
      rcases h with ⟨_,rfl⟩ | ⟨b,h1,h2,rfl⟩
      · cases hk
      · simp only [afF] at hk;subst hk;exact h2.lt}
theorem opt (h:Hp S w0 w ae) (e:TypeId) (c:List Value):Hp S w0 w (ae++ [D6 none e c]):=
 h.grow (Fr.refl _ _) (t:=D6 none e c) (O:= []) (.inl ⟨rfl,rfl⟩) (by simp) rfl
theorem dH (h:Hp S w0 w ae) (i:Nat) {y:Option Addr} {e:TypeId} {c:List Value} {K:Option Addr->World->Prop} (hi:ae[i]? =some (D6 y e c))
  (hK: ∀y' w',Hp S w0 w' (ae.set i (D6 y' e c))->K y' w'):Rc [(.cells c.toArray e,y)] w K:=by
 refine⟨hK y w (by rw [cK hi];exact h),fun q o ho hy=>?_⟩
 have hq:q=0:=by
  rcases agY q with h | h
  ·exact h
  ·rw [af0 (by simp only [agl,ahq,ahi];omega)] at ho;cases ho
 subst hq
 simp only [agl,ahq,afJ,afy] at ho hy
 subst ho
 subst hy
 obtain⟨O,hO,back⟩:=h.step hi rfl
 rcases hO with ⟨_,rfl⟩ | ⟨b,hb,_⟩
 ·exact hK _ _ (back (t':=D6 (some ⟨w.heap.size,0,none⟩) e c) (O':= [w.heap.size]) (Fr.alloc w _) (.inr ⟨_,rfl,fz.alloc w c e,rfl⟩) (by simp) rfl)
 ·cases hb
theorem X5 (h:Hp S w0 w ae) (i:Nat) {y:Option Addr} {e:TypeId} {c:List Value} {K:Addr->Prop} (hi:ae[i]? =some (D6 y e c))
  (hK: ∀b,Hp S w0 w (ae.set i (ai b e c))->K ⟨b,0,none⟩):Jh y K:=by
 cases y with
 | none=>trivial
 | some a=>
  obtain⟨O,hO,back⟩:=h.step hi rfl
  rcases hO with ⟨h1,_⟩ | ⟨b,hb,h2,rfl⟩
  ·cases h1
  ·simp only [afy] at hb
   subst hb
   exact hK b (back (Fr.refl _ _) (t':=ai b e c) (O':= [b]) ⟨h2,rfl⟩ (fun k hk=>.inl hk) rfl)
section
variable {α:Type} {f:α->List Value} {n:Nat} {e:TypeId}
structure Reads (t:aa) (s:Sl) (n:Nat) (f:α->List Value) (l:List α):Prop where
 rd: ∀{w O},t.holds w O-> ∃o,cf w s n f l o
theorem bX {s:Sl} {l:List α}:Reads (aj s e n f l) s n f l:=⟨fun{w O} h=>⟨O,cA.toR h⟩⟩
theorem D7 {s:Sl} {l:List α}:Reads (kG s n f l) s n f l:=⟨fun{w O} h=>⟨O,h⟩⟩
theorem len (h:Hp S w0 w ae) (i:Nat) {s:Sl} {l:List α} (hi:(ae[i]?).map aa.holds=some (aj s e n f l).holds):l.length=s.len:=by
 obtain⟨O,hO⟩:=h.dQ hi
 exact hO.len
theorem X6 (h:Hp S w0 w ae) (i:Nat) {s:Sl} {l:List α} (hi:(ae[i]?).map aa.holds=some (kG s n f l).holds):l.length=s.len:=by
 obtain⟨O,hO⟩:=h.dQ hi
 exact cf.len (n:=n) (w:=w) (o:=O) (f:=f) hO
theorem cap (h:Hp S w0 w ae) (i:Nat) {s:Sl} {l:List α} (hi:(ae[i]?).map aa.holds=some (aj s e n f l).holds):s.len<=s.cap:=by
 obtain⟨O,hO⟩:=h.dQ hi
 rcases hO.2 with ⟨_,h1,h2,_⟩ | ⟨_,_,_,_,_,_,h,_⟩ <;> omega
theorem nil (h:Hp S w0 w ae) (e:TypeId) (n:Nat) (f:α->List Value):Hp S w0 w (ae++ [aj ⟨none,0,0⟩ e n f ([]:List α)]):=
 h.grow (Fr.refl _ _) (t:=aj ⟨none,0,0⟩ e n f []) (O:= []) cA.nil (by simp) rfl
theorem e9 (h:Hp S w0 w ae) (i:Nat) {k:Kd} {s:Sl} {l:List α} {j:Int} {y:α} {x:k.T} {K:k.T->Prop} (hi:(ae[i]?).map aa.holds=some (aj s e 1 f l).holds) (h0:0<=j) (hy:l[j.toNat]? =some y) (hf: ∀x,(f x).length=1) (hx:(f y)[0]? =some (k.inj x)) (hK:K x):
  Ix s.a s.len j 1 fun a=>Ld k w a K:=by
 obtain⟨O,hO⟩:=h.dQ hi
 exact cf.ix hf (cA.toR hO) h0 hy fun a ha=>ep (ha 0 (by omega)) hx hK
theorem SY (h:Hp S w0 w ae) (i:Nat) {k:Kd} {s:Sl} {l:List α} {j:Int} {y:α} {x:k.T} {K:k.T->Prop} (hi:(ae[i]?).map aa.holds=some (kG s 1 f l).holds) (h0:0<=j) (hy:l[j.toNat]? =some y) (hf: ∀x,(f x).length=1) (hx:(f y)[0]? =some (k.inj x)) (hK:K x):
  Ix s.a s.len j 1 fun a=>Ld k w a K:=by
 obtain⟨O,hO⟩:=h.dQ hi
 exact cf.ix hf hO h0 hy fun a ha=>ep (ha 0 (by omega)) hx hK
theorem dd (h:Hp S w0 w ae) (i:Nat) {u:aa} {k:Kd} {s:Sl} {l:List α} {j:Int} {y:α} {x:k.T} {K:k.T->Prop} (hi:(ae[i]?).map aa.holds=some u.holds) (hu:Reads u s 1 f l) (h0:0<=j) (hy:l[j.toNat]? =some y) (hf: ∀x,(f x).length=1) (hx:(f y)[0]? =some (k.inj x)) (hK:K x):
  Ix s.a s.len j 1 fun a=>Ld k w a K:=by
 obtain⟨O,hO⟩:=h.dQ hi
 obtain⟨o,hO⟩:=hu.rd hO
 exact cf.ix hf hO h0 hy fun a ha=>ep (ha 0 (by omega)) hx hK
theorem df (h:Hp S w0 w ae) (i:Nat) {u:aa} {s:Sl} {l:List α} (hi:(ae[i]?).map aa.holds=some u.holds) (hu:Reads u s n f l):l.length=s.len:=by
 obtain⟨O,hO⟩:=h.dQ hi
 obtain⟨o,hO⟩:=hu.rd hO
 exact hO.len
theorem GL (h:Hp S w0 w ae) (i:Nat) {k k':Kd} {s:Sl} {l:List α} {j:Int} {y:α} {x:k.T} {x':k'.T} {K:k.T->k'.T->Prop} (hi:(ae[i]?).map aa.holds=some (aj s e 2 f l).holds) (h0:0<=j) (hy:l[j.toNat]? =some y) (hf: ∀x,(f x).length=2) (hx:(f y)[0]? =some (k.inj x)) (Br:(f y)[1]? =some (k'.inj x')) (hK:K x x'):
  Ix s.a s.len j 2 fun a=>Ld k w a fun x=>Ld k' w (a.add 1) fun x'=>K x x':=by
 obtain⟨O,hO⟩:=h.dQ hi
 exact cf.ix hf (cA.toR hO) h0 hy fun a ha=>ep (ha 0 (by omega)) hx (j8 (ha 1 (by omega)) Br hK)
theorem sq (h:Hp S w0 w ae) (i:Nat) {s:Sl} {l:List α} {j:Int} {y:α} {K:Addr->Prop} (hi:(ae[i]?).map aa.holds=some (aj s e n f l).holds) (h0:0<=j) (hy:l[j.toNat]? =some y) (hf: ∀x,(f x).length=n)
  (hK: ∀a,(∀m,m < n->w.cell? (a.add m)=(f y)[m]?)->K a):Ix s.a s.len j n K:=by
 obtain⟨O,hO⟩:=h.dQ hi
 exact cf.ix hf (cA.toR hO) h0 hy hK
theorem mL (h:Hp S w0 w ae) (i:Nat) {s:Sl} {l:List α} {j:Int} {y:α} {v:Value} {K:World->Prop} (hi:ae[i]? =some (aj s e 1 f l)) (h0:0<=j) (ar:j.toNat < l.length) (hf: ∀x,(f x).length=1) (hy:f y= [v]) (hv:v.oneCell'=true)
  (hK: ∀w',Hp S w0 w' (ae.set i (aj s e 1 f (l.set j.toNat y)))->K w'):Ix s.a s.len j 1 fun a=>St a v w K:=by
 obtain⟨O,hO,back⟩:=h.step hi rfl
 refine cA.ix hf hO h0 (x:=l[j.toNat]) (by simp [ar]) fun b off c ho hb eY pW dh=>?_
 refine Go.Den.st hb (by omega) hv fun w' iV wK _=>hK w' (back (t':=aj s e 1 f (l.set j.toNat y)) (O':=O) (by rw [ho];exact wK) (dh w' y ?_) (fun k hk=>.inl hk) rfl)
 have e1:c.set off v=c.take off++f y++c.drop (off+1):=by
  rw [ahI,if_pos (by omega),hy];simp
 rw [<-e1];exact iV
theorem GM (h:Hp S w0 w ae) (i:Nat) {s:Sl} {l:List α} {j:Int} {y:α} {v v':Value} {K:World->Prop} (hi:ae[i]? =some (aj s e 2 f l)) (h0:0<=j) (ar:j.toNat < l.length) (hf: ∀x,(f x).length=2) (hy:f y= [v,v']) (hv:v.oneCell'=true) (No:v'.oneCell'=true)
  (hK: ∀w',Hp S w0 w' (ae.set i (aj s e 2 f (l.set j.toNat y)))->K w'):Ix s.a s.len j 2 fun a=>St a v w fun w=>St (a.add 1) v' w K:=by
 obtain⟨O,hO,back⟩:=h.step hi rfl
 refine cA.ix hf hO h0 (x:=l[j.toNat]) (by simp [ar]) fun b off c ho hb eY pW dh=>?_
 refine Go.Den.st hb (by omega) hv fun w1 lr vF _=>Go.Den.sto lr (by simp;omega) No fun w' iV wK _=>hK w' (back (t':=aj s e 2 f (l.set j.toNat y)) (O':=O) (by rw [ho];exact vF.trans wK (by simp)) (dh w' y ?_) (fun k hk=>.inl hk) rfl)
 have e1:(c.set off v).set (off+1) v'=c.take off++f y++c.drop (off+2):=by
  apply agd
  intro m
  rw [hy]
  have l1:(List.take off c).length=off:=by rw [afM];omega
  simp only [agm,agP,afw,l1,af6,agU,agi,agc,agn]
  by_cases h1:m < off
  ·rw [if_neg (by omega),if_neg (by omega),if_pos (by omega),if_pos h1,if_pos h1]
  ·by_cases h2:m=off
   ·subst h2
    rw [if_neg (by omega),if_pos rfl,if_pos (by omega),if_pos (by omega),if_neg (by omega)]
    simp
   ·by_cases h3:m=off+1
    ·subst h3
     rw [if_pos rfl,if_pos (by omega),if_pos (by omega),if_neg (by omega)]
     simp
    ·rw [if_neg (by omega),if_neg (by omega),if_neg (by omega)]
     congr 1;omega
 rw [<-e1];exact iV
theorem vH (h:Hp S w0 w ae) (i:Nat) {u:aa} {s:Sl} {l:List α} {j:Int} {K:Addr->Prop} (hi:(ae[i]?).map aa.holds=some u.holds) (hu:Reads u s n f l) (h0:0<=j) (ar:j.toNat < l.length) (hK: ∀x,s.a=some x->K (x.add (j.toNat*n))):Ix s.a s.len j n K:=by
 obtain⟨O,hO⟩:=h.dQ hi
 obtain⟨o,hR⟩:=hu.rd hO
 refine⟨h0,by have:=hR.1;omega,?_⟩
 rcases hR.2 with ⟨h1,_⟩ | ⟨x,h1,_⟩
 ·have:=hR.1;omega
 ·rw [h1]
  exact hK x h1
theorem PX (h:Hp S w0 w ae) (i:Nat) {u:aa} {s:Sl} {l:List α} {j m:Nat} {x:Addr} {y:α} {v:Value} (hi:(ae[i]?).map aa.holds=some u.holds) (hu:Reads u s n f l) (hx:s.a=some x) (hf: ∀x,(f x).length=n) (hy:l[j]? =some y) (hm:(f y)[m]? =some v):
  w.cell? ((x.add (j*n)).add m)=some v:=by
 obtain⟨O,hO⟩:=h.dQ hi
 obtain⟨o,hR⟩:=hu.rd hO
 have ar:=(aft.1 hy).1
 rcases hR.2 with ⟨h1,_⟩ | ⟨x',h1,_,_,h2⟩
 ·have:=hR.1;omega
 ·obtain rfl:x'=x:=afK (h1.symm.trans hx)
  rw [Addr.iu]
  have hmn:m < n:=by have:=(aft.1 hm).1;rw [hf] at this;exact this
  exact h2 _ _ ((By hf hy hmn).trans hm)
theorem C6 (h:Hp S w0 w ae) (i:Nat) {u:aa} {s:Sl} {l:List α} {j:Nat} {x:Addr} {y:α} {v:Value} (hi:(ae[i]?).map aa.holds=some u.holds) (hu:Reads u s n f l) (hx:s.a=some x) (hf: ∀x,(f x).length=n) (hy:l[j]? =some y) (hm:(f y)[0]? =some v):
  w.cell? (x.add (j*n))=some v:=Addr.ou (h.PX i hi hu hx hf hy hm)
theorem A6 (h:Hp S w0 w ae) (i:Nat) {u:aa} {s:Sl} {l:List α} {j m:Nat} {x:Addr} {y:α} {k:Kd} {v:k.T} {K:k.T->Prop} (hi:(ae[i]?).map aa.holds=some u.holds) (hu:Reads u s n f l) (hx:s.a=some x) (hf: ∀x,(f x).length=n) (hy:l[j]? =some y) (hm:(f y)[m]? =some (k.inj v)) (hK:K v):
  Ld k w ((x.add (j*n)).add m) K:=⟨v,h.PX i hi hu hx hf hy hm,hK⟩
theorem pX (h:Hp S w0 w ae) (i:Nat) {u:aa} {s:Sl} {l:List α} {j:Nat} {x:Addr} {y:α} {k:Kd} {v:k.T} {K:k.T->Prop} (hi:(ae[i]?).map aa.holds=some u.holds) (hu:Reads u s n f l) (hx:s.a=some x) (hf: ∀x,(f x).length=n) (hy:l[j]? =some y) (hm:(f y)[0]? =some (k.inj v)) (hK:K v):
  Ld k w (x.add (j*n)) K:=⟨v,h.C6 i hi hu hx hf hy hm,hK⟩
def uC (c:List Value) (off:Nat):List Value->List Value
 | []=>c
 | v :: vs=>uC (c.set off v) (off+1) vs
theorem wY: ∀(vs c:List Value) (off:Nat),off+vs.length<=c.length->uC c off vs=c.take off++vs++c.drop (off+vs.length)
 | [],c,off,_=>by simp [uC]
 | v :: vs,c,off,h=>by
  simp only [af6] at h
  rw [uC,wY vs _ _ (by simp;omega)]
  have e1:(c.set off v).take (off+1)=c.take off++ [v]:=by
   rw [List.take_set,afG (by omega)]
   have:(List.take off c).length=off:=by rw [afM];omega
   rw [afI _ _ (by omega)]
   simp [this]
  have e2:(c.set off v).drop (off+1+vs.length)=c.drop (off+(v :: vs).length):=by
   rw [agG (by omega)]
   congr 1
   simp only [af6];omega
  rw [e1,e2]
  simp
theorem Z8 (h:Hp S w0 w ae) (i:Nat) {s:Sl} {l:List α} {j:Int} {K:Addr->Prop} (hi:ae[i]? =some (aj s e n f l)) (h0:0<=j) (ar:j.toNat < l.length) (hf: ∀x,(f x).length=n)
  (hK: ∀b off c,off+n<=c.length->Hp S w0 w (ae.set i (ai b e c))->(∀{w':World} {wg:List aa} (y:α),Hp S w0 w' wg->wg[i]? =some (ai b e (uC c off (f y)))->Hp S w0 w' (wg.set i (aj s e n f (l.set j.toNat y))))->K ⟨b,off,none⟩):
  Ix s.a s.len j n K:=by
 obtain⟨O,hO,back⟩:=h.step hi rfl
 refine cA.ix hf hO h0 (x:=l[j.toNat]) (by simp [ar]) fun b off c ho hb eY pW dh=>?_
 refine hK b off c eY (back (t':=ai b e c) (O':= [b]) (Fr.refl _ _) ⟨hb,rfl⟩ (by rw [ho];exact fun k hk=>.inl hk) rfl) fun{w' wg} y hp fK=>?_
 refine hp.sU fK rfl (fun w2 O2 h2=>?_) rfl
 obtain⟨eU,rfl⟩:=h2
 have:=dh w2 y (by rw [wY _ _ _ (by rw [hf];exact eY),hf] at eU;exact eU)
 rw [ho] at this
 exact this
theorem A7 (h:Hp S w0 w ae) (i:Nat) {b o m:Nat} {e:TypeId} {c:List Value} {v:Value} {K:World->Prop}
  (hi:ae[i]? =some (ai b e c)) (ho:o+m < c.length) (hv:v.oneCell'=true) (hK: ∀w',Hp S w0 w' (ae.set i (ai b e (c.set (o+m) v)))->K w'):St ((⟨b,o,none⟩:Addr).add m) v w K:=by
 rw [Addr.aQ]
 exact h.PW i hi ho hv hK
theorem cut (h:Hp S w0 w ae) (i:Nat) {s:Sl} {l:List α} {a b m:Int} {K:Sl->Prop} (hi:ae[i]? =some (aj s e n f l)) (hf: ∀x,(f x).length=n) (h0:0<=a) (h1:a<=b) (h2:b<=m) (h3:m<=s.cap) (h4:b<=s.len)
  (hK: ∀s',Hp S w0 w (ae.set i (aj s' e n f ((l.take b.toNat).drop a.toNat)))->s'.len=b.toNat - a.toNat->s'.cap=m.toNat - a.toNat->(s'.a=none↔s.a=none)->K s'):Cut s a b m n K:=by
 obtain⟨O,hO,back⟩:=h.step hi rfl
 exact cA.cut hf hO h0 h1 h2 h3 h4 fun s' hs hl hc hn=>hK s' (back (Fr.refl _ _) (t':=aj s' e n f _) hs (fun k hk=>.inl hk) rfl) hl hc hn
theorem jT {u:aa} {s:Sl} {l:List α} {a b m:Int} {K:Sl->Prop} (hu:Reads u s n f l) (hl:l.length=s.len) (hf: ∀x,(f x).length=n) (h0:0<=a) (h1:a<=b) (h2:b<=m) (h3:m<=s.cap) (h4:b<=s.len)
  (hK: ∀s',Reads u s' n f ((l.take b.toNat).drop a.toNat)->s'.len=b.toNat - a.toNat->s'.cap=m.toNat - a.toNat->K s'):Cut s a b m n K:=by
 refine⟨h0,h1,h2,h3,hK _ ⟨fun{w O} hO=>?_⟩ rfl rfl⟩
 obtain⟨o,hR⟩:=hu.rd hO
 by_cases hz:b.toNat - a.toNat=0
 ·refine⟨[],⟨?_,.inl ⟨hz,rfl⟩⟩⟩
  simp only [af4,afM];omega
 ·rcases hR.2 with ⟨q1,_⟩ | ⟨x,q1,q2,q3,q4⟩
  ·omega
  ·refine⟨[x.block],⟨by simp only [af4,afM];omega,.inr ⟨x.add (a.toNat*n),?_,?_,?_,?_⟩⟩⟩
   ·show (if m.toNat=a.toNat then s.a else _)=_
    rw [if_neg (by omega),q1];rfl
   ·rw [Addr.jh]
   ·rw [Addr.jh];exact q3
   ·intro j v hj
    rw [Addr.iu]
    refine q4 _ _ ?_
    rw [<-pM hf,<-pL hf,agn,agc] at hj
    split at hj
    ·exact hj
    ·cases hj
theorem Z9 (h:Hp S w0 w ae) {z:List Value} {bytes:Nat} {k c:Int} {K:Sl->World->Prop} {x0:α} (hf: ∀x,(f x).length=n) (hz:f x0=z) (h0:0<=k) (h1:k<=c) (h2:c<=281474976710656) (h3:bytes*c<=281474976710656)
  (hK: ∀s w',Hp S w0 w' (ae++ [aj s e n f (List.replicate k.toNat x0)])->s.len=k.toNat->s.cap=c.toNat->s.a≠none->K s w'):Mk z e bytes k c w K:=by
 refine⟨h0,h1,h2,h3,?_⟩
 have ei: ∀m,(List.replicate m x0).flatMap f=mA z m:=by
  intro m
  induction m with
  | zero=>rfl
  | succ m ih=>rw [agO,age,ih,hz];rfl
 refine hK _ _ ?_ rfl rfl (by simp)
 refine h.grow (Fr.alloc w _) (t:=aj ⟨some ⟨w.heap.size,0,none⟩,k.toNat,c.toNat⟩ e n f (List.replicate k.toNat x0)) (O:= [w.heap.size]) ?_ (by simp) rfl
 refine⟨by simp,.inr ⟨w.heap.size,0,mA z c.toNat,rfl,rfl,fz.alloc w _ e,?_,?_,?_⟩⟩
 ·show k.toNat<=c.toNat;omega
 ·show 0+c.toNat*n<=_
  rw [<-ei,iM hf,agN];omega
 ·show List.take (k.toNat*n) _=_
  rw [ahv,<-ei,pL hf,List.take_replicate,ahe (by omega)]
theorem sr (h:Hp S w0 w ae) {i b m:Nat} {c:List Value} {l:List α} (hi:ae[i]? =some (ai b e c)) (hc:c=l.flatMap f) (hm:l.length=m) (hf: ∀x,(f x).length=n):Hp S w0 w (ae.set i (aj ⟨some ⟨b,0,none⟩,m,m⟩ e n f l)):=
 h.sU hi rfl (fun w O hO=>by
  obtain⟨hb,rfl⟩:=hO
  subst hc
  exact cA.v7 hb hm hf) rfl
section
variable {P:Program}
theorem app (h:Hp S w0 w ae) (i j:Nat) {s:Sl} {t ty e':TypeId} {inf:TypeInfo} {z:Value} {l:List α} {y:α} {b c':Nat} {c:List Value} {K:Sl->World->Prop} (hi:ae[i]? =some (aj s e n f l)) (hj:(ae[j]?).map aa.holds=some (ai b e' c).holds) (hf: ∀x,(f x).length=n)
  (ht:P.underlying t=some (.slice e)) (ic:P.info? e=some inf) (dw:inf.size=n) (hz:inf.zero=some z) (yU:z.cells.size=n) (hc:c=f y) (h1: ∀u∈f y,u.oneCell'=true)
  (hb:(s.len+1)*inf.bytes<=140737488355328) (hn:s.len+1<=140737488355328)
  (hK: ∀s' w',Hp S w0 w' (ae.set i (aj s' e n f (l++ [y])))->s'.len=s.len+1->s'.a≠none->K s' w'):
  bZ .sl P (Builtin.append_ #[t,t] ty #[.slice s.a s.len s.cap,.slice (some ⟨b,0,none⟩) 1 c']) w K:=by
 obtain⟨Ob,hO,_⟩:=h.dQ hj
 obtain⟨O,hs,back⟩:=h.step hi rfl
 refine cA.app hf ht ic dw hz yU hs (news:= [y]) rfl ?_ (by simpa using h1) hb hn ?_
 ·intro m u hm
  rw [Addr.aQ,hO.cell,agH,hc]
  simpa using hm
 ·intro s' w' o' qy cW lu hg wK _ kq
  refine hK s' w' (back (t':=aj s' e n f (l++ [y])) wK qy ?_ rfl) cW (kq (.inr (by omega)))
  rcases lu with rfl | ⟨k,h1,_,rfl⟩
  ·exact fun k hk=>.inl hk
  ·intro k' bG;simp only [afF] at bG;subst bG;exact .inr h1
theorem bL (h:Hp S w0 w ae) (i:Nat) {s:Sl} {t ty e':TypeId} {inf:TypeInfo} {z:Value} {l:List α} {c':Nat} {c:List Value} {K:Sl->World->Prop} (y:α) (hi:ae[i]? =some (aj s e n f l)) (hf: ∀x,(f x).length=n)
  (ht:P.underlying t=some (.slice e)) (ic:P.info? e=some inf) (dw:inf.size=n) (hz:inf.zero=some z) (yU:z.cells.size=n) (hc:c=f y) (h1: ∀u∈f y,u.oneCell'=true)
  (hb:(s.len+1)*inf.bytes<=140737488355328) (hn:s.len+1<=140737488355328)
  (hK: ∀s' w',Hp S w0 w' (ae.set i (aj s' e n f (l++ [y])))->s'.len=s.len+1->s'.a≠none->K s' w'):
  Nw (.cells c.toArray e') w fun b w=>bZ .sl P (Builtin.append_ #[t,t] ty #[.slice s.a s.len s.cap,.slice (some b) 1 c']) w K:=by
 have hl:=(aft.1 hi).1
 refine h.nw fun b w h=>?_
 refine h.app i ae.length (e':=e') (c:=c) (by rw [afx hl];exact hi) (by simp) hf ht ic dw hz yU hc h1 hb hn fun s' w' h h1 h2=>hK s' w' ?_ h1 h2
 rw [agx _ _ hl] at h
 exact h.front
theorem gY (h:Hp S w0 w ae) (i j:Nat) {s s2:Sl} {t ty:TypeId} {inf:TypeInfo} {z:Value} {l news:List α} {K:Sl->World->Prop} (hi:ae[i]? =some (aj s e n f l)) {u:aa} (hj:ae[j]? =some u) (hu:Reads u s2 n f news) (hf: ∀x,(f x).length=n)
  (ht:P.underlying t=some (.slice e)) (ic:P.info? e=some inf) (dw:inf.size=n) (hz:inf.zero=some z) (yU:z.cells.size=n) (h1: ∀x,∀u∈f x,u.oneCell'=true)
  (hb:(s.len+s2.len)*inf.bytes<=140737488355328) (hn:s.len+s2.len<=140737488355328)
  (hK: ∀s' w',Hp S w0 w' (ae.set i (aj s' e n f (l++news)))->s'.len=s.len+s2.len->(s.a≠none \/ s2.len≠0->s'.a≠none)->K s' w'):
  bZ .sl P (Builtin.append_ #[t,t] ty #[.slice s.a s.len s.cap,.slice s2.a s2.len s2.cap]) w K:=by
 obtain⟨Ou,hO⟩:=h.n9 hj
 obtain⟨o2,h2⟩:=hu.rd hO
 obtain⟨O,hs,back⟩:=h.step hi rfl
 refine cA.gY hf ht ic dw hz yU hs h2 h1 hb hn ?_
 intro s' w' o' qy cW lu hg wK _ kq
 refine hK s' w' (back (t':=aj s' e n f (l++news)) wK qy ?_ rfl) cW kq
 rcases lu with rfl | ⟨k,h1,_,rfl⟩
 ·exact fun k hk=>.inl hk
 ·intro k' bG;simp only [afF] at bG;subst bG;exact .inr h1
theorem copy (h:Hp S w0 w ae) (i j:Nat) (mJ:i≠j) {s s2:Sl} {t t2 ty:TypeId} {inf:TypeInfo} {l news:List α} {K:Int->World->Prop} (hi:ae[i]? =some (aj s e n f l)) {u:aa} (hj:ae[j]? =some u) (hu:Reads u s2 n f news) (hf: ∀x,(f x).length=n)
  (ht:P.underlying t=some (.slice e)) (ic:P.info? e=some inf) (dw:inf.size=n) (h1: ∀x,∀u∈f x,u.oneCell'=true) (hle:s2.len<=s.len)
  (hK: ∀w',Hp S w0 w' (ae.set i (aj s e n f (news++l.drop s2.len)))->K s2.len w'):
  bZ (.i .i64) P (Builtin.copy_ #[t,t2] ty #[.slice s.a s.len s.cap,.slice s2.a s2.len s2.cap]) w K:=by
 obtain⟨Ou,hO⟩:=h.n9 hj
 obtain⟨o2,h2⟩:=hu.rd hO
 obtain⟨O,hs,back⟩:=h.step hi rfl
 have kF:(news.flatMap f).length=s2.len*n:=by rw [iM hf,h2.1]
 have PY:Nat.min s2.len s.len=s2.len:=ahe hle
 have GN: ∀u∈news.flatMap f,u.oneCell'=true:=fun u hu=>by
  obtain⟨x,_,hu⟩:=ag0.1 hu
  exact h1 x u hu
 have gr:(Builtin.firstCells inf.size s2.len (.slice s2.a s2.len s2.cap)).run P w=.ok (news.flatMap f).toArray w:=by
  rw [dw]
  rcases h2.2 with ⟨oM,ho⟩ | ⟨x,ha,ho,_,fy⟩
  ·have:news= []:=af7 (by rw [h2.1,oM])
   subst this
   rw [oM]
   cases s2.a <;> simp [Builtin.firstCells,loadCells,loadCellsFrom]
  ·rw [ha]
   exact run_firstCells_some (P:=P) w n s2.len x s2.len s2.cap (news.flatMap f) kF fy
 have gi:=hs.1
 rcases hs.2 with ⟨ha,oM,ya,ho⟩ | ⟨b,off,c,ha,ho,j7,dF,eY,cX⟩
 ·have hm:s2.len=0:=by omega
  have Jr:news= []:=af7 (by rw [h2.1,hm])
  have nH:l= []:=af7 (by omega)
  subst Jr;subst nH
  refine⟨(0:Int),w,?_,?_⟩
  ·rw [hm] at gr
   rw [ha,oM,hm]
   simp only [Builtin.copy_]
   have e0:(#[t,t2]:Array TypeId)[0]? =some t:=rfl
   simp [run_underlying ht,Builtin.lenOf,sizeOf,typeInfo,ic,gr,Kd.inj,goInt]
  ·have:=hK w (by
    have h3:=back (Fr.refl _ _) (t':=aj s e n f ([]++List.drop s2.len [])) (O':=O) (by simpa using hs) (fun k hk=>.inl hk) rfl
    exact h3)
   rw [hm] at this
   exact this
 ·subst ho
  have wU:s.len*n<=s.cap*n:=agA _ dF
  have ab5:s2.len*n<=s.len*n:=agA _ hle
  have bO:=run_storeCells_at P b off e (news.flatMap f) 0 c.toArray w j7 (by simp only [ah8,kF];omega) GN
  refine⟨(s2.len:Int),w.setRow b (c.take off++news.flatMap f++c.drop (off+(news.flatMap f).length)).toArray,?_,hK _ ?_⟩
  ·rw [ha]
   simp only [aho] at bO
   simp only [Builtin.copy_]
   simp [run_underlying ht,Builtin.lenOf,sizeOf,typeInfo,ic,gr,PY,bO,Kd.inj,goInt]
  ·refine back (t':=aj s e n f (news++l.drop s2.len)) (O':= [b]) ⟨rfl,rfl,rfl,by simp,fun k _ hk=>setRow_other w b k _ (fun e=>hk (by simp [e]))⟩ ?_ (fun k hk=>.inl hk) rfl
   refine⟨by simp [h2.1];omega,.inr ⟨b,off,_,ha,rfl,setRow_heap w b c.toArray _ e _ j7,dF,?_,?_⟩⟩
   ·simp only [afw,afM,af4,kF];omega
   rw [af5,<-pM hf,<-cX]
   apply agd
   intro q
   simp only [agc,agn,agP,afw,afM,af4,kF]
   have e1:min off c.length=off:=by omega
   rw [e1]
   by_cases hq:q < s.len*n
   ·rw [if_pos hq]
    by_cases KN:q < s2.len*n
    ·rw [if_pos (by omega),if_neg (by omega),if_pos KN]
     congr 1;omega
    ·rw [if_neg (by omega),if_neg KN,if_pos (by omega)]
     congr 1;omega
   ·rw [if_neg hq,if_neg (by omega),if_neg (by omega)]
end
end
end Hp
end Go.Den
end

section
namespace Go.Den
open Go.RowKit
structure zA (P:Program) (kt:TypeId) {κ:Type} [DecidableEq κ] (ek:κ->Value):Prop where
 Vs: ∀(w:World) (b:Bool) (a:κ),(Instr.checkKey b 10000 kt (ek a)).run P w=.ok () w
 Vt: ∀(w:World) (a:κ) (l:List κ) (es:List MapEntry),es.map (·.key)=l.map ek->(Instr.findKey kt (ek a) es).run P w=.ok ((l.findIdx? (fun b=>decide (b=a))).bind fun i=>(es[i]?).map fun e=>(i,e.val)) w
 same: ∀a,Instr.sameBits 10000 (ek a) (ek a)=true
theorem mU {P:Program} {kt:TypeId} {κ:Type} [DecidableEq κ] {ek:κ->Value} {w:World} (heq: ∀a b:κ,(Op.equal kt (ek a) (ek b)).run P w=.ok (decide (b=a)) w) (a:κ):
  ∀(l:List κ) (es:List MapEntry) (i:Nat),es.map (·.key)=l.map ek->(Instr.findAsking kt (ek a) es i).run P w=.ok ((l.findIdx? (fun b=>decide (b=a))).bind fun j=>(es[j]?).map fun e=>(i+j,e.val)) w
 | [],[],i,_=>by simp [Instr.findAsking]
 | [],_ :: _,i,h=>by simp at h
 | _ :: _,[],i,h=>by simp at h
 | b :: l,e :: es,i,h=>by
  simp only [agl,ahr] at h
  obtain⟨h1,h2⟩:=h
  have ih:=mU heq a l es (i+1) h2
  simp only [Instr.findAsking,h1,Sem.run_bind,heq,Result.andThen_ok,List.findIdx?_cons]
  by_cases hb:b=a
  ·simp [hb]
  ·simp only [hb,decide_false,agD,if_false,ih]
   congr 1
   cases l.findIdx? (fun b=>decide (b=a)) with
   | none=>rfl
   | some j=>simp [ahD,aim 1 j]
theorem sW {P:Program} {w:World} {t:TypeId} {fs:Array Field} {cs:Array Value} {b:Bool} {n:Nat} (hu:P.underlying t=some (.struct fs))
  (bF: ∀f∈fs.toList,∃k m,P.underlying f.type=some (.int k) /\ cs[f.offset]? =some (.int k m)):(Instr.checkKey b (n+2) t (.agg cs)).run P w=.ok () w:=by
 have loop: ∀(l:List Field),(∀f∈l,∃k m,P.underlying f.type=some (.int k) /\ cs[f.offset]? =some (.int k m))->
   (forIn l PUnit.unit fun f _ => (if f.name ≠ "_" then (do let p <- part f.type cs f.offset; Instr.checkKey b (n + 1) f.type p; pure (ForInStep.yield PUnit.unit)) else pure (ForInStep.yield PUnit.unit) : Sem (ForInStep PUnit))).run P w = .ok PUnit.unit w := by
  intro l
  induction l with
  | nil=>intro _;rfl
  | cons f l ih=>
   intro h
   obtain⟨k,m,h1,h2⟩:=h f (by simp)
   have MX:=ih (fun g hg=>h g (by simp [hg]))
   have hp:(part f.type cs f.offset).run P w=.ok (.int k m) w:=by
    simp [part,gR h1,lB,h2]
   have hc:(Instr.checkKey b (n+1) f.type (.int k m)).run P w=.ok () w:=by
    simp [Instr.checkKey,run_underlying h1]
   simp only [List.forIn_cons,Sem.run_bind]
   by_cases hn : f.name ≠ "_"
   ·simp only [if_pos hn,Sem.run_bind,hp,hc,Result.andThen_ok,Sem.run_pure]
    exact MX
   ·simp only [if_neg hn,Sem.run_bind,Sem.run_pure,Result.andThen_ok]
    exact MX
 rw [Instr.checkKey]
 simp only [Sem.run_bind,run_underlying hu,Result.andThen_ok]
 rw [<-Array.forIn_toList,loop _ bF]
 rfl
theorem zB {P:Program} {kt:TypeId} {κ:Type} [DecidableEq κ] {ek:κ->Value} {fs:Array Field} (hu:P.underlying kt=some (.struct fs))
  (bF: ∀a,∃cs,ek a=.agg cs /\ (∀f∈fs.toList,∃k m,P.underlying f.type=some (.int k) /\ cs[f.offset]? =some (.int k m)) /\ Instr.sameBits 10000 (.agg cs) (.agg cs)=true)
  (heq: ∀(w:World) (a b:κ),(Op.equal kt (ek a) (ek b)).run P w=.ok (decide (b=a)) w):zA P kt ek:=by
 refine⟨fun w b a=>?_,fun w a l es oc=>?_,fun a=>?_⟩
 ·obtain⟨cs,h1,h2,_⟩:=bF a
  rw [h1]
  exact sW hu h2
 ·simp only [Instr.findKey,Sem.run_bind,run_underlying hu,Result.andThen_ok]
  have hn:Instr.findNow (.struct fs) (ek a) es 0=none \/ (es= [] /\ l= []):=by
   cases es with
   | nil=>exact .inr ⟨rfl,by simpa using oc.symm⟩
   | cons e es=>exact .inl (by simp [Instr.findNow,Instr.sameNow])
  rcases hn with hn | ⟨rfl,rfl⟩
  ·rw [hn]
   have:=mU (P:=P) (w:=w) (fun a b=>heq w a b) a l es 0 oc
   simpa using this
  ·simp [Instr.findNow]
 ·obtain⟨cs,h1,_,h3⟩:=bF a
  rw [h1];exact h3
theorem yq {κ ν:Type} {ek:κ->Value} {ev:ν->Value} {es:List MapEntry} {l:List (κ×ν)} (h:es.map (fun e=>(e.key,e.val))=l.map fun p=>(ek p.1,ev p.2)):es.map (·.key)=(l.map (·.1)).map ek /\ es.map (·.val)=(l.map (·.2)).map ev:=by
 constructor
 ·have:=congrArg (List.map Prod.fst) h
  simpa [ahy,Function.comp_def] using this
 ·have:=congrArg (List.map Prod.snd) h
  simpa [ahy,Function.comp_def] using this
section
variable {κ ν:Type} [DecidableEq κ] {ek:κ->Value} {ev:ν->Value}
def gh (l:List (κ×ν)) (k:κ):Option ν:=((l.map (·.1)).findIdx? (fun b=>decide (b=k))).bind fun i=>(l[i]?).map (·.2)
def oY (l:List (κ×ν)) (k:κ) (v:ν):List (κ×ν):=
 match (l.map (·.1)).findIdx? (fun b=>decide (b=k)) with
 | some i=>l.set i (k,v)
 | none=>l++ [(k,v)]
def zC (l:List (κ×ν)) (k:κ):List (κ×ν):=
 match (l.map (·.1)).findIdx? (fun b=>decide (b=k)) with
 | some i=>l.eraseIdx i
 | none=>l
theorem ja (l:List (κ×ν)) (k:κ):gh l k=(l.find? (fun p=>decide (p.1=k))).map (·.2):=by
 induction l with
 | nil=>rfl
 | cons p l ih=>
  unfold gh at ih ⊢
  simp only [agl,List.findIdx?_cons,ahs]
  by_cases h:p.1=k
  ·simp [h]
  ·simp only [h,decide_false,agD,if_false]
   rw [<-ih]
   cases (l.map (·.1)).findIdx? (fun b=>decide (b=k)) <;> simp
theorem GO (k:κ):gh ([]:List (κ×ν)) k=none:=rfl
theorem zD (l:List (κ×ν)) (k k':κ) (v:ν):gh (oY l k v) k'=if k'=k then some v else gh l k':=by
 simp only [ja]
 unfold oY
 split
 ·rename_i i hi
  obtain⟨ar,h1,h2⟩:=agB.1 hi
  simp only [afP] at ar
  simp only [List.getElem_map,decide_eq_true_eq] at h1
  clear hi
  induction l generalizing i with
  | nil=>simp at ar
  | cons p l ih=>
   cases i with
   | zero=>
    simp only [ahU] at h1
    simp only [afN,ahs]
    by_cases hk:k'=k
    ·simp [hk]
    ·have: ¬k=k':=fun e=>hk e.symm
     simp [hk,this,h1]
   | succ i=>
    have h0:=h2 0 (by omega)
    simp only [agl,ahU,decide_eq_true_eq,Bool.not_eq_true,decide_eq_false_iff_not] at h0
    simp only [afZ,ahs]
    by_cases hk:p.1=k'
    ·have: ¬k'=k:=fun e=>h0 (hk.trans e)
     simp [hk,this]
    ·simp only [hk,decide_false]
     refine ih i (by simpa using ar) (fun j hj=>?_) (by simpa using ar) (by simpa using h1)
     have:=h2 (j+1) (by omega)
     simpa using this
 ·rename_i hi
  simp only [ahm,afQ,decide_eq_false_iff_not] at hi
  rw [List.find?_append]
  by_cases hk:k'=k
  ·subst hk
   have:l.find? (fun p=>decide (p.1=k'))=none:=by
    rw [ahS]
    intro p hp
    have:=hi p.1 ⟨p,hp,rfl⟩
    simpa using this
   simp [this]
  ·have: ¬k=k':=fun e=>hk e.symm
   simp [hk,this]
theorem wZ (l:List (κ×ν)) (k:κ) (v:ν) (h:(l.map (·.1)).Nodup):((oY l k v).map (·.1)).Nodup:=by
 unfold oY
 split
 ·rename_i i hi
  obtain⟨ar,h1,h2⟩:=agB.1 hi
  simp only [decide_eq_true_eq] at h1
  have:(l.set i (k,v)).map (·.1)=l.map (·.1):=by
   rw [agR,<-h1,List.set_getElem_self]
  rw [this];exact h
 ·rename_i hi
  simp only [ahm,decide_eq_false_iff_not] at hi
  rw [agh,ago]
  refine⟨h,by simp,?_⟩
  intro a ha b hb e
  simp only [agl,ahq,afF] at hb
  exact hi a ha (e.trans hb)
theorem D8 (l:List (κ×ν)) (k:κ) (h:(l.map (·.1)).Nodup):((zC l k).map (·.1)).Nodup:=by
 unfold zC
 split
 ·rename_i i hi
  exact h.sublist ((ah0 _ _).map _)
 ·exact h
theorem xc {l:List (κ×ν)} {k:κ} (h:k ∉ l.map (·.1)):gh l k=none:=by
 rw [ja,aib,ahS]
 intro p hp
 simp only [decide_eq_true_eq]
 intro e
 exact h (afQ.2 ⟨p,hp,e⟩)
theorem GP (l:List (κ×ν)) (k k':κ) (h:(l.map (·.1)).Nodup):gh (zC l k) k'=if k'=k then none else gh l k':=by
 unfold zC
 split
 ·rename_i i hi
  obtain⟨ar,h1,h2⟩:=agB.1 hi
  simp only [decide_eq_true_eq] at h1
  clear hi h2
  simp only [afP] at ar
  induction l generalizing i with
  | nil=>simp at ar
  | cons p l ih=>
   simp only [agl,ags] at h
   cases i with
   | zero=>
    simp only [agl,ahU] at h1
    simp only [List.eraseIdx_cons_zero]
    by_cases hk:k'=k
    ·rw [if_pos hk,xc]
     rw [hk,<-h1];exact h.1
    ·rw [if_neg hk]
     have: ¬p.1=k':=fun e=>hk (e.symm.trans h1)
     simp [ja,ahs,this]
   | succ i=>
    have rY:(l.map (·.1))[i]'(by simpa using ar)=k:=by simpa using h1
    have MX:=ih h.2 i (by simpa using ar) rY (by simpa using ar)
    simp only [ahP]
    have PZ:p.1≠k:=by
     intro e
     apply h.1
     rw [e,<-rY]
     exact afR _
    simp only [ja,ahs] at MX ⊢
    by_cases hk:p.1=k'
    ·have: ¬k'=k:=fun e=>PZ (hk.trans e)
     simp [hk,this]
    ·simp only [hk,decide_false]
     exact MX
 ·rename_i hi
  by_cases hk:k'=k
  ·rw [if_pos hk,hk]
   apply xc
   simp only [ahm,decide_eq_false_iff_not] at hi
   intro hm
   exact hi k hm rfl
  ·rw [if_neg hk]
def fX (b:Nat) (ek:κ->Value) (ev:ν->Value) (g:κ->Option ν):aa:=
  { holds:=fun w O=> ∃l:List (κ×ν),(D5 b (l.map fun p=>(ek p.1,ev p.2))).holds w O /\ (l.map (·.1)).Nodup /\ ∀k,gh l k=g k
    fr:=fun{S w w' O} h hf hn=>by
      obtain⟨l,h1,h2,h3⟩:=h
      exact⟨l,(D5 b (l.map fun p=>(ek p.1,ev p.2))).fr h1 hf hn,h2,h3⟩
    lt:=fun{w O} h=>by
      obtain⟨l,h1,h2,h3⟩:=h
      exact(D5 b (l.map fun p=>(ek p.1,ev p.2))).lt h1}
def aH (g:κ->Option ν) (k:κ) (v:Option ν):κ->Option ν:=fun k'=>if k'=k then v else g k'
theorem dV {α β:Type} (f:α->β): ∀(l:List α) (i:Nat),(l.eraseIdx i).map f=(l.map f).eraseIdx i
 | [],_=>rfl
 | _ :: _,0=>rfl
 | x :: l,i+1=>by simp [dV f l i]
namespace Hp
variable {S:List Nat} {w0 w:World} {ae:List aa} {P:Program}
theorem xd (h:Hp S w0 w ae) {i b:Nat} (ek:κ->Value) (ev:ν->Value) (hi:ae[i]? =some (D5 b [])):Hp S w0 w (ae.set i (fX b ek ev fun _=>none)):=
 h.sU hi rfl (fun w O hO=>⟨[],hO,by simp,fun k=>rfl⟩) rfl
theorem lookup (h:Hp S w0 w ae) (i:Nat) {b:Nat} {g:κ->Option ν} {mt kt vt:TypeId} {kd:Kd} {inf:TypeInfo} {k:κ} {vk:ν->kd.T} {z:kd.T} {K:kd.T->Bool->World->Prop} {kv:Value} (Fe:kv=ek k)
  (hi:(ae[i]?).map aa.holds=some (fX b ek ev g).holds) (hm:P.underlying mt=some (.map kt vt)) (hk:zA P kt ek) (ic:P.info? vt=some inf) (hz:inf.zero=some (kd.inj z)) (hv: ∀v,ev v=kd.inj (vk v))
  (hK:K (match g k with | some v=>vk v | none=>z) (g k).isSome w):
  gp [.one kd,.one .b] P (Instr.lookup mt (.map (some b)) kv true) w K:=by
 subst Fe
 obtain⟨O,l,⟨⟨es,clock,hb,oc,_⟩,_⟩,bE,hg⟩:=h.dQ hi
 have iV: ∀w',Ext w w'->w'.heap[b]? =some (.map es clock):=fun w' he=>(he.2 b (afL.1 hb).1).trans hb
 obtain⟨k1,k2⟩:=yq oc
 refine⟨.tuple #[kd.inj (match g k with | some v=>vk v | none=>z),.bool (g k).isSome],fun w' he=>?_,?_⟩
 ·have hf:=hk.Vt w' k _ _ k1
  simp only [Instr.lookup,Sem.run_bind,run_underlying hm,Result.andThen_ok,MapKept.run_getObj_map (iV w' he),Sem.run_pure,hk.Vs,hf]
  rw [<-hg k]
  unfold gh
  cases hx:(l.map (·.1)).findIdx? (fun b=>decide (b=k)) with
  | none=>simp [zeroValue,typeInfo,ic,hz]
  | some j=>
   obtain⟨ar,_,_⟩:=agB.1 hx
   simp only [afP] at ar
   have e1:(es.toList.map (·.val))[j]? =some (ev (l[j]).2):=by rw [k2];simp [ar]
   rw [afC,af2] at e1
   obtain⟨en,h1,h2⟩:=e1
   have rY:es[j]? =some en:=by simpa using h1
   simp [rY,h2,ar,hv]
 ·show eM _ _ _ _
  simp only [eM,pq,flat,tI,kI,mc,Sh.VX,List.append]
  show Kd.view kd (kd.inj _) _
  rw [Kd.y8]
  exact hK
theorem update (h:Hp S w0 w ae) (i:Nat) {b:Nat} {g:κ->Option ν} {mt kt vt:TypeId} {k:κ} {v:ν} {u:Value} {K:World->Prop} {kv:Value} (Fe:kv=ek k)
  (hi:ae[i]? =some (fX b ek ev g)) (hm:P.underlying mt=some (.map kt vt)) (hk:zA P kt ek) (hu:u=ev v)
  (hK: ∀w',Hp S w0 w' (ae.set i (fX b ek ev (aH g k (some v))))->K w'):
  sN P (Instr.mapUpdate mt (.map (some b)) kv u) w K:=by
 subst Fe
 subst hu
 obtain⟨O,⟨l,⟨⟨es,clock,hb,oc,zE⟩,rfl⟩,bE,hg⟩,back⟩:=h.step hi rfl
 obtain⟨k1,k2⟩:=yq oc
 have hf:=hk.Vt w k _ _ k1
 have key: ∀(A8:Array MapEntry) (jB:Nat),A8.toList.map (fun e=>(e.key,e.val))=(oY l k v).map (fun p=>(ek p.1,ev p.2))->uA (A8.toList.map (·.born)) jB->K { w with heap:=w.heap.setIfInBounds b (.map A8 jB)}:=by
  intro A8 jB he qy
  obtain⟨s1,s2⟩:=MapKept.heap_set (o':=.map A8 jB) hb
  refine hK _ (back (t':=fX b ek ev (aH g k (some v))) (O':= [b]) ⟨rfl,rfl,rfl,by simp,fun r _ hr=>s2 r (by simpa using hr)⟩ ⟨oY l k v,⟨⟨A8,jB,s1,he,qy⟩,rfl⟩,wZ l k v bE,fun k'=>?_⟩ (fun k hk=>.inl hk) rfl)
  rw [zD,aH,hg]
 unfold sN
 simp only [Instr.mapUpdate,Sem.run_bind,run_underlying hm,Result.andThen_ok,MapKept.run_getObj_map hb,hk.Vs,hf]
 cases hx:(l.map (·.1)).findIdx? (fun b=>decide (b=k)) with
 | none=>
  simp only [Option.bind_none,MapKept.run_setObj_map _ hb]
  refine⟨_,rfl,key _ _ ?_ ?_⟩
  ·simp only [oY,hx]
   simp [oc]
  ·rw [Array.toList_push,agh]
   refine⟨ago.2 ⟨zE.1,by simp,fun x hx y hy=>?_⟩,fun x hx=>?_⟩
   ·simp only [agl,ahq,afF] at hy
    have:=zE.2 x hx
    omega
   ·rcases afB.1 hx with hx | hx
    ·have:=zE.2 x hx;omega
    ·simp only [agl,ahq,afF] at hx;omega
 | some j=>
  obtain⟨ar,hj,_⟩:=agB.1 hx
  simp only [afP] at ar
  simp only [List.getElem_map,decide_eq_true_eq] at hj
  have hlen:es.size=l.length:=by have:=congrArg List.length oc;simpa using this
  have Mb:j < es.size:=by omega
  have X7:es[j].key=ek k:=by
   have:(es.toList.map (·.key))[j]? =some (ek (l[j]).1):=by rw [k1];simp [ar]
   simp only [afC,ahC,ag8 Mb,agy,afy] at this
   rw [this,hj]
  have bO:(Instr.keyThatStays (ek k) (ek k)).run P w=.ok (ek k) w:=by
   simp [Instr.keyThatStays,hk.same]
  simp only [Option.bind_some,ahC,ag8 Mb,agy,ag9,X7,Sem.run_bind,bO,Result.andThen_ok,MapKept.run_setObj_map _ hb]
  refine⟨_,rfl,key _ _ ?_ ?_⟩
  case refine_2=>
   have: ∀f:MapEntry->MapEntry,(∀e,(f e).born=e.born)->(es.modify j f).toList.map (·.born)=es.toList.map (·.born):=fun f hf=>by
    apply agd
    intro m
    simp only [afC,ahC,aik]
    by_cases hm:j=m
    ·subst hm
     simp [ag8 Mb,hf]
    ·simp [hm]
   rw [this (fun e=>{ key:=ek k,val:=ev v,born:=e.born}) (fun e=>rfl)]
   exact zE
  simp only [oY,hx]
  apply agd
  intro m
  have X8: ∀m:Nat,(es[m]?).map (fun e=>(e.key,e.val))=(l[m]?).map (fun p=>(ek p.1,ev p.2)):=by
   intro m
   have:=congrArg (fun x=>x[m]?) oc
   simpa [afC] using this
  simp only [afC,ahC,aik,agm]
  by_cases hm:j=m
  ·subst hm
   simp [ar,ag8 Mb]
  ·simp only [hm,if_false]
   exact X8 m
theorem delete (h:Hp S w0 w ae) (i:Nat) {b:Nat} {g:κ->Option ν} {mt kt vt d ty:TypeId} {k:κ} {K:Value->World->Prop} {kv:Value} (Fe:kv=ek k)
  (hi:ae[i]? =some (fX b ek ev g)) (hm:P.underlying mt=some (.map kt vt)) (hk:zA P kt ek)
  (hK: ∀v w',Hp S w0 w' (ae.set i (fX b ek ev (aH g k none)))->K v w'):
  bZ .v P (Builtin.delete_ #[mt,d] ty #[.map (some b),kv]) w K:=by
 subst Fe
 obtain⟨O,⟨l,⟨⟨es,clock,hb,oc,zE⟩,rfl⟩,bE,hg⟩,back⟩:=h.step hi rfl
 obtain⟨k1,k2⟩:=yq oc
 have hf:=hk.Vt w k _ _ k1
 have key: ∀(A8:Array MapEntry) (jB:Nat),A8.toList.map (fun e=>(e.key,e.val))=(zC l k).map (fun p=>(ek p.1,ev p.2))->uA (A8.toList.map (·.born)) jB->K (.tuple #[]) { w with heap:=w.heap.setIfInBounds b (.map A8 jB)}:=by
  intro A8 jB he qy
  obtain⟨s1,s2⟩:=MapKept.heap_set (o':=.map A8 jB) hb
  refine hK _ _ (back (t':=fX b ek ev (aH g k none)) (O':= [b]) ⟨rfl,rfl,rfl,by simp,fun r _ hr=>s2 r (by simpa using hr)⟩ ⟨zC l k,⟨⟨A8,jB,s1,he,qy⟩,rfl⟩,D8 l k bE,fun k'=>?_⟩ (fun k hk=>.inl hk) rfl)
  rw [GP _ _ _ bE,aH,hg]
 refine⟨.tuple #[],?_⟩
 have e0:(#[mt,d]:Array TypeId)[0]? =some mt:=rfl
 have e1:(#[Value.map (some b),ek k]:Array Value)[0]? =some (.map (some b)):=rfl
 have e2:(#[Value.map (some b),ek k]:Array Value)[1]? =some (ek k):=rfl
 simp only [Builtin.delete_,e0,e1,e2,Sem.run_bind,run_underlying hm,Result.andThen_ok,MapKept.run_getObj_map hb,hk.Vs,hf,Kd.inj]
 cases hx:(l.map (·.1)).findIdx? (fun b=>decide (b=k)) with
 | none=>
  simp only [Option.bind_none,Sem.run_bind,MapKept.run_setObj_map _ hb,Result.andThen_ok,Sem.run_pure]
  refine⟨_,rfl,key _ _ ?_ zE⟩
  simp only [zC,hx,oc]
 | some j=>
  obtain⟨ar,hj,_⟩:=agB.1 hx
  simp only [afP] at ar
  have hlen:es.size=l.length:=by have:=congrArg List.length oc;simpa using this
  have Mb:j < es.size:=by omega
  simp only [Option.bind_some,ahC,ag8 Mb,agy,Sem.run_bind,MapKept.run_setObj_map _ hb,Result.andThen_ok,Sem.run_pure]
  refine⟨_,rfl,key _ _ ?_ ?_⟩
  ·simp only [zC,hx]
   rw [Array.toList_eraseIdxIfInBounds,dV,oc,dV]
  ·rw [Array.toList_eraseIdxIfInBounds,dV]
   exact⟨zE.1.sublist (ah0 _ _),fun x hx=>zE.2 x (List.mem_of_mem_eraseIdx hx)⟩
end Hp
end
end Go.Den
end

section
namespace Go.Proofs.YtcccjgmekakabaaGreat.FT
open F
open Go Go.Den Go.Proofs
abbrev bM:=Int×Int
def cc (e:bM):Value:=.agg #[.int .i64 e.1,.int .i64 e.2]
def dz (e:bM):List Value:= [.int .i64 e.1,.int .i64 e.2]
def iv (n:Int):List Value:= [.int .i64 n]
def KO (s:Sl):List Value:= [.slice s.a s.len s.cap]
theorem aP (e:bM):(dz e).length=2:=rfl
theorem aq (e:Int):(iv e).length=1:=rfl
theorem nP (e:Sl):(KO e).length=1:=rfl
theorem xe {x y:Operand} {a b c d:Int} {w:World} {K:Bool->Prop} (hK:K (a ==c && b ==d)):
  hZ .b Tryz.prog (cl .eql 33 x y (.agg #[.int .i64 a,.int .i64 b]) (.agg #[.int .i64 c,.int .i64 d])) w K:=by
 refine LY (r:=(a ==c && (b ==d && true))) (by kernel_rfl) (by kernel_rfl) (by kernel_rfl) (by kernel_rfl) ?_
 rw [Bool.and_true];exact hK
theorem SZ {x y:Operand} {a b c d:Int} {w:World} {K:Bool->Prop} (hK:K (!(a ==c && b ==d))):
  hZ .b Tryz.prog (cl .neq 33 x y (.agg #[.int .i64 a,.int .i64 b]) (.agg #[.int .i64 c,.int .i64 d])) w K:=by
 refine Sg (r:=(a ==c && (b ==d && true))) (by kernel_rfl) (by kernel_rfl) (by kernel_rfl) (by kernel_rfl) ?_
 rw [Bool.and_true];exact hK
theorem Mc:Tryz.prog.underlying 33=some (.struct (Tryz.prog.fieldsOf 33)):=by kernel_rfl
theorem bD:zA Tryz.prog 33 cc:=by
 refine zB Mc (fun a=>⟨_,rfl,?_,?_⟩) (fun w a b=>?_)
 ·have hfs:(Tryz.prog.fieldsOf 33).toList.map (fun f=>(Tryz.prog.underlying f.type,f.offset))= [(some (.int .i64),0),(some (.int .i64),1)]:=by kernel_rfl
  intro f hf
  have:(Tryz.prog.underlying f.type,f.offset)∈ [(some (TypeDesc.int .i64),0),(some (.int .i64),1)]:=by
   rw [<-hfs];exact afQ.2 ⟨f,hf,rfl⟩
  simp only [af1,agX,aha,or_false] at this
  rcases this with ⟨h1,h2⟩ | ⟨h1,h2⟩
  ·exact⟨.i64,a.1,h1,by rw [h2];rfl⟩
  ·exact⟨.i64,a.2,h1,by rw [h2];rfl⟩
 ·show Instr.sameBits (9999+1) _ _=true
  simp [Instr.sameBits]
 ·obtain⟨a1,a2⟩:=a
  obtain⟨b1,b2⟩:=b
  have e:(Op.equal 33 (cc (a1,a2)) (cc (b1,b2))).run Tryz.prog w=.ok (a1 ==b1 && (a2 ==b2 && true)) w:=by
   show (Op.equalIn (9998+1+1) 33 (.agg _) (.agg _)).run Tryz.prog w=_
   rw [run_equalIn_struct (P:=Tryz.prog) w (9998+1) 33 _ _ Mc (by kernel_rfl)]
   exact ti (by kernel_rfl)
  rw [e]
  congr 1
  by_cases h1:a1=b1
  ·by_cases h2:a2=b2
   ·simp [h1,h2]
   ·have: ¬b2=a2:=fun e=>h2 e.symm
    simp [h1,h2,this]
  ·have: ¬b1=a1:=fun e=>h1 e.symm
   simp [h1,this]
theorem Md: ∃inf:TypeInfo,Tryz.prog.info? 33=some inf /\ inf.zero=some (.agg #[.int .i64 0,.int .i64 0]) /\ inf.size=2 /\ inf.bytes=16:=fE (by kernel_rfl)
theorem jC: ∃inf:TypeInfo,Tryz.prog.info? 2=some inf /\ inf.zero=some (.int .i64 0) /\ inf.size=1 /\ inf.bytes=8:=fE (by kernel_rfl)
theorem eO:Tryz.prog.underlying 34=some (.slice 2):=by kernel_rfl
theorem S0:Tryz.prog.underlying 43=some (.slice 33):=by kernel_rfl
theorem zF:Tryz.prog.underlying 88=some (.map 33 3):=by kernel_rfl
theorem lN: ∃inf:TypeInfo,Tryz.prog.info? 3=some inf /\ inf.zero=some (.int .i64 0) /\ inf.size=1 /\ inf.bytes=8:=fE (by kernel_rfl)
structure az where
 n:Nat
 rows:List (bM×List Int)
namespace az
def aw (m:az):List bM:=m.rows.map (·.1)
def mh (m:az) (c:Nat):List Int:=m.rows.map fun r=>r.2.getD c 0
def mV (m:az):List (List Int):=(List.range m.n).map m.mh
def at_ (m:az) (e:bM):Option Nat:=m.aw.findIdx? fun x=>decide (x=e)
structure Ok (m:az):Prop where
 S1:m.n<=48
 KP:m.rows.length<=200
 nd:m.aw.Nodup
 len: ∀r∈m.rows,r.2.length=m.n
theorem cj (m:az):m.aw.length=m.rows.length:=by simp [aw]
theorem pY (m:az) (c:Nat):(m.mh c).length=m.rows.length:=by simp [mh]
theorem GQ (m:az) {c:Nat} (h:c < m.n):m.mV[c]? =some (m.mh c):=by simp [mV,h]
end az
def gm (m:az) (e:bM):Option Int:=(m.at_ e).map fun(i:Nat)=>(i:Int)
def qZ (s:Sl) (l:List Int):aa:=aj s 2 1 iv l
def j9 (ss:List Sl) (ls:List (List Int)):aa:=an (List.zipWith qZ ss ls)
theorem q6 {ss:List Sl} {ls:List (List Int)} {c:Nat} {s:Sl} {l:List Int} (h1:ss[c]? =some s) (h2:ls[c]? =some l):(List.zipWith qZ ss ls)[c]? =some (qZ s l):=by
 simp [List.getElem?_zipWith,h1,h2]
theorem q7: ∀{ss:List Sl} {ls:List (List Int)} {c:Nat} {s:Sl} {l:List Int},(List.zipWith qZ ss ls).set c (qZ s l)=List.zipWith qZ (ss.set c s) (ls.set c l)
 | [],_,_,_,_=>by simp
 | _ :: _,[],_,_,_=>by simp
 | _ :: _,_ :: _,0,_,_=>by simp
 | _ :: ss,_ :: ls,c+1,_,_=>by simp [q7 (ss:=ss) (ls:=ls)]
def S2 (b:Nat) (m:az) (so sc:Sl) (ss:List Sl) (bm:Nat):aa:=
 aX (ai b 186 [.slice so.a so.len so.cap,.slice sc.a sc.len sc.cap,.map (some bm)]) (aX (aj so 33 2 dz m.aw) (aX (aj sc 34 1 KO ss) (aX (j9 ss m.mV) (fX bm cc (Value.int .i64) (gm m)))))
def di (b:Nat) (m:az):aa:=KK fun x:Sl×Sl×List Sl×Nat=>kz (x.2.2.1.length=m.n) (S2 b m x.1 x.2.1 x.2.2.1 x.2.2.2)
section
variable {S:List Nat} {w0 w:World} {ae:List aa}
theorem zG (h:Hp S w0 w ae) {i b:Nat} {m:az} (hi:ae[i]? =some (di b m)):
  ∃so sc ss bm,ss.length=m.n /\ Hp S w0 w (ae.set i (ai b 186 [.slice so.a so.len so.cap,.slice sc.a sc.len sc.cap,.map (some bm)])++ [aj so 33 2 dz m.aw,aj sc 34 1 KO ss,j9 ss m.mV,fX bm cc (Value.int .i64) (gm m)]):=by
 have hl:=(aft.1 hi).1
 obtain⟨⟨so,sc,ss,bm⟩,h⟩:=h.oX hi (fun _=>rfl)
 obtain⟨hn,h⟩:=h.nO (i:=i) (by simp [hl];rfl) rfl
 have h:=h.split (i:=i) (by simp [hl];rfl) rfl rfl
 have e1: ∀(l:List aa) (t:aa),(l++ [t])[l.length]? =some t:=fun l t=>by simp
 have h:=h.split (e1 _ _) rfl rfl
 simp only [afI _ _ (afV _),af9,afN] at h
 have h:=h.split (e1 _ _) rfl rfl
 rw [afI _ _ (afV _),af9,afN] at h
 have h:=h.split (e1 _ _) (aK _) rfl
 rw [afI _ _ (afV _),af9,afN] at h
 refine⟨so,sc,ss,bm,hn,?_⟩
 simpa using h
theorem kU {b:Nat} {m:az} {so sc:Sl} {ss:List Sl} {bm:Nat} {rest:List aa} (hn:ss.length=m.n)
  (h:Hp S w0 w (ai b 186 [.slice so.a so.len so.cap,.slice sc.a sc.len sc.cap,.map (some bm)] :: aj so 33 2 dz m.aw :: aj sc 34 1 KO ss :: j9 ss m.mV :: fX bm cc (Value.int .i64) (gm m) :: rest)):
  Hp S w0 w (di b m :: rest):=by
 have h:=h.aL (i:=3) (j:=4) (by omega) rfl rfl (aK _) rfl
 have h:=h.aL (i:=2) (j:=3) (by omega) rfl rfl rfl rfl
 have h:=h.aL (i:=1) (j:=2) (by omega) rfl rfl rfl rfl
 have h:=h.aL (i:=0) (j:=1) (by omega) rfl rfl rfl rfl
 have h:=h.jA (i:=0) hn rfl rfl
 have h:=h.mg (f:=fun x:Sl×Sl×List Sl×Nat=>kz (x.2.2.1.length=m.n) (S2 b m x.1 x.2.1 x.2.2.1 x.2.2.2)) (i:=0) (so,sc,ss,bm) rfl rfl
 have h:Hp S w0 w (di b m :: ao :: ao :: ao :: ao :: rest):=h
 exact h.fc.fc.fc.fc
theorem tu (h:Hp S w0 w ae) (i:Nat) {b:Nat} {m:az} (hi:(ae[i]?).map aa.holds=some (di b m).holds):
  ∃so sc ss bm,ss.length=m.n /\ Hp [] w w [(ai b 186 [.slice so.a so.len so.cap,.slice sc.a sc.len sc.cap,.map (some bm)]).ro,(aj so 33 2 dz m.aw).ro,(aj sc 34 1 KO ss).ro,(j9 ss m.mV).ro,(fX bm cc (Value.int .i64) (gm m)).ro]:=by
 obtain⟨O,⟨so,sc,ss,bm⟩,hn,O1,O2,h1,⟨O3,O4,h2,⟨O5,O6,h3,⟨O7,O8,h4,h5,_⟩,_⟩,_⟩,_⟩:=h.dQ hi
 exact⟨so,sc,ss,bm,hn,(((((Hp.init w).ey h1 (by simp)).ey h2 (by simp)).ey h3 (by simp)).ey h4 (by simp)).ey h5 (by simp)⟩
theorem KQ (h:Hp S w0 w ae) (i:Nat) {ss:List Sl} {ls:List (List Int)} {c:Nat} {s:Sl} {l:List Int} (hi:ae[i]? =some (j9 ss ls).ro) (h1:ss[c]? =some s) (h2:ls[c]? =some l):Hp S w0 w (ae++ [(aj s 2 1 iv l).ro]):=by
 obtain⟨O,hO,back⟩:=h.Ma hi
 obtain⟨O1,O2,g1,g2,g3,g4⟩:=dx (q6 h1 h2) hO
 exact back g1 fun k hk=>(g4 k).2 (.inl hk)
theorem uD (h:Hp S w0 w ae) (i:Nat) {b:Nat} {m:az} (hi:(ae[i]?).map aa.holds=some (di b m).holds) {row:Int} {K:Bool->World->Prop} (hK:K (decide (0<=row /\ row < m.rows.length)) w):JE (some ⟨b,0,none⟩) row w K:=by
 refine Kx ?_
 unfold f152
 obtain⟨so,sc,ss,bm,hn,h⟩:=tu h i hi
 have hl:=h.len 1 rfl
 rw [az.cj] at hl
 by_cases h0:row>=0
 ·refine aE (by simpa using h0) ?_
  refine bg ?_
  refine h.cx (x:=so) 0 rfl rfl ?_
  rw [<-hl]
  have e:decide (0<=row /\ row < (m.rows.length:Int))=decide (row < (m.rows.length:Int)):=by simp;omega
  rw [<-e];exact hK
 ·refine aF (by simpa using h0) ?_
  have e:decide (0<=row /\ row < (m.rows.length:Int))=false:=by simp;omega
  rw [<-e];exact hK
theorem zH (h:Hp S w0 w ae) (i:Nat) {b:Nat} {m:az} (hi:(ae[i]?).map aa.holds=some (di b m).holds) {K:Int->World->Prop} (hK:K m.rows.length w):DX (some ⟨b,0,none⟩) w K:=by
 refine JR ?_
 unfold f103
 obtain⟨so,sc,ss,bm,hn,h⟩:=tu h i hi
 have hl:=h.len 1 rfl
 rw [az.cj] at hl
 refine bg ?_
 refine h.cx (x:=so) 0 rfl rfl ?_
 rw [<-hl];exact hK
theorem q8 (h:Hp S w0 w ae) (i:Nat) {b:Nat} {m:az} (hi:(ae[i]?).map aa.holds=some (di b m).holds) {e:bM} {K:Int->World->Prop} (hK: ∀w',Hp S w0 w' ae->K ((gm m e).getD (-1)) w'):DZ (some ⟨b,0,none⟩) e.1 e.2 w K:=by
 refine J3 ?_
 unfold f118
 obtain⟨so,sc,ss,bm,hn,h1⟩:=tu h i hi
 refine h1.nw (c:= [_,_]) fun be w h1=>?_
 refine h1.dr fun w h1=>?_
 refine bg ?_
 refine h1.ld (x:=some bm) 0 rfl rfl ?_
 refine h1.cx (x:=e.1) 5 rfl rfl ?_
 refine h1.ld (x:=e.2) 5 rfl rfl ?_
 obtain⟨inf,q1,q2,_⟩:=lN
 refine Hp.lookup (kd:=.i .i64) (vk:=id) (z:=(0:Int)) (ek:=cc) (g:=gm m) (k:=e) h1 4 rfl rfl zF bD q1 q2 (fun _=>rfl) ?_
 have:=hK _ (h.cB h1.fr)
 cases hg:gm m e with
 | none=>rw [hg] at this;exact aF (by simp) this
 | some v=>rw [hg] at this;exact aE (by simp) this
end
end Go.Proofs.YtcccjgmekakabaaGreat.FT
end

section
namespace Go.Proofs.YtcccjgmekakabaaGreat.FT
open F
open Go Go.Den Go.Proofs
namespace az
theorem GR {m:az} (h:m.aw.Nodup) {e:bM} {i:Nat}:m.at_ e=some i↔m.aw[i]? =some e:=by
 unfold at_
 rw [agB]
 constructor
 ·rintro⟨h1,h2,_⟩
  simp only [decide_eq_true_eq] at h2
  rw [afD h1,h2]
 ·intro hi
  obtain⟨h1,h2⟩:=aft.1 hi
  refine⟨h1,by simpa using h2,fun j hj=>?_⟩
  simp only [decide_eq_true_eq]
  intro e'
  have:=(List.getElem_inj (h₀:=Nat.lt_trans hj h1) (h₁:=h1) h).1 (e'.trans h2.symm)
  omega
theorem KR {m:az} {e:bM}:m.at_ e=none↔e ∉ m.aw:=by
 unfold at_
 rw [ahm]
 constructor
 ·intro h hm
  have:=h e hm
  simp at this
 ·intro h x hx
  simp only [decide_eq_false_iff_not]
  rintro rfl
  exact h hx
theorem pZ {m:az} (h:m.aw.Nodup) {e:bM} {i:Nat}:gm m e=some (i:Int)↔m.aw[i]? =some e:=by
 unfold gm
 rw [<-GR h,af2]
 constructor
 ·rintro⟨j,hj,he⟩
  rw [hj];congr 1;omega
 ·intro hi;exact⟨i,hi,rfl⟩
theorem uE {m:az} {e:bM}:gm m e=none↔e ∉ m.aw:=by
 unfold gm
 rw [aib,KR]
theorem uF {m:az} (h:m.aw.Nodup) {e:bM} {x:Int} (hx:gm m e=some x): ∃i:Nat,x=i /\ m.aw[i]? =some e:=by
 unfold gm at hx
 rw [af2] at hx
 obtain⟨i,hi,rfl⟩:=hx
 exact⟨i,rfl,(GR h).1 hi⟩
theorem C7 {m:az} (h:m.aw.Nodup) {g:bM->Option Int} (h1: ∀e x,g e=some x-> ∃i:Nat,x=i /\ m.aw[i]? =some e) (h2: ∀e (i:Nat),m.aw[i]? =some e->g e=some (i:Int)):g=gm m:=by
 funext e
 cases hg:g e with
 | some x=>
  obtain⟨i,rfl,hi⟩:=h1 e x hg
  exact((pZ h).2 hi).symm
 | none=>
  symm
  rw [uE]
  intro hm
  obtain⟨i,hi⟩:=afT hm
  rw [h2 e i hi] at hg
  cases hg
def add (m:az) (e:bM) (vs:List Int):az:=⟨m.n,m.rows++ [(e,vs)]⟩
def set (m:az) (row c:Nat) (x:Int):az:=⟨m.n,m.rows.modify row fun r=>(r.1,r.2.set c x)⟩
def del (m:az) (row:Nat):az:=⟨m.n,(m.rows.set row (m.rows.getLastD ((0,0),[]))).dropLast⟩
theorem jD (m:az) (e:bM) (vs:List Int):(m.add e vs).aw=m.aw++ [e]:=by simp [add,aw]
theorem KT (m:az) (e:bM) (vs:List Int) (c:Nat):(m.add e vs).mh c=m.mh c++ [vs.getD c 0]:=by simp [add,mh]
theorem Ok.add {m:az} (h:m.Ok) {e:bM} {vs:List Int} (hl:vs.length=m.n) (h2:m.rows.length < 200) (he:e ∉ m.aw):(m.add e vs).Ok:=by
 refine⟨h.S1,by simp [az.add];omega,?_,?_⟩
 ·rw [jD,ago]
  refine⟨h.nd,by simp,?_⟩
  intro a ha b hb e'
  simp only [afF] at hb
  exact he (by rw [<-hb,<-e'];exact ha)
 ·intro r hr
  simp only [az.add,afB,afF] at hr
  rcases hr with hr | rfl
  ·exact h.len r hr
  ·exact hl
theorem P0 {m:az} (h:m.aw.Nodup) {e:bM} (he:e ∉ m.aw) (vs:List Int):aH (gm m) e (some (m.rows.length:Int))=gm (m.add e vs):=by
 have hn:(m.add e vs).aw.Nodup:=by
  rw [jD,ago]
  refine⟨h,by simp,?_⟩
  intro a ha b hb e'
  simp only [afF] at hb
  exact he (by rw [<-hb,<-e'];exact ha)
 refine C7 hn ?_ ?_
 ·intro e' x hx
  unfold aH at hx
  rw [jD]
  split at hx
  ·rename_i jP
   simp only [afy] at hx
   refine⟨m.rows.length,hx.symm,?_⟩
   rw [afv (by rw [cj];omega),cj,af9,jP];rfl
  ·obtain⟨i,hi,h2⟩:=uF h hx
   exact⟨i,hi,by rw [afx (aft.1 h2).1];exact h2⟩
 ·intro e' i hi
  rw [jD] at hi
  unfold aH
  by_cases hl:i < m.aw.length
  ·rw [afx hl] at hi
   rw [if_neg]
   ·exact(pZ h).2 hi
   ·rintro rfl;exact he (afz hi)
  ·rw [afv (by omega)] at hi
   have hz:i - m.aw.length=0:=by
    rcases agY (i - m.aw.length) with h | h
    ·exact h
    ·rw [af0 (by simp only [ahi];omega)] at hi;cases hi
   rw [hz] at hi
   simp only [afJ,afy] at hi
   rw [if_pos hi.symm]
   have:=m.cj
   congr 1;omega
theorem GU {m:az} (h:0 < m.rows.length):m.rows.getLastD ((0,0),[])=m.rows[m.rows.length - 1]:=by
 rw [List.getLastD_eq_getLast?,List.getLast?_eq_getElem?,afD (by omega)]
 rfl
theorem kV (m:az) (row:Nat) (i:Nat) (h:0 < m.rows.length):(m.del row).rows[i]? =if i < m.rows.length - 1 then if i=row then m.rows[m.rows.length - 1]? else m.rows[i]? else none:=by
 unfold del
 show ((m.rows.set row (m.rows.getLastD ((0,0),[]))).dropLast)[i]? =_
 rw [List.getElem?_dropLast,agi]
 split
 ·rw [agm]
  by_cases e:row=i
  ·rw [if_pos e,if_pos e.symm,if_pos (by omega),GU h]
   simp [show m.rows.length - 1 < m.rows.length by omega]
  ·rw [if_neg e,if_neg (fun h=>e h.symm)]
 ·rfl
theorem C8 (m:az) (row:Nat):(m.del row).rows.length=m.rows.length - 1:=by simp [del]
theorem fQ (m:az) (row:Nat) (i:Nat) (h:0 < m.rows.length):(m.del row).aw[i]? =if i < m.rows.length - 1 then if i=row then m.aw[m.rows.length - 1]? else m.aw[i]? else none:=by
 unfold aw
 rw [afC,kV m row i h]
 split
 ·split <;> simp
 ·rfl
theorem KU (m:az) (row c:Nat) (h:0 < m.rows.length):(m.del row).mh c=((m.mh c).set row ((m.mh c).getD (m.rows.length - 1) 0)).take (m.rows.length - 1):=by
 apply agd
 intro i
 unfold mh
 rw [afC,kV m row i h,agc]
 split
 ·rename_i hi
  rw [agm]
  by_cases e:row=i
  ·rw [if_pos e.symm,if_pos e,if_pos (by simp;omega)]
   simp [show m.rows.length - 1 < m.rows.length by omega]
  ·rw [if_neg (fun h=>e h.symm),if_neg e]
   simp
 ·rfl
theorem Ok.del {m:az} (h:m.Ok) {row:Nat} (hr:row < m.rows.length):(m.del row).Ok:=by
 have kx:0 < m.rows.length:=by omega
 refine⟨h.S1,by rw [C8];have:=h.KP;omega,?_,?_⟩
 ·refine ahl.2 ?_
  intro i j DN hj mJ
  intro he0
  have he:(m.del row).aw[i]? =(m.del row).aw[j]? :=by rw [afD DN,afD hj,he0]
  revert he
  have gN:j < m.rows.length - 1:=by have:=cj (m.del row);rw [C8] at this;omega
  rw [fQ m row i kx,fQ m row j kx,if_pos (by omega),if_pos gN]
  have inj: ∀a b:Nat,a < m.rows.length->b < m.rows.length->m.aw[a]? =m.aw[b]? ->a=b:=by
   intro a b ha hb he
   exact(agF (by rw [cj];exact ha) h.nd).1 he
  intro he
  split at he <;> split at he
  ·omega
  ·have:=inj _ _ (by omega) (by omega) he;omega
  ·have:=inj _ _ (by omega) (by omega) he;omega
  ·have:=inj _ _ (by omega) (by omega) he;omega
 ·intro r Sf
  obtain⟨i,hi⟩:=afT Sf
  rw [kV m row i kx] at hi
  split at hi
  ·split at hi
   ·exact h.len r (afz hi)
   ·exact h.len r (afz hi)
  ·cases hi
theorem P3 {m:az} (h:m.Ok) {row:Nat} {e l:bM} (he:m.aw[row]? =some e) (hl:m.aw[m.rows.length - 1]? =some l):
  (if row=m.rows.length - 1 then aH (gm m) e none else aH (aH (gm m) e none) l (some (row:Int)))=gm (m.del row):=by
 have hr:row < m.rows.length:=by have:=(aft.1 he).1;rw [cj] at this;exact this
 have kx:0 < m.rows.length:=by omega
 have inj: ∀(a b:Nat) (x:bM),m.aw[a]? =some x->m.aw[b]? =some x->a=b:=by
  intro a b x ha hb
  exact(agF (aft.1 ha).1 h.nd).1 (ha.trans hb.symm)
 refine C7 (h.del hr).nd ?_ ?_
 ·intro e' x hx
  by_cases fv:row=m.rows.length - 1
  ·rw [if_pos fv] at hx
   unfold aH at hx
   split at hx
   ·cases hx
   ·rename_i aR
    obtain⟨i,hi,h2⟩:=uF h.nd hx
    refine⟨i,hi,?_⟩
    have ky:i < m.rows.length:=by have:=(aft.1 h2).1;rw [cj] at this;exact this
    have:i≠row:=by rintro rfl;exact aR (afK (h2.symm.trans he))
    rw [fQ m row i kx,if_pos (by omega),if_neg this];exact h2
  ·rw [if_neg fv] at hx
   unfold aH at hx
   split at hx
   ·rename_i Fc
    simp only [afy] at hx
    refine⟨row,hx.symm,?_⟩
    rw [fQ m row row kx,if_pos (by omega),if_pos rfl,Fc];exact hl
   ·rename_i kF
    split at hx
    ·cases hx
    ·rename_i aR
     obtain⟨i,hi,h2⟩:=uF h.nd hx
     refine⟨i,hi,?_⟩
     have ky:i < m.rows.length:=by have:=(aft.1 h2).1;rw [cj] at this;exact this
     have h3:i≠row:=by rintro rfl;exact aR (afK (h2.symm.trans he))
     have h4:i≠m.rows.length - 1:=by rintro rfl;exact kF (afK (h2.symm.trans hl))
     rw [fQ m row i kx,if_pos (by omega),if_neg h3];exact h2
 ·intro e' i hi
  rw [fQ m row i kx] at hi
  split at hi
  ·rename_i ky
   by_cases fv:row=m.rows.length - 1
   ·rw [if_pos fv]
    rw [if_neg (by omega)] at hi
    unfold aH
    rw [if_neg]
    ·exact(pZ h.nd).2 hi
    ·rintro rfl
     have:=inj _ _ _ hi he;omega
   ·rw [if_neg fv]
    unfold aH
    split at hi
    ·rename_i R3
     have:=afK (hi.symm.trans hl)
     rw [if_pos this,R3]
    ·rename_i R3
     rw [if_neg,if_neg]
     ·exact(pZ h.nd).2 hi
     ·rintro rfl
      exact R3 (inj _ _ _ hi he)
     ·rintro rfl
      have:=inj _ _ _ hi hl;omega
  ·cases hi
end az
end Go.Proofs.YtcccjgmekakabaaGreat.FT
end

section
namespace Go.Proofs.YtcccjgmekakabaaGreat.FT
open F
open Go Go.Den Go.Proofs
section
variable {S:List Nat} {w0 w:World} {ae:List aa}
theorem uG (h:Hp S w0 w ae) {n:Int} (h0:0<=n) (h48:n<=48) {K:Option Addr->Int->World->Prop} (hK: ∀b w',Hp S w0 w' (ae++ [di b ⟨n.toNat,[]⟩])->K (some ⟨b,0,none⟩) 0 w'):NW n w K:=by
 refine Kw ?_
 unfold f151
 refine aF (by simp;omega) ?_
 refine(Hp.qY w).Z9 (f:=KO) (n:=1) (x0:=⟨none,0,0⟩) nP rfl h0 (agr _) (by omega) (by omega) fun s w h1 hl hc hn=>?_
 refine h1.wX fun bm w h1=>?_
 refine h1.nw (c:= [_,_,_]) fun b w h1=>?_
 have h1:=h1.xd (i:=1) cc (Value.int .i64) rfl
 have h1:=h1.nil 33 2 dz
 have h1:=h1.grow (Fr.refl _ _) (t:=j9 (List.replicate n.toNat ⟨none,0,0⟩) (az.mV ⟨n.toNat,[]⟩)) (O:= []) (by
  unfold j9 az.mV
  have e: ∀k:List Nat,(List.zipWith qZ (List.replicate k.length ⟨none,0,0⟩) (k.map (az.mh ⟨n.toNat,[]⟩)))=List.replicate k.length (qZ ⟨none,0,0⟩ []):=by
   intro k
   induction k with
   | nil=>rfl
   | cons a k ih=>simp [agO,ih,az.mh]
  have:=e (List.range n.toNat)
  simp only [aht] at this
  show (an (List.zipWith qZ (List.replicate n.toNat ⟨none,0,0⟩) ((List.range n.toNat).map (az.mh ⟨n.toNat,[]⟩)))).holds _ _
  rw [this]
  generalize n.toNat=k
  induction k with
  | zero=>rfl
  | succ k ih=>
   rw [agO]
   exact⟨[],[],cA.nil,ih,by simp,by simp⟩) (by simp) (aK _)
 have h2:=h1.BR 2 3 0 4 1 (by decide) rfl rfl rfl rfl rfl
 exact hK b w (h.r0 rfl (kU (m:=⟨n.toNat,[]⟩) (so:=⟨none,0,0⟩) (sc:=s) (bm:=bm) (rest:= []) (by simp) h2))
def az.zI (m:az) (row k:Nat):List Int:=(List.range k).map fun c=>(m.mh c).getD row 0
theorem KV {m:az} (bK:m.Ok) {row:Nat} {r:bM×List Int} (hr:m.rows[row]? =some r):m.zI row m.n=r.2:=by
 have hl:=bK.len r (afz hr)
 unfold az.zI
 apply agd
 intro c
 rw [afC]
 by_cases hc:c < m.n
 ·rw [agV hc]
  simp only [az.mh,agy,afO,afC,hr,ag9]
  rw [afD (by omega)];rfl
 ·rw [af0 (by simp;omega),af0 (by omega)];rfl
theorem zJ (h:Hp S w0 w ae) (i:Nat) {b:Nat} {m:az} (bK:m.Ok) (hi:(ae[i]?).map aa.holds=some (di b m).holds) {row:Int} {K:Int->Int->Sl->Int->World->Prop}
  (hK: ∀s w',(∀r,0<=row->m.rows[row.toNat]? =some r->Hp S w0 w' (ae++ [aj s 2 1 iv r.2])->K r.1.1 r.1.2 s 0 w') /\ (¬(0<=row /\ row < m.rows.length)->s=⟨none,0,0⟩->Hp S w0 w' ae->K 0 0 s 50 w')):F2 (some ⟨b,0,none⟩) row w K:=by
 refine J2 ?_
 unfold f117
 obtain⟨so,sc,ss,bm,hn,h1⟩:=tu h i hi
 have hl:=h1.len 2 rfl
 have C9:=h1.len 1 rfl
 rw [az.cj] at C9
 have Me:=bK.KP
 have S3:=bK.S1
 refine h1.nw (c:= [_,_]) fun ba w1 h1=>?_
 refine uD (h.cB h1.fr) i hi ?_
 by_cases hr:0<=row /\ row < m.rows.length
 ·refine aF (by simp [hr]) ?_
  refine bg ?_
  refine h1.ld (x:=sc) 0 rfl rfl ?_
  have h1:=h1.nil 2 1 iv
  refine⟨fun out t mm w'=> ∃k:Nat,t=k /\ k<=m.n /\ mm=m.n - k /\ Hp [] w w' [(ai b 186 [.slice so.a so.len so.cap,.slice sc.a sc.len sc.cap,.map (some bm)]).ro,(aj so 33 2 dz m.aw).ro,(aj sc 34 1 KO ss).ro,(j9 ss m.mV).ro,(fX bm cc (Value.int .i64) (gm m)).ro,ai ba 33 [.int .i64 0,.int .i64 0],aj out 2 1 iv (m.zI row.toNat k)],⟨m.n,0,rfl,by omega,by omega,h1⟩,?_⟩
  rintro out t mm w2 ⟨k,rfl,hk,rfl,h1⟩
  by_cases ar:k < m.n
  ·refine aE (by simp;omega) ?_
   have pW:k < ss.length:=by omega
   refine h1.e9 (y:=ss[k]) (x:=ss[k]) 2 rfl (by omega) (by simp [pW]) nP rfl ?_
   have h2:=KQ h1 3 rfl (afD pW) (m.GQ ar)
   have fv:row.toNat < (m.mh k).length:=by rw [az.pY];omega
   refine h2.e9 (k:=.i .i64) (y:=(m.mh k)[row.toNat]) (x:=(m.mh k)[row.toNat]) 7 rfl hr.1 (by simp) aq rfl ?_
   obtain⟨inf,q1,q2,q3,q4⟩:=jC
   have kA:=h1.len 6 rfl
   have ab8:(m.zI row.toNat k).length=k:=by simp [az.zI]
   refine h1.bL (c:= [_]) 6 (m.mh k)[row.toNat] rfl aq eO q1 q3 q2 rfl rfl (by simp [iv,Value.oneCell']) (by rw [q4];omega) (by omega) fun bH w h1 _ _=>?_
   refine⟨m.n - (k+1),by omega,k+1,by rw [aB (by omega) (by omega)];omega,by omega,rfl,?_⟩
   have e:m.zI row.toNat (k+1)=m.zI row.toNat k++ [(m.mh k)[row.toNat]]:=by
    unfold az.zI
    rw [List.range_succ,agh]
    simp [fv]
   rw [e];exact h1
  ·refine aF (by simp;omega) ?_
   have zK:k=m.n:=by omega
   subst zK
   refine bg ?_
   refine h1.cx (x:=so) 0 rfl rfl ?_
   have X9:row.toNat < m.rows.length:=by omega
   have ho:m.aw[row.toNat]? =some (m.rows[row.toNat]).1:=by simp [az.aw,X9]
   refine h1.GL (k:=.i .i64) (k':=.i .i64) (y:=(m.rows[row.toNat]).1) 1 rfl hr.1 ho aP rfl rfl ?_
   refine h1.iR 5 rfl (by simp) rfl fun w h1=>?_
   refine h1.st 5 rfl (by simp) rfl fun w h1=>?_
   refine h1.cx (k:=.i .i64) 5 rfl rfl ?_
   refine h1.ld (k:=.i .i64) 5 rfl rfl ?_
   refine(hK out w).1 _ hr.1 (afD X9) ?_
   rw [<-KV bK (afD X9)]
   exact h.r0 rfl (h1.oV 6 rfl)
 ·refine aE (by simp only [decide_eq_false hr];rfl) ?_
  refine h1.iR 5 rfl (by simp) rfl fun w h1=>?_
  refine h1.st 5 rfl (by simp) rfl fun w h1=>?_
  refine h1.cx (k:=.i .i64) 5 rfl rfl ?_
  refine h1.ld (k:=.i .i64) 5 rfl rfl ?_
  exact(hK _ w).2 hr rfl (h.cB h1.fr)
def az.oe (m:az) (e:bM) (xs:List Int):az×Int×Int:=
 if xs.length≠m.n then (m,0,63) else if e∈m.aw then (m,0,61) else if 200<=m.rows.length then (m,0,40) else (m.add e xs,m.rows.length,0)
def az.mi (m:az) (xs:List Int) (k:Nat):List (List Int):=(List.range m.n).map fun c=>if c < k then m.mh c++ [xs.getD c 0] else m.mh c
theorem D9 (m:az) (xs:List Int) {k:Nat} (h:k < m.n):(m.mi xs k)[k]? =some (m.mh k):=by
 simp [az.mi,h]
theorem BT (m:az) (xs:List Int):m.mi xs 0=m.mV:=by simp [az.mi,az.mV]
theorem Ea (m:az) (e:bM) (xs:List Int):m.mi xs m.n=(m.add e xs).mV:=by
 unfold az.mi az.mV
 refine ahu fun c hc=>?_
 rw [if_pos (agC.1 hc),az.KT]
theorem BU (m:az) (xs:List Int) {k:Nat} (h:k < m.n):(m.mi xs k).set k (m.mh k++ [xs.getD k 0])=m.mi xs (k+1):=by
 unfold az.mi
 apply agd
 intro c
 rw [agm]
 simp only [afC,afP,aht]
 by_cases hc:c < m.n
 ·rw [agV hc]
  by_cases e:k=c
  ·subst e;simp [h]
  ·simp only [if_neg e,agy]
   congr 1
   by_cases h1:c < k
   ·rw [if_pos h1,if_pos (by omega)]
   ·rw [if_neg h1,if_neg (by omega)]
 ·rw [af0 (by simp;omega),if_neg (by omega)]
  rfl
theorem GV (h:Hp S w0 w ae) (i j:Nat) (mJ:i≠j) {b:Nat} {m:az} (bK:m.Ok) (hi:ae[i]? =some (di b m)) {e:bM} {u:aa} {vs:Sl} {xs:List Int} (hj:ae[j]? =some u) (hu:Hp.Reads u vs 1 iv xs) {K:Int->Int->World->Prop}
  (hK: ∀w',Hp S w0 w' (ae.set i (di b (m.oe e xs).1))->K (m.oe e xs).2.1 (m.oe e xs).2.2 w'):Nz (some ⟨b,0,none⟩) e.1 e.2 vs w K:=by
 refine J0 ?_
 unfold f115
 obtain⟨Ou,hOu⟩:=h.n9 hj
 obtain⟨o,hR⟩:=hu.rd hOu
 have kS:xs.length=vs.len:=hR.len
 obtain⟨O,h1,back⟩:=h.Z7 mJ hi hj rfl
 obtain⟨so,sc,ss,bm,hn,h1⟩:=zG h1 (i:=0) rfl
 have C9:=h1.len 2 rfl
 rw [az.cj] at C9
 have S4:=h1.len 3 rfl
 have Me:=bK.KP
 have S3:=bK.S1
 refine h1.nw (c:= [_,_]) fun be w1 h1=>?_
 refine h1.dr fun w1 h1=>?_
 refine bg ?_
 refine h1.ld (x:=some bm) 0 rfl rfl ?_
 refine h1.cx (x:=e.1) 6 rfl rfl ?_
 refine h1.ld (x:=e.2) 6 rfl rfl ?_
 obtain⟨inf,q1,q2,_⟩:=lN
 refine Hp.lookup (kd:=.i .i64) (vk:=id) (z:=(0:Int)) (ek:=cc) (g:=gm m) (k:=e) h1 5 rfl rfl zF bD q1 q2 (fun _=>rfl) ?_
 refine bg ?_
 refine h1.cx (x:=so) 0 rfl rfl ?_
 refine bg ?_
 refine h1.ld (x:=sc) 0 rfl rfl ?_
 have ec:Hp S w0 w1 (ae.set i (di b m)):=by
  have:=back (rest:= []) rfl rfl (kU (rest:= []) hn (h1.BR 0 2 3 4 5 (by decide) rfl rfl rfl rfl rfl))
  rwa [afH] at this
 unfold az.oe at hK
 by_cases c1:xs.length≠m.n
 ·rw [if_pos c1] at hK
  exact aE (by simp;omega) (hK _ ec)
 rw [if_neg c1] at hK
 refine aF (by simp;omega) ?_
 by_cases c2:e∈m.aw
 ·rw [if_pos c2] at hK
  refine aE ?_ (hK _ ec)
  cases hg:gm m e with
  | none=>exact absurd c2 (az.uE.1 hg)
  | some v=>rfl
 rw [if_neg c2] at hK
 refine aF (by rw [az.uE.2 c2];simp) ?_
 by_cases c3:200<=m.rows.length
 ·rw [if_pos c3] at hK
  exact aE (by simp;omega) (hK _ ec)
 rw [if_neg c3] at hK
 refine aF (by simp;omega) ?_
 have hxn:xs.length=m.n:=by omega
 refine⟨fun t mm w'=> ∃(k:Nat) (ss:List Sl),t=k /\ k<=m.n /\ mm=m.n - k /\ ss.length=m.n /\ Hp O w w' [ai b 186 [.slice so.a so.len so.cap,.slice sc.a sc.len sc.cap,.map (some bm)],u.ro,aj so 33 2 dz m.aw,aj sc 34 1 KO ss,j9 ss (m.mi xs k),fX bm cc (Value.int .i64) (gm m),ai be 33 [.int .i64 e.1,.int .i64 e.2]],
  ⟨m.n,0,ss,rfl,by omega,rfl,hn,by rw [BT];exact h1⟩,?_⟩
 rintro t mm w ⟨k,ss,rfl,hk,rfl,hn,h1⟩
 by_cases ar:k < m.n
 ·refine aE (by simp;omega) ?_
  refine h1.dd (k:=.i .i64) (u:=u) (y:=xs[k]) (x:=xs[k]) 1 rfl hu (by omega) (by simp [show k < xs.length by omega]) aq rfl ?_
  refine h1.dr fun w h1=>?_
  refine bg ?_
  refine h1.ld (x:=sc) 0 rfl rfl ?_
  refine bg ?_
  refine h1.ld (x:=sc) 0 rfl rfl ?_
  refine h1.e9 (y:=ss[k]) (x:=ss[k]) 3 rfl (by omega) (by simp [hn,ar]) nP rfl ?_
  have pW:k < ss.length:=by omega
  have gz:=q6 (afD pW) (D9 m xs ar)
  have h1:=h1.pick (i:=4) rfl gz rfl
  have qA:=h1.len 7 rfl
  rw [az.pY] at qA
  obtain⟨inf,q1,q2,q3,q4⟩:=jC
  refine h1.bL (c:= [_]) 7 (xs[k]) rfl aq eO q1 q3 q2 rfl rfl (by simp [iv,Value.oneCell']) (by rw [q4];omega) (by omega) fun s w h1 _ _=>?_
  refine⟨h1.IZ 0 rfl rfl,?_⟩
  refine h1.mL 3 rfl (by omega) (by simp;omega) nP (y:=s) rfl rfl fun w h1=>?_
  have h1:=h1.mT (i:=4) (j:=7) (k:=k) (by omega) rfl rfl (by
   rw [afX];exact(aft.1 gz).1) rfl
  have h1:=h1.trim 7
  refine⟨m.n - (k+1),by omega,k+1,ss.set k s,by rw [aB (by omega) (by omega)];omega,by omega,rfl,by simpa using hn,?_⟩
  have e:j9 (ss.set k s) (m.mi xs (k+1))=an (((List.zipWith qZ ss (m.mi xs k)).set k ao).set k (qZ s (m.mh k++ [xs[k]]))):=by
   rw [agz,q7]
   unfold j9
   rw [<-BU m xs ar]
   have:xs.getD k 0=xs[k]:=by simp [show k < xs.length by omega]
   rw [this]
  rw [e]
  exact h1
 ·refine aF (by simp;omega) ?_
  have zK:k=m.n:=by omega
  subst zK
  refine h1.dr fun w h1=>?_
  refine bg ?_
  refine h1.cx (x:=so) 0 rfl rfl ?_
  refine h1.cx (x:=e.1) 6 rfl rfl ?_
  refine h1.ld (x:=e.2) 6 rfl rfl ?_
  obtain⟨inf,q1,q2,q3,q4⟩:=Md
  refine h1.bL (c:= [_,_]) 2 e rfl aP S0 q1 q3 q2 rfl rfl (by simp [dz,Value.oneCell']) (by rw [q4];omega) (by omega) fun s w h1 _ _=>?_
  refine bg ?_
  refine h1.iR 0 rfl (by simp) rfl fun w h1=>?_
  refine h1.dr fun w h1=>?_
  refine bg ?_
  refine h1.ld (x:=some bm) 0 rfl rfl ?_
  refine h1.cx (x:=e.1) 6 rfl rfl ?_
  refine h1.ld (x:=e.2) 6 rfl rfl ?_
  refine Hp.update (ek:=cc) (ev:=Value.int .i64) (v:=(m.rows.length:Int)) (k:=e) h1 5 rfl rfl zF bD (by rw [C9]) fun w h1=>?_
  have h2:=h1.BR 0 2 3 4 5 (by decide) rfl rfl rfl rfl rfl
  rw [az.P0 bK.nd c2 xs,Ea m e xs,<-az.jD m e xs] at h2
  have h3:=back (rest:= []) rfl rfl (kU (m:=m.add e xs) (rest:= []) hn h2)
  rw [afH] at h3
  have:=hK w h3
  rw [<-C9]
  exact this
end
end Go.Proofs.YtcccjgmekakabaaGreat.FT
end

section
namespace Go.Proofs.YtcccjgmekakabaaGreat.FT
open F
open Go Go.Den Go.Proofs
def az.yr (m:az) (row:Int):az×bM×Bool×Int:=
 if 0<=row /\ row < m.rows.length then (m.del row.toNat,if row=m.rows.length - 1 then ((0,0),false,0) else (m.aw.getD (m.rows.length - 1) (0,0),true,0)) else (m,(0,0),false,50)
def az.sX (m:az) (row k:Nat):List (List Int):=(List.range m.n).map fun c=>if c < k then (m.del row).mh c else m.mh c
theorem GW (m:az) (row:Nat) {k:Nat} (h:k < m.n):(m.sX row k)[k]? =some (m.mh k):=by
 simp [az.sX,h]
theorem Eb (m:az) (row:Nat):m.sX row 0=m.mV:=by simp [az.sX,az.mV]
theorem zL (m:az) (row:Nat):m.sX row m.n=(m.del row).mV:=by
 unfold az.sX az.mV
 refine ahu fun c hc=>?_
 rw [if_pos (agC.1 hc)]
theorem Ec (m:az) (row:Nat) {k:Nat} (h:k < m.n):(m.sX row k).set k ((m.del row).mh k)=m.sX row (k+1):=by
 unfold az.sX
 apply agd
 intro c
 rw [agm]
 simp only [afC,afP,aht]
 by_cases hc:c < m.n
 ·rw [agV hc]
  by_cases e:k=c
  ·subst e;simp [h]
  ·simp only [if_neg e,agy]
   congr 1
   by_cases h1:c < k
   ·rw [if_pos h1,if_pos (by omega)]
   ·rw [if_neg h1,if_neg (by omega)]
 ·rw [af0 (by simp;omega),if_neg (by omega)]
  rfl
theorem wh (m:az) (row:Nat) (h:0 < m.rows.length):(m.del row).aw=(m.aw.set row (m.aw.getD (m.rows.length - 1) (0,0))).take (m.rows.length - 1):=by
 have hl:=m.cj
 apply agd
 intro i
 rw [az.fQ m row i h,agc]
 split
 ·rw [agm]
  by_cases e:row=i
  ·rw [if_pos e.symm,if_pos e,if_pos (by omega)]
   simp [show m.rows.length - 1 < m.aw.length by omega]
  ·rw [if_neg (fun h=>e h.symm),if_neg e]
 ·rfl
section
variable {S:List Nat} {w0 w:World} {ae:List aa}
theorem zM (h:Hp S w0 w ae) (i:Nat) {b:Nat} {m:az} (bK:m.Ok) (hi:ae[i]? =some (di b m)) {row:Int} {K:Int->Int->Bool->Int->World->Prop}
  (hK: ∀w',Hp S w0 w' (ae.set i (di b (m.yr row).1))->K (m.yr row).2.1.1 (m.yr row).2.1.2 (m.yr row).2.2.1 (m.yr row).2.2.2 w'):NA (some ⟨b,0,none⟩) row w K:=by
 refine J4 ?_
 unfold f119
 obtain⟨O,h1,back⟩:=h.f1 hi rfl
 refine h1.nw (c:= [_,_]) fun ba w1 h1=>?_
 refine uD h1 0 rfl ?_
 unfold az.yr at hK
 by_cases hr:0<=row /\ row < m.rows.length
 ·rw [if_pos hr] at hK
  refine aF (by simp [hr]) ?_
  obtain⟨so,sc,ss,bm,hn,h1⟩:=zG h1 (i:=0) rfl
  have C9:=h1.len 2 rfl
  have kA:=m.cj
  have S4:=h1.len 3 rfl
  have Me:=bK.KP
  have S3:=bK.S1
  have kx:0 < m.rows.length:=by omega
  have eQ:(so.len:Int)=m.rows.length:=by omega
  have gA:IntKind.i64.wrap ((so.len:Int) - 1)=(m.rows.length:Int) - 1:=by rw [aB (by omega) (by omega)];omega
  rw [<-gA] at hK
  generalize hL:IntKind.i64.wrap ((so.len:Int) - 1)=L at gA hK
  have Rq:L.toNat=m.rows.length - 1:=by omega
  have fv:row.toNat < m.aw.length:=by omega
  have nH:L.toNat < m.aw.length:=by omega
  have iL:m.aw.getD (m.rows.length - 1) (0,0)=m.aw[L.toNat]:=by simp [Rq,show m.rows.length - 1 < m.aw.length by omega]
  refine bg ?_
  refine h1.cx (x:=so) 0 rfl rfl ?_
  rw [hL]
  refine h1.dr fun w1 h1=>?_
  refine bg ?_
  refine h1.ld (x:=some bm) 0 rfl rfl ?_
  refine bg ?_
  refine h1.cx (x:=so) 0 rfl rfl ?_
  refine h1.GL (k:=.i .i64) (k':=.i .i64) (y:=m.aw[row.toNat]) 2 rfl hr.1 (by simp [fv]) aP rfl rfl ?_
  refine Hp.delete (ek:=cc) (ev:=Value.int .i64) (k:=m.aw[row.toNat]) h1 5 rfl rfl zF bD fun nv w1 h1=>?_
  refine bg ?_
  refine h1.cx (x:=so) 0 rfl rfl ?_
  refine h1.GL (k:=.i .i64) (k':=.i .i64) (y:=m.aw[L.toNat]) 2 rfl (by omega) (by simp [nH]) aP rfl rfl ?_
  refine h1.nw (c:= [_,_]) fun bv w1 h1=>?_
  refine h1.iR 6 rfl (by simp) rfl fun w1 h1=>?_
  refine h1.st 6 rfl (by simp) rfl fun w1 h1=>?_
  refine bg ?_
  refine h1.ld (x:=sc) 0 rfl rfl ?_
  refine⟨fun t mm w'=> ∃(k:Nat) (ss:List Sl),t=k /\ k<=m.n /\ mm=m.n - k /\ ss.length=m.n /\ Hp O w w' [ai b 186 [.slice so.a so.len so.cap,.slice sc.a sc.len sc.cap,.map (some bm)],ai ba 33 [.int .i64 0,.int .i64 0],aj so 33 2 dz m.aw,aj sc 34 1 KO ss,j9 ss (m.sX row.toNat k),fX bm cc (Value.int .i64) (aH (gm m) m.aw[row.toNat] none),ai bv 33 [.int .i64 m.aw[L.toNat].1,.int .i64 m.aw[L.toNat].2]],
   ⟨m.n,0,ss,rfl,by omega,rfl,hn,by rw [Eb];exact h1⟩,?_⟩
  rintro t mm w2 ⟨k,ss,rfl,hk,rfl,hn,h1⟩
  by_cases ar:k < m.n
  ·refine aE (by simp;omega) ?_
   refine h1.e9 (y:=ss[k]) (x:=ss[k]) 3 rfl (by omega) (by simp [hn,ar]) nP rfl ?_
   have pW:k < ss.length:=by omega
   have gz:=q6 (afD pW) (GW m row.toNat ar)
   have h1:=h1.pick (i:=4) rfl gz rfl
   have qA:=h1.len 7 rfl
   rw [az.pY] at qA
   have cU:L.toNat < (m.mh k).length:=by rw [az.pY];omega
   refine h1.e9 (k:=.i .i64) (y:=(m.mh k)[L.toNat]) (x:=(m.mh k)[L.toNat]) 7 rfl (by omega) (by simp) aq rfl ?_
   refine h1.mL 7 rfl hr.1 (by rw [az.pY];omega) aq (y:=(m.mh k)[L.toNat]) rfl rfl fun w1 h1=>?_
   refine h1.dr fun w1 h1=>?_
   refine bg ?_
   refine h1.ld (x:=sc) 0 rfl rfl ?_
   have dF:=h1.cap 7 rfl
   refine h1.cut 7 (s:=ss[k]) rfl aq (agr 0) (by omega) (by omega) (by omega) (by omega) fun s h1 _ _ _=>?_
   refine h1.mL 3 rfl (by omega) (by simp;omega) nP (y:=s) rfl rfl fun w1 h1=>?_
   have h1:=h1.mT (i:=4) (j:=7) (k:=k) (by omega) rfl rfl (by
    rw [afX];exact(aft.1 gz).1) rfl
   have h1:=h1.trim 7
   refine⟨m.n - (k+1),by omega,k+1,ss.set k s,by rw [aB (by omega) (by omega)];omega,by omega,rfl,by simpa using hn,?_⟩
   have e:j9 (ss.set k s) (m.sX row.toNat (k+1))=an (((List.zipWith qZ ss (m.sX row.toNat k)).set k ao).set k (qZ s ((((m.mh k).set row.toNat (m.mh k)[L.toNat]).take L.toNat).drop (0:Int).toNat))):=by
    rw [agz,q7]
    unfold j9
    rw [<-Ec m row.toNat ar,az.KU m _ _ kx,<-Rq]
    have:(m.mh k).getD L.toNat 0=(m.mh k)[L.toNat]:=by simp [cU]
    rw [this];rfl
   rw [e]
   exact h1
  ·refine aF (by simp;omega) ?_
   have zK:k=m.n:=by omega
   subst zK
   refine h1.dr fun w1 h1=>?_
   refine bg ?_
   refine h1.cx (x:=so) 0 rfl rfl ?_
   refine h1.cx (k:=.i .i64) 6 rfl rfl ?_
   refine h1.ld (k:=.i .i64) 6 rfl rfl ?_
   refine h1.GM 2 rfl hr.1 (by omega) aP (y:=m.aw[L.toNat]) rfl rfl rfl fun w1 h1=>?_
   refine bg ?_
   refine h1.cx (x:=so) 0 rfl rfl ?_
   have dF:=h1.cap 2 rfl
   refine h1.cut 2 (s:=so) rfl aP (agr 0) (by omega) (by omega) (by omega) (by omega) fun s h1 _ _ _=>?_
   refine bg ?_
   refine h1.iR 0 rfl (by simp) rfl fun w1 h1=>?_
   have eo:(((m.aw.set row.toNat m.aw[L.toNat]).take L.toNat).drop (0:Int).toNat)=(m.del row.toNat).aw:=by
    rw [wh m row.toNat kx,iL]
    exact congrArg (fun n=>List.take n (m.aw.set row.toNat m.aw[L.toNat])) Rq
   have wi:=az.P3 bK (row:=row.toNat) (e:=m.aw[row.toNat]) (l:=m.aw[L.toNat]) (by simp) (by rw [<-Rq];simp)
   by_cases ei:row=L
   ·rw [if_pos ei] at hK
    rw [if_pos (by omega)] at wi
    refine aE (by simpa using ei) ?_
    refine h1.iR 1 rfl (by simp) rfl fun w1 h1=>?_
    refine h1.st 1 rfl (by simp) rfl fun w1 h1=>?_
    refine h1.cx (k:=.i .i64) 1 rfl rfl ?_
    refine h1.ld (k:=.i .i64) 1 rfl rfl ?_
    have h2:=h1.BR 0 2 3 4 5 (by decide) rfl rfl rfl rfl rfl
    rw [eo,wi,zL] at h2
    have h3:=back (rest:= []) rfl rfl (kU (m:=m.del row.toNat) (rest:= []) hn h2)
    rw [afH] at h3
    exact hK w1 h3
   ·rw [if_neg ei,iL] at hK
    rw [if_neg (by omega)] at wi
    refine aF (by simpa using ei) ?_
    refine h1.dr fun w1 h1=>?_
    refine bg ?_
    refine h1.ld (x:=some bm) 0 rfl rfl ?_
    refine h1.cx (k:=.i .i64) 6 rfl rfl ?_
    refine h1.ld (k:=.i .i64) 6 rfl rfl ?_
    refine Hp.update (ek:=cc) (ev:=Value.int .i64) (v:=((row.toNat:Nat):Int)) (k:=m.aw[L.toNat]) h1 5 rfl rfl zF bD (by congr 1;omega) fun w1 h1=>?_
    refine h1.cx (k:=.i .i64) 6 rfl rfl ?_
    refine h1.ld (k:=.i .i64) 6 rfl rfl ?_
    refine h1.iR 1 rfl (by simp) rfl fun w1 h1=>?_
    refine h1.st 1 rfl (by simp) rfl fun w1 h1=>?_
    refine h1.cx (k:=.i .i64) 1 rfl rfl ?_
    refine h1.ld (k:=.i .i64) 1 rfl rfl ?_
    have h2:=h1.BR 0 2 3 4 5 (by decide) rfl rfl rfl rfl rfl
    rw [eo,wi,zL] at h2
    have h3:=back (rest:= []) rfl rfl (kU (m:=m.del row.toNat) (rest:= []) hn h2)
    rw [afH] at h3
    exact hK w1 h3
 ·rw [if_neg hr] at hK
  refine aE (by simp only [decide_eq_false hr];rfl) ?_
  refine h1.iR 1 rfl (by simp) rfl fun w1 h1=>?_
  refine h1.st 1 rfl (by simp) rfl fun w1 h1=>?_
  refine h1.cx (k:=.i .i64) 1 rfl rfl ?_
  refine h1.ld (k:=.i .i64) 1 rfl rfl ?_
  have h3:=back (rest:= []) rfl rfl (h1.oV 0 rfl)
  rw [afH] at h3
  exact hK w1 h3
end
end Go.Proofs.YtcccjgmekakabaaGreat.FT
end

section
namespace Go.Den
open Go.RowKit
def GX (a b:aa):aa:=
  { holds:=fun w O=> ∃O1 O2,a.holds w O1 /\ b.holds w O2 /\ ∀k,k∈O↔k∈O1 \/ k∈O2
    fr:=fun⟨O1,O2,h1,h2,h4⟩ hf hn=>⟨O1,O2,a.fr h1 hf (fun k hk=>hn k ((h4 k).2 (.inl hk))),b.fr h2 hf (fun k hk=>hn k ((h4 k).2 (.inr hk))),h4⟩
    lt:=fun⟨O1,O2,h1,h2,h4⟩ k hk=>((h4 k).1 hk).elim (a.lt h1 k) (b.lt h2 k)}
section
variable {α:Type} {f:α->List Value} {n:Nat} {e:TypeId}
def Ed (e:TypeId) (n:Nat) (f:α->List Value) (l c:Sl) (y:α) (p m:Nat):aa:=
  { holds:=fun w O=>l.len=p /\ p<=m /\ ((c.a=l.a /\ cA w c e n f (List.replicate m y) O) \/ ∃O1 O2,cf w l n f (List.replicate p y) O1 /\ cA w c e n f (List.replicate m y) O2 /\ (∀k∈O1,k ∉ O2) /\ ∀k,k∈O↔k∈O1 \/ k∈O2)
    fr:=fun{S w w' O} ⟨h1,h2,h3⟩ hf hn=>⟨h1,h2,by
      rcases h3 with ⟨q1,q2⟩ | ⟨O1,O2,q1,q2,q3,q4⟩
      · exact .inl ⟨q1,q2.fr hf hn⟩
      · exact .inr ⟨O1,O2,q1.fr hf (fun k hk=>hn k ((q4 k).2 (.inl hk))),q2.fr hf (fun k hk=>hn k ((q4 k).2 (.inr hk))),q3,q4⟩⟩
    lt:=fun{w O} ⟨h1,h2,h3⟩ k hk=>by
      rcases h3 with ⟨q1,q2⟩ | ⟨O1,O2,q1,q2,q3,q4⟩
      · exact q2.lt k hk
      · exact((q4 k).1 hk).elim (q1.lt k) (q2.lt k)}
theorem cA.P4 {P:Program} {w:World} (hf: ∀x,(f x).length=n) {s:Sl} {t ty:TypeId} {i:TypeInfo} {l news:List α} {o:List Nat} {x:Addr} {m c':Nat} {K:Sl->World->Prop}
  (ht:P.underlying t=some (.slice e)) (hi:P.info? e=some i) (dw:i.size=n)
  (h:cA w s e n f l o) (hl:news.length=m) (kQ: ∀j u,(news.flatMap f)[j]? =some u->w.cell? (x.add j)=some u) (h1: ∀u∈news.flatMap f,u.oneCell'=true) (aR:s.a≠none) (kR:s.len+m<=s.cap)
  (hK: ∀w',cA w' ⟨s.a,s.len+m,s.cap⟩ e n f (l++news) o->Fr o w w'->K ⟨s.a,s.len+m,s.cap⟩ w'):
  bZ .sl P (Builtin.append_ #[t,t] ty #[.slice s.a s.len s.cap,.slice (some x) m c']) w K:=by
 have gi:=h.1
 have kF:(news.flatMap f).length=m*n:=by rw [iM hf,hl]
 have nH:(l.flatMap f).length=s.len*n:=by rw [iM hf,gi]
 have Bz: ∀a b:Nat,(a+b)*n=a*n+b*n:=fun a b=>ahw a b n
 rcases h.2 with ⟨ha,_⟩ | ⟨b,off,c,ha,ho,j7,dF,eY,cX⟩
 ·exact absurd ha aR
 ·subst ho
  have wU:s.len*n<=s.cap*n:=agA _ dF
  have Nn:s.len*n+m*n<=s.cap*n:=by rw [<-Bz];exact agA _ kR
  have vF:=run_firstCells_some (P:=P) w n m x m c' (news.flatMap f) kF kQ
  have bO:=run_storeCells_at P b (off+s.len*n) e (news.flatMap f) 0 c.toArray w j7 (by simp only [ah8,kF];omega) h1
  refine⟨⟨s.a,s.len+m,s.cap⟩,_,?_,hK (w.setRow b (c.take (off+s.len*n)++news.flatMap f++c.drop (off+s.len*n+(news.flatMap f).length)).toArray) ?_ ?_⟩
  ·rw [ha]
   simp only [aho] at bO
   simp [Builtin.append_,run_underlying ht,sizeOf,typeInfo,hi,Builtin.lenOf,kR,dw,vF,Addr.aQ,bO,Kd.inj]
  ·refine⟨by simp [gi,hl],.inr ⟨b,off,_,ha,rfl,setRow_heap w b c.toArray _ e _ j7,kR,?_,?_⟩⟩
   ·simp only [afw,afM,af4,kF];omega
   apply agd
   intro j
   rw [af5,<-cX]
   simp only [agc,agn,agP,afw,afM,af4,kF,Bz]
   have e1:min (off+s.len*n) c.length=off+s.len*n:=by omega
   have e2:min (s.len*n) (c.length - off)=s.len*n:=by omega
   rw [e1,e2]
   by_cases hj:j < s.len*n+m*n
   ·rw [if_pos hj,if_pos (by omega)]
    by_cases DR:j < s.len*n
    ·rw [if_pos (by omega),if_pos (by omega),if_pos (by omega),if_pos (by omega)]
    ·rw [if_neg (by omega),if_neg (by omega)]
     congr 1;omega
   ·rw [if_neg hj,if_neg (by omega)]
    symm
    apply af0
    rw [kF];omega
  ·exact⟨rfl,rfl,rfl,by simp,fun k _ hk=>setRow_other w b k _ (fun e=>hk (by simp [e]))⟩
theorem BV {y:α} {p m:Nat} (Rf:p<=m) {j:Nat} {u:Value} (h:((List.replicate p y).flatMap f)[j]? =some u):((List.replicate m y).flatMap f)[j]? =some u:=by
 have e:List.replicate m y=List.replicate p y++List.replicate (m - p) y:=by rw [List.replicate_append_replicate];congr 1;omega
 rw [e,af5,afx (aft.1 h).1]
 exact h
theorem cf.pre {w:World} {l c:Sl} {y:α} {p m:Nat} {O:List Nat} (hl:l.len=p) (Rf:p<=m) (ha:c.a=l.a) (h:cf w c n f (List.replicate m y) O): ∃O',cf w l n f (List.replicate p y) O' /\ ∀k∈O',k∈O:=by
 by_cases hp:p=0
 ·subst hp
  exact⟨[],cf.nil hl,by simp⟩
 ·have hm:m=c.len:=by have:=h.1;simpa using this
  rcases h.2 with ⟨h1,_⟩ | ⟨x,h1,h2,h3,h4⟩
  ·omega
  ·exact⟨[x.block],⟨by simpa using hl.symm,.inr ⟨x,by rw [<-ha];exact h1,rfl,h3,fun j u hj=>h4 j u (BV Rf hj)⟩⟩,by rw [h2];simp⟩
namespace Hp
variable {S:List Nat} {w0 w:World} {ae:List aa}
theorem uH (h:Hp S w0 w ae) {j:Nat} {l:Sl} {y:α} {p:Nat} (hj:ae[j]? =some (aj l e n f (List.replicate p y))):Hp S w0 w (ae.set j (Ed e n f l l y p p)):=
 h.sU hj rfl (fun w O hO=>⟨by have:=cA.len hO;simpa using this.symm,afV _,.inl ⟨rfl,hO⟩⟩) rfl
theorem yt (h:Hp S w0 w ae) {j:Nat} {l c:Sl} {y:α} {p m:Nat} (hj:ae[j]? =some (Ed e n f l c y p m)):Hp S w0 w (ae.set j (GX (kG l n f (List.replicate p y)) (kG c n f (List.replicate m y)))):=
 h.sU hj rfl (fun w O hO=>by
  obtain⟨h1,h2,h3⟩:=hO
  rcases h3 with ⟨q1,q2⟩ | ⟨O1,O2,q1,q2,q3,q4⟩
  ·obtain⟨O',k1,k2⟩:=cf.pre h1 h2 q1 (cA.toR q2)
   exact⟨O',O,k1,cA.toR q2,fun k=>⟨.inr,fun h=>h.elim (k2 k) id⟩⟩
  ·exact⟨O1,O2,q1,cA.toR q2,q4⟩) rfl
theorem yu (h:Hp S w0 w ae) (j:Nat) {l c:Sl} {y:α} {p m:Nat} (hj:(ae[j]?).map aa.holds=some (Ed e n f l c y p m).holds):c.len=m /\ l.len=p:=by
 obtain⟨O,h1,h2,h3⟩:=h.dQ hj
 refine⟨?_,h1⟩
 rcases h3 with ⟨q1,q2⟩ | ⟨O1,O2,q1,q2,q3,q4⟩
 ·have:=q2.len;simpa using this.symm
 ·have:=q2.len;simpa using this.symm
theorem BW {P:Program} (h:Hp S w0 w ae) (j:Nat) {l c:Sl} {t ty e':TypeId} {inf:TypeInfo} {z:Value} {p m c':Nat} {cs:List Value} {K:Sl->World->Prop} (y:α) (hj:ae[j]? =some (Ed e n f l c y p m)) (hf: ∀x,(f x).length=n)
  (ht:P.underlying t=some (.slice e)) (ic:P.info? e=some inf) (dw:inf.size=n) (hz:inf.zero=some z) (yU:z.cells.size=n) (hc:cs=f y) (h1: ∀u∈f y,u.oneCell'=true)
  (hb:(m+1)*inf.bytes<=140737488355328) (hn:m+1<=140737488355328)
  (hK: ∀s' w',Hp S w0 w' (ae.set j (Ed e n f l s' y p (m+1)))->K s' w'):
  Nw (.cells cs.toArray e') w fun b w=>bZ .sl P (Builtin.append_ #[t,t] ty #[.slice c.a c.len c.cap,.slice (some b) 1 c']) w K:=by
 have qA:=(h.yu j (by rw [hj];rfl)).1
 have ar:=(aft.1 hj).1
 refine h.nw fun b w h=>?_
 obtain⟨Ob,hO,_⟩:=h.dQ (i:=ae.length) (t:=ai b e' cs) (by simp)
 have h2:=h.step (i:=j) (t:=Ed e n f l c y p m) (by rw [afx ar];exact hj) rfl
 obtain⟨O,⟨g1,g2,g3⟩,back⟩:=h2
 have fin: ∀{w':World} {s':Sl} {O':List Nat},Fr O w w'->(Ed e n f l s' y p (m+1)).holds w' O'->(∀k∈O',k∈O \/ w.heap.size<=k)->K s' w':=by
  intro w' s' O' eN D3 mv
  have:=back eN D3 mv rfl
  rw [agx _ _ ar] at this
  exact hK s' w' this.front
 have kQ: ∀q u,(List.flatMap f [y])[q]? =some u->w.cell? ((⟨b,0,none⟩:Addr).add q)=some u:=by
  intro q u hq
  rw [Addr.aQ,hO.cell,agH,hc]
  simpa using hq
 have GN: ∀u∈List.flatMap f [y],u.oneCell'=true:=by simpa using h1
 have P5:List.replicate m y++ [y]=List.replicate (m+1) y:=by rw [<-ahG]
 rcases g3 with ⟨q1,q2⟩ | ⟨O1,O2,q1,q2,q3,q4⟩
 ·by_cases kR:c.len+1<=c.cap
  ·have aR:c.a≠none:=by
    intro kq
    rcases q2.2 with ⟨_,_,h0,_⟩ | ⟨_,_,_,h0,_⟩
    ·omega
    ·rw [kq] at h0;cases h0
   refine cA.P4 hf ht ic dw q2 (news:= [y]) rfl kQ GN aR kR fun w' qy eN=>?_
   rw [P5] at qy
   exact fin eN ⟨g1,by omega,.inl ⟨q1,qy⟩⟩ (fun k hk=>.inl hk)
  ·refine cA.app hf ht ic dw hz yU q2 (news:= [y]) rfl kQ GN (by rw [qA];exact hb) (by omega) ?_
   intro s' w' o' qy cW lu hg eN BS kq
   have BS:=BS (by omega)
   have hg:=(hg (by omega)).2
   rw [P5] at qy
   obtain⟨Ol,k1,k2⟩:=cf.pre g1 g2 q1 (cA.toR q2)
   refine fin (O':=Ol++o') eN ⟨g1,by omega,.inr ⟨Ol,o',k1.fr BS (by simp),qy,fun k hk bG=>?_,by simp⟩⟩ ?_
   ·have:=k1.lt k hk
    have:=hg k bG
    omega
   ·intro k hk
    rcases afB.1 hk with hk | hk
    ·exact .inl (k2 k hk)
    ·exact .inr (hg k hk)
 ·refine cA.app hf ht ic dw hz yU q2 (news:= [y]) rfl kQ GN (by rw [qA];exact hb) (by omega) ?_
  intro s' w' o' qy cW lu hg eN BS kq
  rw [P5] at qy
  have Mf: ∀k∈o',k∈O2 \/ w.heap.size<=k:=by
   rcases lu with rfl | ⟨k,h1,_,rfl⟩
   ·exact fun k hk=>.inl hk
   ·intro k' bG;simp only [afF] at bG;subst bG;exact .inr h1
  refine fin (O':=O1++o') (eN.mono (fun k hk=>.inl ((q4 k).2 (.inr hk)))) ⟨g1,by omega,.inr ⟨O1,o',q1.fr eN q3,qy,fun k hk bG=>?_,by simp⟩⟩ ?_
  ·rcases Mf k bG with h | h
   ·exact q3 k hk h
   ·have:=q1.lt k hk;omega
  ·intro k hk
   rcases afB.1 hk with hk | hk
   ·exact .inl ((q4 k).2 (.inl hk))
   ·rcases Mf k hk with h | h
    ·exact .inl ((q4 k).2 (.inr h))
    ·exact .inr h
end Hp
end
end Go.Den
end

section
namespace Go.Den
open Go.RowKit
section
variable {α:Type} {f:α->List Value} {n:Nat} {e:TypeId}
theorem iz {P:Program} {w:World} {b:Nat} {c vs:List Value} (hb:fz w b e c) {off m cap k:Nat} {t t2 ty:TypeId} {inf:TypeInfo} {s2:Sl} {K:Int->World->Prop}
  (ht:P.underlying t=some (.slice e)) (ic:P.info? e=some inf) (dw:inf.size=1) (hk:k=min s2.len m) (gi:vs.length=k)
  (hv:k=0 \/ ∃x,s2.a=some x /\ ∀j u,vs[j]? =some u->w.cell? (x.add j)=some u) (kR:off+m<=c.length) (h1: ∀u∈vs,u.oneCell'=true)
  (hK: ∀w',fz w' b e (c.take off++vs++c.drop (off+k))->Fr [b] w w'->K k w'):
  bZ (.i .i64) P (Builtin.copy_ #[t,t2] ty #[.slice (some ⟨b,off,none⟩) m cap,.slice s2.a s2.len s2.cap]) w K:=by
 have gr:(Builtin.firstCells inf.size k (.slice s2.a s2.len s2.cap)).run P w=.ok vs.toArray w:=by
  rw [dw]
  rcases hv with h0 | ⟨x,ha,fy⟩
  ·have:vs= []:=af7 (by omega)
   subst this
   rw [h0]
   cases s2.a <;> simp [Builtin.firstCells,loadCells,loadCellsFrom]
  ·rw [ha]
   exact run_firstCells_some (P:=P) w 1 k x s2.len s2.cap vs (by omega) fy
 have bO:=run_storeCells_at P b off e vs 0 c.toArray w hb (by simp only [ah8];omega) h1
 refine⟨(k:Int),w.setRow b (c.take off++vs++c.drop (off+vs.length)).toArray,?_,hK _ ?_ ⟨rfl,rfl,rfl,by simp,fun q _ hq=>setRow_other w b q _ (fun e=>hq (by simp [e]))⟩⟩
 ·simp only [aho] at bO
  have PY:Nat.min s2.len m=k:=by rw [hk]
  simp only [Builtin.copy_]
  simp [run_underlying ht,Builtin.lenOf,sizeOf,typeInfo,ic,PY,gr,bO,Kd.inj,goInt]
 ·rw [gi]
  exact setRow_heap w b c.toArray _ e _ hb
theorem Da {v:Value} {x0:α} (hx:f x0= [v]) (q:Nat):(Builtin.zeroCells #[v] q).toList=(List.replicate q x0).flatMap f:=by
 have e0:(List.replicate q x0).flatMap f=List.replicate q v:=by
  induction q with
  | zero=>rfl
  | succ q ih=>rw [agO,age,ih,hx];rfl
 rw [e0]
 unfold Builtin.zeroCells
 apply agd
 intro i
 simp [ahd]
 split <;> simp_all [Nat.mod_one]
theorem cA.Mg {P:Program} {w:World} (hf: ∀x,(f x).length=1) {s:Sl} {l:List α} {x0:α} {v:Value} {o:List Nat} {t tn ty:TypeId} {kn:IntKind} {inf:TypeInfo} {z:Value} {k:Nat} {K:Sl->World->Prop} (h:cA w s e 1 f l o)
  (ht:P.underlying t=some (.slice e)) (htn:P.underlying tn=some (.int kn)) (ic:P.info? e=some inf) (dw:inf.size=1) (hz:inf.zero=some z) (hzc:z.cells=#[v]) (hx:f x0= [v]) (h0:0 < k) (hg:s.cap < s.len+k)
  (hb:(s.len+k)*inf.bytes<=140737488355328) (hn:s.len+k<=140737488355328)
  (hK: ∀b' oZ w',cA w' ⟨some ⟨b',0,none⟩,s.len+k,oZ⟩ e 1 f (l++List.replicate k x0) [b']->w.heap.size<=b'->Fr [] w w'->K ⟨some ⟨b',0,none⟩,s.len+k,oZ⟩ w'):
  bZ .sl P (Builtin.append_ #[t,tn] ty #[.slice s.a s.len s.cap,.int .i64 (k:Int)]) w K:=by
 have gi:=h.1
 have nH:(l.flatMap f).length=s.len:=by rw [iM hf,gi,agS]
 have hold:(Builtin.firstCells inf.size s.len (.slice s.a s.len s.cap)).run P w.drew=.ok (l.flatMap f).toArray w.drew:=by
  rw [dw]
  rcases h.2 with ⟨ha,oM,ya,ho⟩ | ⟨b,off,c,ha,ho,j7,dF,eY,cX⟩
  ·have:l= []:=af7 (by omega)
   subst this
   rw [oM,ha]
   simp [Builtin.firstCells,loadCells,loadCellsFrom]
  ·rw [ha]
   refine run_firstCells_some (P:=P) w.drew 1 s.len ⟨b,off,none⟩ s.len s.cap (l.flatMap f) (by omega) fun j u hj=>?_
   show w.cell? _=_
   rw [Addr.aQ,j7.cell]
   rw [<-cX,agc] at hj
   split at hj
   ·rw [agn] at hj;exact hj
   ·cases hj
 have hkb:k*inf.bytes<=(s.len+k)*inf.bytes:=agA _ (by omega)
 have hr:=Go.Lib.run_append_grow_zeros (P:=P) w t tn ty e inf z .i64 kn ht htn ic hz s.a s.len s.cap (l.flatMap f) hold k h0 (by omega) hg (by omega) (by omega) (growslice_fits hg hb)
 refine⟨⟨some ⟨w.heap.size,0,none⟩,s.len+k,grownCap w (s.len+k) s.cap e⟩,_,hr,hK w.heap.size _ _ ?_ (afV _) ⟨rfl,rfl,rfl,by simp,fun q hq _=>Below.heap_alloc w.drew _ q hq⟩⟩
 have iL:=grownCap_ge w (s.len+k) s.cap e
 have e1:(l.flatMap f).toArray++Builtin.zeroCells z.cells k++Builtin.zeroCells z.cells (grownCap w (s.len+k) s.cap e - (s.len+k))=((l++List.replicate (grownCap w (s.len+k) s.cap e - s.len) x0).flatMap f).toArray:=by
  apply agM
  rw [Array.toList_append,Array.toList_append,hzc,Da hx,Da hx,af5,afA,<-af5,List.replicate_append_replicate]
  simp only
  congr 3
  omega
 refine⟨by simp [gi],.inr ⟨w.heap.size,0,(l++List.replicate (grownCap w (s.len+k) s.cap e - s.len) x0).flatMap f,rfl,rfl,?_,iL,?_,?_⟩⟩
 ·rw [e1];exact fz.alloc w.drew _ e
 ·rw [iM hf,afw,agN]
  show 0+grownCap w (s.len+k) s.cap e*1<=_
  omega
 ·show List.take ((s.len+k)*1) _=_
  rw [ahv,pL hf,List.take_append,afE (by omega),List.take_replicate]
  congr 3
  omega
namespace Hp
variable {S:List Nat} {w0 w:World} {ae:List aa}
theorem Db (h:Hp S w0 w ae) (i:Nat) {s:Sl} {l:List α} {j:Int} {y y':α} {m:Nat} {v:Value} {K:World->Prop} (hi:ae[i]? =some (aj s e n f l)) (h0:0<=j) (hy:l[j.toNat]? =some y) (hf: ∀x,(f x).length=n) (hm:m < n) (td:f y'=(f y).set m v) (hv:v.oneCell'=true)
  (hK: ∀w',Hp S w0 w' (ae.set i (aj s e n f (l.set j.toNat y')))->K w'):Ix s.a s.len j n fun a=>St (a.add m) v w K:=by
 obtain⟨O,hO,back⟩:=h.step hi rfl
 refine cA.ix hf hO h0 (x:=y) hy fun b off c ho hb eY pW dh=>?_
 rw [Addr.aQ]
 refine Go.Den.st hb (by omega) hv fun w' iV eN _=>hK w' ?_
 subst ho
 refine back eN (t':=aj s e n f (l.set j.toNat y')) (O':= [b]) (dh w' y' ?_) (fun k hk=>.inl hk) rfl
 have S5:c.set (off+m) v=c.take off++f y'++c.drop (off+n):=by
  have ee:=hf y
  rw [td]
  apply agd
  intro q
  by_cases h1:q < off
  ·rw [afY (by omega),afA,afx (by rw [afM];omega),agc,if_pos h1]
  ·by_cases h2:q < off+n
   ·rw [afA,afv (by rw [afM];omega),afM,ahe (by omega),afx (by rw [agi];omega)]
    have:=pW (q - off) (by omega)
    rw [show off+(q - off)=q by omega] at this
    by_cases h3:q=off+m
    ·subst h3
     rw [afX (by omega),show off+m - off=m by omega,afX (by omega)]
    ·rw [afY (by omega),afY (by omega),this]
   ·rw [afY (by omega),afA,afv (by rw [afM];omega),afM,ahe (by omega),afv (by rw [agi];omega),agi,ee,agn]
    congr 1;omega
 rw [<-S5]
 exact iV
end Hp
end
end Go.Den
end

section
namespace Go.Proofs.YtcccjgmekakabaaGreat.FW
open F
open Go Go.Den Go.Proofs
open FT (iv aq eO jC)
theorem P6:Tryz.prog.underlying 3=some (.int .i64):=by kernel_rfl
theorem Dc {A La Lb V D:List Value} {off m:Nat} (hA:A.length=off) (hm:V.length=m) (hD:m<=D.length) {c c1 c2:List Value} (hc:c=A++(La++(Lb++D)))
  (h1:c1=c.take (off+La.length+m)++Lb++c.drop (off+La.length+m+Lb.length)) (h2:c2=c1.take (off+La.length)++V++c1.drop (off+La.length+m)):
  c2=A++(La++(V++(Lb++c.drop (off+La.length+m+Lb.length)))) /\ c2.length=c.length:=by
 have e1:c.take (off+La.length+m)=A++La++(Lb++D).take m:=by
  rw [hc,<-afA,show off+La.length+m=(A++La).length+m by simp;omega,List.take_length_add_append]
 have A3:(A++La++(Lb++D).take m).length=off+La.length+m:=by simp;omega
 have e2:c1.take (off+La.length)=A++La:=by
  rw [h1,e1,afA,afA (A++La),agT (by simp;omega)]
 have e3:c1.drop (off+La.length+m)=Lb++c.drop (off+La.length+m+Lb.length):=by
  rw [h1,e1,afA,List.drop_left' A3]
 refine⟨by rw [h2,e2,e3];simp,?_⟩
 rw [h2,e2,e3]
 have:c.length=off+La.length+Lb.length+D.length:=by rw [hc];simp;omega
 simp only [afw,af4,hA,hm];omega
section
variable {S:List Nat} {w0 w:World} {ae:List aa}
theorem S6 (l:List Int):l.flatMap iv=l.map (fun x=>Value.int .i64 x):=by
 induction l with
 | nil=>rfl
 | cons a l ih=>rw [age,agl,ih];rfl
theorem mW {l:List Int}: ∀u∈l.flatMap iv,u.oneCell'=true:=by
 intro u hu
 rw [S6] at hu
 obtain⟨x,_,rfl⟩:=afQ.1 hu
 rfl
theorem q9 (l:List Int):(l.flatMap iv).length=l.length:=by rw [iM aq,agS]
theorem su {a b:Nat} {ca cb:List Value} {ta tb:TypeId} (ha:fz w a ta ca) (hb:fz w b tb cb) (aR:a≠b) (hcb:cb≠ []) {oa ob la lb cpa cpb:Nat} {K:Bool->World->Prop} (hK:K false w):
  CP Tryz.prog 112 [.slice (some ⟨a,oa,none⟩) la cpa,.slice (some ⟨b,ob,none⟩) lb cpb] [.one .b] w K:=by
 refine⟨.bool false,w,?_,hK⟩
 have sh: ∀{k:Nat} {t:TypeId} {c:List Value},fz w k t c->w.shape? k=some (t,c.length):=fun{k t c} h=>by
  have h:w.heap[k]? =some (.cells c.toArray t (0,0)):=h
  simp [World.shape?,h]
 obtain⟨inf,p1,p2,p3,p4⟩:=jC
 have dw: ∀w',(sizeOf 2).run Tryz.prog w'=.ok 1 w':=fun w'=>by simp [sizeOf,typeInfo,p1,p3]
 rw [run_callFunc_extern (P:=Tryz.prog) (fn:=Tryz.f112) (e:=Extern.SlicesOverlaps.overlaps #[34,34] #[4]) (by kernel_rfl) (by kernel_rfl) (by kernel_rfl) (by kernel_rfl) (by kernel_rfl)]
 have:=Lib.run_overlaps_apart (P:=Tryz.prog) w 34 4 2 eO 1 dw ⟨a,oa,none⟩ ⟨b,ob,none⟩ la cpa lb cpb aR ta tb ca.length cb.length (sh ha) (sh hb) (by simpa using hcb) (ha.frozen oa) (ha.frozen ca.length)
 rw [this]
 rfl
theorem fA {s:Sl} {b off:Nat} (hs:s.a=some ⟨b,off,none⟩) {l h m:Int} {K:Sl->Prop} (h0:0<=l) (h1:l<=h) (h2:h<=m) (h3:m<=s.cap) (h4:l.toNat < m.toNat) (hK:K ⟨some ⟨b,off+l.toNat,none⟩,h.toNat - l.toNat,m.toNat - l.toNat⟩):Cut s l h m 1 K:=by
 refine⟨h0,h1,h2,h3,?_⟩
 rw [if_neg (by omega),hs]
 simpa [Addr.aQ] using hK
set_option maxHeartbeats 4000000 in
theorem zN {O:List Nat} {s v:Sl} {l xs:List Int} (h1:Hp O w w [aj s 2 1 iv l,aj v 2 1 iv xs]) {p:Nat} (hp:p<=l.length) (hl:l.length+xs.length<=1000000) {K:Sl->World->Prop}
  (hK: ∀s' w',Hp O w w' [aj s' 2 1 iv (l.take p++xs++l.drop p),aj v 2 1 iv xs]->K s' w'):f56 s (p:Int) v w K:=by
 unfold f56
 obtain⟨inf,q1,q2,q3,q4⟩:=jC
 have eQ:=h1.len (s:=s) 0 rfl
 have gi:=h1.len (s:=v) 1 rfl
 have Ff:=h1.cap (s:=s) 0 rfl
 have Ya:IntKind.i64.wrap ((s.len:Int)+(v.len:Int))=((s.len+v.len:Nat):Int):=by rw [aB (by omega) (by omega)];omega
 refine⟨by omega,by omega,by omega,agr _,?_⟩
 by_cases hm:v.len=0
 ·refine aE (by simp [hm]) ?_
  have:xs= []:=af7 (by omega)
  subst this
  exact hK s w (by rw [afH,agp];exact h1)
 refine aF (by simpa using hm) ?_
 by_cases Yb:p=s.len
 ·refine aE (by simp [Yb]) ?_
  refine h1.gY 0 1 rfl rfl Hp.bX aq eO q1 q3 q2 rfl (by simp [iv,Value.oneCell']) (by rw [q4];omega) (by omega) fun s' w' h1 _ _=>?_
  refine hK s' w' ?_
  rw [afE (by omega),agq (by omega),afH]
  exact h1
 refine aF (by simp;omega) ?_
 rw [Ya]
 -- what lies where
 obtain⟨eN,F,g1,g2⟩:=id h1
 obtain⟨hS,-,-⟩:=g1 0 _ rfl
 obtain⟨hV,-,-⟩:=g1 1 _ rfl
 have GD:=g2 0 1 _ _ rfl rfl (by decide) rfl rfl
 obtain⟨bv,ov,cv,GY,Yc,KW,hcv,GZ,G0⟩: ∃b off c,v.a=some ⟨b,off,none⟩ /\ F 1= [b] /\ fz w b 2 c /\ v.len<=v.cap /\ off+v.cap*1<=c.length /\ (c.drop off).take (v.len*1)=xs.flatMap iv:=by
  rcases hV.2 with ⟨_,h0,_⟩ | h
  ·omega
  ·exact h
 obtain⟨b,off,c,yv,Yd,j7,_,eY,cX⟩: ∃b off c,s.a=some ⟨b,off,none⟩ /\ F 0= [b] /\ fz w b 2 c /\ s.len<=s.cap /\ off+s.cap*1<=c.length /\ (c.drop off).take (s.len*1)=l.flatMap iv:=by
  rcases hS.2 with ⟨_,h0,_⟩ | h
  ·omega
  ·exact h
 have G1:b≠bv:=fun e=>GD b (by rw [Yd];simp) (by rw [Yc];simp [e])
 rw [agS] at eY GZ cX G0
 have xf:(xs.flatMap iv).length=v.len:=by rw [q9];omega
 have zO: ∀{w':World},fz w' bv 2 cv-> ∀j u,(xs.flatMap iv)[j]? =some u->w'.cell? ((⟨bv,ov,none⟩:Addr).add j)=some u:=fun{w'} hb j u hj=>by
  rw [Addr.aQ,hb.cell]
  rw [<-G0,agc] at hj
  split at hj
  ·rw [agn] at hj;exact hj
  ·cases hj
 have wj:((l.take p).flatMap iv).length=p:=by rw [q9,afM];omega
 have zP:((l.drop p).flatMap iv).length=s.len - p:=by rw [q9,af4];omega
 have S7:l.flatMap iv=(l.take p).flatMap iv++(l.drop p).flatMap iv:=by rw [<-af5,agp]
 by_cases hg:s.cap < s.len+v.len
 ·refine aE (by simp;omega) ?_
  refine cA.cut aq hS (by omega) (by omega) (by omega) (agr _) (by omega) fun s4 A9 Ye S8 _=>?_
  have ew:IntKind.i64.wrap (((s.len+v.len:Nat):Int) - (p:Int))=((s.len+v.len - p:Nat):Int):=by rw [aB (by omega) (by omega)];omega
  rw [ew]
  have e4:((l.take ((p:Nat):Int).toNat).drop (0:Int).toNat)=l.take p:=by rw [afu];rfl
  rw [e4] at A9
  have Yf:s4.len=p:=by rw [Ye];simp
  have Yg:s4.cap=s.cap:=by rw [S8];simp
  refine cA.Mg (x0:=(0:Int)) (v:=.int .i64 0) (k:=s.len+v.len - p) aq A9 eO P6 q1 q3 q2 rfl rfl (by omega) (by omega) (by rw [q4];omega) (by omega) fun b' oZ w1 Ba iL vF=>?_
  have tU:s4.len+(s.len+v.len - p)=s.len+v.len:=by omega
  rw [tU] at Ba ⊢
  obtain⟨c',iV,wU,S9,P7⟩: ∃c',fz w1 b' 2 c' /\ s.len+v.len<=oZ /\ oZ<=c'.length /\ c'.take (s.len+v.len)=(l.take p++List.replicate (s.len+v.len - p) 0).flatMap iv:=by
   rcases Ba.2 with ⟨h0,_⟩ | ⟨b'',P8,c',h0,ho,g1,g2,g3,g4⟩
   ·cases h0
   ·injection h0 with h0
    injection h0 with h0 Mh
    subst h0 Mh
    exact⟨c',g1,g2,by simpa using g3,by simpa using g4⟩
  have vX:b < w.heap.size:=j7.lt
  have Yh:bv < w.heap.size:=KW.lt
  have BX:=KW.fr vF (by simp)
  have yw:=j7.fr vF (by simp)
  have uI: ∀{w':World},fz w' b 2 c-> ∀j u,((l.drop p).flatMap iv)[j]? =some u->w'.cell? ((⟨b,off+p,none⟩:Addr).add j)=some u:=fun{w'} hb j u hj=>by
   rw [Addr.aQ,hb.cell]
   have gN:=(aft.1 hj).1
   have jE:c[off+p+j]? =(l.flatMap iv)[p+j]? :=by
    rw [<-cX,agc,if_pos (by omega),agn];congr 1;omega
   rw [jE,S7,afv (by omega),wj,agI]
   exact hj
  refine fA (b:=b') (off:=0) rfl (by omega) (by simp;omega) (by simp;omega) (by simp) (by simp;omega) ?_
  rw [GY]
  refine iz (s2:=⟨some ⟨bv,ov,none⟩,v.len,v.cap⟩) (k:=v.len) (vs:=xs.flatMap iv) iV eO q1 q3 (by simp;omega) xf (.inr ⟨_,rfl,zO BX⟩) (by dsimp only;omega) mW fun w2 eU iH=>?_
  have p5:=yw.fr iH (by simp;omega)
  refine Go.Den.dr fun w3 yV _ pC=>?_
  have P9:=pC _ _ _ eU
  have Ee:=pC _ _ _ p5
  have Qa:IntKind.i64.wrap ((p:Int)+(v.len:Int))=((p+v.len:Nat):Int):=by rw [aB (by omega) (by omega)];omega
  rw [Qa]
  refine fA (b:=b') (off:=0) rfl (by omega) (by simp;omega) (by simp;omega) (by simp) (by simp;omega) ?_
  refine fA yv (by omega) (by omega) (by omega) (agr _) (by simp;omega) ?_
  refine iz (s2:=⟨some ⟨b,off+((p:Nat):Int).toNat,none⟩,_,_⟩) (k:=s.len - p) (vs:=(l.drop p).flatMap iv) P9 eO q1 q3 (by simp;omega) zP (.inr ⟨_,rfl,uI Ee⟩) (by rw [afw,afw,afM,af4,xf];dsimp only;omega) mW fun w4 yx KX=>?_
  have t1:((p+v.len:Nat):Int).toNat=p+v.len:=afu _
  have t2:((p:Nat):Int).toNat=p:=afu _
  simp only [t1,t2,agH] at yx eU
  have A3:(c'.take p++xs.flatMap iv).length=p+v.len:=by rw [afw,xf,afM];omega
  have e5:(c'.take p++xs.flatMap iv++c'.drop (p+v.len)).take (p+v.len)=c'.take p++xs.flatMap iv:=agT A3
  have e6:c'.take p=(l.take p).flatMap iv:=by
   have:=congrArg (List.take p) P7
   rw [ah7,ahe (by omega),af5,agT wj] at this
   exact this
  rw [e5,e6] at yx
  obtain⟨O0,qH,back⟩:=h1.step (i:=0) rfl rfl
  have Qb:Fr [] w w4:=((vF.trans iH (fun k hk=>.inr (by simp only [afF] at hk;omega))).trans yV (by simp)).trans KX (fun k hk=>.inr (by simp only [afF] at hk;omega))
  refine hK _ _ (back (Qb.mono (by simp)) (t':=aj ⟨some ⟨b',0,none⟩,s.len+v.len,oZ⟩ 2 1 iv (l.take p++xs++l.drop p)) (O':= [b']) ?_ (fun k hk=>.inr (by simp only [afF] at hk;omega)) rfl)
  refine⟨by simp;omega,.inr ⟨b',0,_,rfl,rfl,yx,wU,?_,?_⟩⟩
  ·show 0+oZ*1<=_
   rw [afw,afw,afw,wj,xf,zP,af4,afw,afw,wj,xf,af4]
   omega
  ·show List.take ((s.len+v.len)*1) _=_
   rw [ahv,agS,af5,af5,agT (by rw [afw,afw,wj,zP,xf];omega)]
 ·refine aF (by simp;omega) ?_
  -- in place
  obtain⟨O0,qH,back⟩:=h1.step (i:=0) rfl rfl
  have Yi:O0= [b]:=by
   rcases qH.2 with ⟨h0,_⟩ | ⟨b',P8,c',h0,ho,_⟩
   ·rw [yv] at h0;cases h0
   ·rw [yv] at h0;injection h0 with h0;injection h0 with h0;rw [ho,h0]
  subst Yi
  have Qa:IntKind.i64.wrap ((p:Int)+(v.len:Int))=((p+v.len:Nat):Int):=by rw [aB (by omega) (by omega)];omega
  have Ta:c=c.take off++((l.take p).flatMap iv++((l.drop p).flatMap iv++c.drop (off+s.len))):=by
   rw [<-afA ((l.take p).flatMap iv),<-S7,<-cX,<-agk,agp,agp]
  have qA:s.len+off<=c.length:=by omega
  have L2:((l.drop p).flatMap iv).length=s.len - p:=zP
  have uI: ∀{w':World},fz w' b 2 c-> ∀j u,((l.drop p).flatMap iv)[j]? =some u->w'.cell? ((⟨b,off+p,none⟩:Addr).add j)=some u:=fun{w'} hb j u hj=>by
   rw [Addr.aQ,hb.cell]
   have gN:=(aft.1 hj).1
   rw [Ta,afv (by simp;omega),afv (by rw [wj,afM];omega),afx (by rw [wj,afM];omega),wj,afM]
   rw [<-hj];congr 1;omega
  refine fA yv (by omega) (by omega) (by omega) (agr _) (by omega) ?_
  rw [Qa]
  refine fA (b:=b) (off:=off+(0:Int).toNat) rfl (by omega) (by simp;omega) (by simp;omega) (by simp) (by simp;omega) ?_
  rw [GY]
  refine su (cb:=c) KW j7 (fun e=>G1 e.symm) (fun e=>by rw [e] at qA;simp at qA;omega) ?_
  refine aE rfl ?_
  refine Go.Den.dr fun w1 vF _ lr=>?_
  have yw:=lr _ _ _ j7
  have BX:=lr _ _ _ KW
  refine fA (b:=b) (off:=off+(0:Int).toNat) rfl (by omega) (by simp;omega) (by simp;omega) (by simp) (by simp;omega) ?_
  refine fA (b:=b) (off:=off+(0:Int).toNat) rfl (by omega) (by simp;omega) (by simp;omega) (by simp) (by simp;omega) ?_
  refine iz (s2:=⟨some ⟨b,off+(0:Int).toNat+((p:Nat):Int).toNat,none⟩,_,_⟩) (k:=s.len - p) (vs:=(l.drop p).flatMap iv) yw eO q1 q3 (by simp;omega) zP (.inr ⟨_,rfl,uI yw⟩) (by simp;omega) mW fun w2 eU iH=>?_
  have Qc:=BX.fr iH (by simp;exact fun e=>G1 e.symm)
  refine fA (b:=b) (off:=off+(0:Int).toNat) rfl (by omega) (by simp;omega) (by simp;omega) (by simp) (by simp;omega) ?_
  refine iz (s2:=⟨some ⟨bv,ov,none⟩,v.len,v.cap⟩) (k:=v.len) (vs:=xs.flatMap iv) eU eO q1 q3 (by simp;omega) xf (.inr ⟨_,rfl,zO Qc⟩) (by rw [afw,afw,afM,af4,zP];dsimp only;omega) mW fun w3 pC yV=>?_
  have t1:((p+v.len:Nat):Int).toNat=p+v.len:=afu _
  have t2:((p:Nat):Int).toNat=p:=afu _
  have t3:((s.len+v.len:Nat):Int).toNat=s.len+v.len:=afu _
  have t0:(0:Int).toNat=0:=rfl
  simp only [t1,t2,t3,t0,aho,Nat.sub_zero] at pC yV eU iH ⊢
  obtain⟨er,el⟩:=Dc (A:=c.take off) (La:=(l.take p).flatMap iv) (Lb:=(l.drop p).flatMap iv) (V:=xs.flatMap iv) (D:=c.drop (off+s.len)) (off:=off) (m:=v.len) (by simp;omega) xf (by simp;omega) Ta rfl rfl
  rw [wj,zP] at er el
  rw [<-ahD off p v.len,er] at pC
  rw [<-ahD off p v.len] at eU
  rw [afu]
  have Qb:Fr [b] w w3:=((vF.mono (S':= [b]) (by simp)).trans iH (fun k hk=>.inl hk)).trans yV (fun k hk=>.inl hk)
  refine hK _ _ (back Qb (t':=aj ⟨some ⟨b,off,none⟩,s.len+v.len,s.cap⟩ 2 1 iv (l.take p++xs++l.drop p)) (O':= [b]) ?_ (fun k hk=>.inl hk) rfl)
  refine⟨by simp;omega,.inr ⟨b,off,_,rfl,rfl,pC,by show s.len+v.len<=s.cap;omega,?_,?_⟩⟩
  ·rw [er] at el
   rw [el]
   show off+s.cap*1<=_
   omega
  ·show List.take ((s.len+v.len)*1) _=_
   rw [List.drop_left' (by simp;omega),agS,af5,af5,<-afA,<-afA,agT (by rw [afw,afw,wj,zP,xf];omega)]
theorem sw (h:Hp S w0 w ae) (i j:Nat) (mJ:i≠j) {s v:Sl} {l xs:List Int} {p:Nat} (hi:ae[i]? =some (aj s 2 1 iv l)) (hj:ae[j]? =some (aj v 2 1 iv xs)) (hp:p<=l.length) (hl:l.length+xs.length<=1000000) {K:Sl->World->Prop}
  (hK: ∀s' w',Hp S w0 w' (ae.set i (aj s' 2 1 iv (l.take p++xs++l.drop p)))->K s' w'):Rm s (p:Int) v w K:=by
 refine Gt ?_
 obtain⟨O,h1,back⟩:=h.f2 mJ hi hj rfl rfl
 refine zN h1 hp hl fun s' w' h1=>hK s' w' ?_
 have:=back (rest:= []) rfl rfl rfl h1
 rw [afH] at this
 have e:(ae.set i (aj s' 2 1 iv (l.take p++xs++l.drop p))).set j (aj v 2 1 iv xs)=ae.set i (aj s' 2 1 iv (l.take p++xs++l.drop p)):=Hp.cK (by rw [afY mJ];exact hj)
 rw [e] at this
 exact this
end
end Go.Proofs.YtcccjgmekakabaaGreat.FW
end

section
namespace Go.Den
open Go.RowKit
abbrev eC (x:Int):List Value:= [.int .u8 x]
theorem bx (x:Int):(eC x).length=1:=rfl
def bV (s:ByteArray):List Int:=s.data.toList.map fun b=>(b.toNat:Int)
def strOf (l:List Int):ByteArray:=⟨(l.map fun x=>UInt8.ofNat x.toNat).toArray⟩
def Bytes (l:List Int):Prop:= ∀x∈l,0<=x /\ x < 256
theorem mX (s:ByteArray):(bV s).length=s.size:=by simp [bV]
theorem fN {l:List Int} (h:Bytes l):bV (strOf l)=l:=by
 unfold bV strOf
 simp only [List.toList_toArray,ahy]
 conv=>rhs;rw [<-List.map_id l]
 apply ahu
 intro x hx
 obtain⟨h0,h1⟩:=h x hx
 simp only [Function.comp,id]
 have:x.toNat < 256:=by omega
 simp only [UInt8.toNat_ofNat']
 omega
theorem BY (s:ByteArray):Bytes (bV s):=by
 intro x hx
 simp only [bV,afQ] at hx
 obtain⟨b,_,rfl⟩:=hx
 have:=b.toNat_lt
 omega
theorem uJ {a b:ByteArray} (h:bV a=bV b):a=b:=by
 have h2:a.data.toList=b.data.toList:=by
  unfold bV at h
  apply List.map_inj_right (f:=fun x:UInt8=>(x.toNat:Int)) ?_ |>.1 h
  intro x y G2
  exact UInt8.toNat_inj.1 (Int.ofNat_inj.1 G2)
 cases a;cases b
 simp only [ByteArray.mk.injEq]
 exact agM h2
theorem yy (a b:ByteArray):(a.toList ==b.toList)=decide (bV a=bV b):=by
 have e:a.toList=b.toList↔bV a=bV b:=by
  constructor
  ·intro h
   rw [ByteArray.toList_eq,ByteArray.toList_eq] at h
   unfold bV;rw [h]
  ·intro h
   rw [uJ h]
 by_cases h:bV a=bV b
 ·rw [decide_eq_true h];simpa using e.2 h
 ·rw [decide_eq_false h]
  simp only [beq_eq_false_iff_ne,ne_eq]
  exact fun h'=>h (e.1 h')
theorem zQ (s:ByteArray):Lib.strCells s=(bV s).flatMap eC:=by
 unfold Lib.strCells bV
 induction s.data.toList with
 | nil=>rfl
 | cons x l ih=>simp only [agl,age,ih];rfl
section
variable {P:Program} {w:World} {e:TypeId}
end
namespace Hp
variable {S:List Nat} {w0 w:World} {ae:List aa} {P:Program} {e:TypeId}
theorem bat (h:Hp S w0 w ae) (i:Nat) {u:aa} {s:Sl} {l:List Int} (hi:(ae[i]?).map aa.holds=some u.holds) (hu:Reads u s 1 eC l) (b:ByteArray) (hb:bV b=l):nz w s b:=by
 obtain⟨O,hO⟩:=h.dQ hi
 obtain⟨o,h1,h2⟩:=hu.rd hO
 have qB:b.data.toList.length=s.len:=by
  rw [<-h1,<-hb];simp [bV]
 refine⟨qB,?_⟩
 rcases h2 with ⟨h3,_⟩ | ⟨x,h3,_,_,h4⟩
 ·cases ha:s.a with
  | none=>exact .inl ⟨rfl,h3⟩
  | some a=>
   refine .inr ⟨a,rfl,fun j x hx=>?_⟩
   have:=(aft.1 hx).1
   omega
 ·refine .inr ⟨x,h3,fun j y hy=>h4 j _ ?_⟩
  rw [<-hb,<-zQ]
  simp only [Lib.strCells,afC,hy,agy]
theorem Ef (h:Hp S w0 w ae) (i:Nat) {u:aa} {s:Sl} {l:List Int} {K:ByteArray->Prop} (hi:(ae[i]?).map aa.holds=some u.holds) (hu:Reads u s 1 eC l) (b:ByteArray) (hb:bV b=l) (hK:K b):Bh w s K:=
 ⟨b,h.bat i hi hu b hb,hK⟩
end Hp
end Go.Den
end

section
namespace Go.Proofs.YtcccjgmekakabaaGreat.FW
open F
open Go Go.Den Go.Proofs
theorem zR:Tryz.prog.underlying 23=some (.slice 5):=by kernel_rfl
theorem KY:Tryz.prog.underlying 9=some .string:=by kernel_rfl
theorem Tb:Tryz.prog.underlying 5=some (.int .u8):=by kernel_rfl
theorem p6:Tryz.prog.underlying 45=some (.slice 9):=by kernel_rfl
theorem dR:Tryz.prog.underlying 22=some (.slice 107):=by kernel_rfl
theorem wk: ∃inf:TypeInfo,Tryz.prog.info? 9=some inf /\ inf.zero=some (.string ⟨#[]⟩) /\ inf.size=1 /\ inf.bytes=16:=fE (by kernel_rfl)
theorem xg: ∃inf:TypeInfo,Tryz.prog.info? 107=some inf /\ inf.zero=some (.agg #[.string ⟨#[]⟩,.slice none 0 0]) /\ inf.size=2 /\ inf.bytes=40:=fE (by kernel_rfl)
abbrev sv (x:ByteArray):List Value:= [.string x]
theorem cR (x:ByteArray):(sv x).length=1:=rfl
def kW (i:Nat) (c:Int):Prop:=((97<=c /\ c<=122) \/ (65<=c /\ c<=90)) \/ (i≠0 /\ (c=95 \/ (48<=c /\ c<=57)))
instance (i:Nat) (c:Int):Decidable (kW i c):=by unfold kW;infer_instance
def ez (l:List Int):Prop:=(∀i,(h:i < l.length)->kW i l[i]) /\ l≠ [] /\ l.length<=16
instance (l:List Int):Decidable (ez l):=by unfold ez;infer_instance
def bo (L:List ByteArray):Prop:= ∀i,(h:i < L.length)->ez (bV L[i]) /\ L[i] ∉ L.take i
theorem Dd {a b:ByteArray}:(a.toList ==b.toList)=decide (a=b):=by
 rw [yy]
 by_cases h:a=b
 ·simp [h]
 ·rw [decide_eq_false h,decide_eq_false (fun e=>h (uJ e))]
noncomputable instance Yj (x:ByteArray) (L:List ByteArray):Decidable (x∈L):=Classical.propDecidable _
noncomputable instance (L:List ByteArray):Decidable (bo L):=Classical.propDecidable _
section
variable {S:List Nat} {w0 w:World} {ae:List aa}
theorem zS (h:Hp S w0 w ae) {s:ByteArray} {K:Sl->World->Prop} (hK: ∀x w',Hp S w0 w' (ae++ [kG x 1 eC (bV s)])->K x w'):bZ .sl Tryz.prog (convert 9 23 (.string s)) w K:=by
 refine⟨⟨some ⟨w.heap.size,0,none⟩,s.size,grownCap w s.size 0 5⟩,Lib.bytesWorld w 5 s,Lib.run_convert_string_bytes w 9 23 5 s KY zR Tb,hK _ _ ?_⟩
 refine h.grow (t:=kG ⟨some ⟨w.heap.size,0,none⟩,s.size,grownCap w s.size 0 5⟩ 1 eC (bV s)) (O:= [w.heap.size]) ⟨rfl,rfl,rfl,by rw [Lib.bytesWorld_size];omega,fun k hk _=>Lib.bytesWorld_at_old w 5 s k hk⟩ ?_ (by simp) rfl
 refine⟨mX s,.inr ⟨⟨w.heap.size,0,none⟩,rfl,rfl,by rw [Lib.bytesWorld_size];exact Nat.lt_succ_self _,fun j u hj=>?_⟩⟩
 have e: ∀l:List Int,l.flatMap eC=l.map (fun x=>Value.int .u8 x):=fun l=>by
  induction l with
  | nil=>rfl
  | cons a l ih=>rw [age,agl,ih];rfl
 rw [e,afC] at hj
 obtain⟨x,hx,rfl⟩:=af2.1 hj
 have ar:j < s.size:=by have:=(aft.1 hx).1;rwa [mX] at this
 rw [Addr.aQ,agH,Lib.bytesWorld_cell w 5 s j ar]
 unfold bV at hx
 rw [afC] at hx
 obtain⟨y,hy,rfl⟩:=af2.1 hx
 rw [List.getD,hy];rfl
theorem Eg (h:Hp S w0 w ae) {s:ByteArray} {K:Bool->World->Prop} (hs:s.size<=1000000000000) (hK: ∀w',Hp S w0 w' ae->K (decide (ez (bV s))) w'):NU s w K:=by
 refine Ku ?_
 unfold f148
 refine zS h fun x w1 h=>?_
 have eQ:=mX s
 have kS:=h.X6 (s:=x) (l:=bV s) (n:=1) (f:=eC) ae.length (by simp)
 refine⟨fun t m w'=> ∃k:Nat,t=k /\ k<=x.len /\ m=x.len - k /\ (∀i,(hi:i < (bV s).length)->i < k->kW i (bV s)[i]) /\ w'=w1,⟨x.len,0,rfl,by omega,rfl,fun i _ h=>by omega,rfl⟩,?_⟩
 rintro t m w2 ⟨k,rfl,hk,rfl,bF,rfl⟩
 have h0:=h.front
 by_cases ar:k < x.len
 ·refine aE (by simp;omega) ?_
  have cU:k < (bV s).length:=by omega
  refine h.SY (k:=.i .u8) (s:=x) (l:=bV s) (y:=(bV s)[k]) (x:=(bV s)[k]) ae.length (by simp) (by omega) (by simp [cU]) bx rfl ?_
  by_cases hc:kW k (bV s)[k]
  ·refine aF ?_ ⟨x.len - (k+1),by omega,k+1,by rw [aB (by omega) (by omega)];omega,by omega,rfl,fun i hi Fa=>?_,rfl⟩
   ·generalize (bV s)[k]=c at hc
    unfold kW at hc
    by_cases h1:c>=97 /\ c<=122
    ·simp [h1.1,h1.2]
    ·by_cases h2:c>=65 /\ c<=90
     ·simp [h2.1,h2.2]
     ·obtain⟨Eh,hc⟩:k≠0 /\ (c=95 \/ (48<=c /\ c<=57)):=by omega
      have:(((k:Nat):Int) ==0)=false:=by simpa using Eh
      rcases hc with rfl | ⟨h3,h4⟩
      ·simp [this]
      ·have h5: ¬(c < 48):=by omega
       have h6: ¬(c > 57):=by omega
       simp [this,h5,h6]
   ·by_cases BZ:i < k
    ·exact bF i hi BZ
    ·obtain rfl:i=k:=by omega
     exact hc
  ·refine aE ?_ ?_
   ·generalize (bV s)[k]=c at hc
    unfold kW at hc
    have h1: ¬(c>=97 /\ c<=122):=fun h=>hc (.inl (.inl h))
    have h2: ¬(c>=65 /\ c<=90):=fun h=>hc (.inl (.inr h))
    have e1:(cond (decide (c>=97)) (decide (c<=122)) false)=false:=by by_cases g:c>=97 <;> simp [g] <;> omega
    have e2:(cond (decide (c>=65)) (decide (c<=90)) false)=false:=by by_cases g:c>=65 <;> simp [g] <;> omega
    rw [e1,e2]
    by_cases Eh:k=0
    ·simp [Eh]
    ·have h3: ¬(c=95 \/ (48<=c /\ c<=57)):=fun h=>hc (.inr ⟨Eh,h⟩)
     have:(((k:Nat):Int) ==0)=false:=by simpa using Eh
     have h4:(c !=95)=true:=by simp;omega
     by_cases h5:c < 48
     ·simp [this,h4,h5]
     ·have h6:c > 57:=by omega
      simp [this,h4,h5,h6]
   ·have:=hK _ h0
    have da: ¬ez (bV s):=fun hw=>hc (hw.1 k cU)
    rwa [decide_eq_false da] at this
 ·refine aF (by simp;omega) ?_
  have:=hK _ h0
  have e:(cond (!(s.toList ==(⟨#[]⟩:ByteArray).toList)) (decide ((s.size:Int)<=16)) false)=decide (ez (bV s)):=by
   rw [Dd]
   have hz:s=⟨#[]⟩↔bV s= []:=by
    constructor
    ·rintro rfl;rfl
    ·intro he;exact uJ he
   by_cases he:s=⟨#[]⟩
   ·have: ¬ez (bV s):=fun hw=>hw.2.1 (hz.1 he)
    simp [he] at this ⊢
    exact this
   ·by_cases Yk:s.size<=16
    ·have:ez (bV s):=⟨fun i hi=>bF i hi (by omega),fun e=>he (hz.2 e),by omega⟩
     simp [he,this];omega
    ·have: ¬ez (bV s):=fun hw=>Yk (by have:=hw.2.2;omega)
     simp [he,this];omega
  rw [e];exact this
theorem wm (h:Hp S w0 w ae) (j:Nat) {u:aa} {s:Sl} {L:List ByteArray} {x:ByteArray} (hj:(ae[j]?).map aa.holds=some u.holds) (hu:Hp.Reads u s 1 sv L) (hl:L.length<=1000000000) {K:Bool->World->Prop} (hK:K (decide (x∈L)) w):NV s x w K:=by
 refine Kv ?_
 unfold f149
 refine KG ?_
 unfold f162
 have eQ:=h.df j hj hu
 refine⟨fun t m w'=> ∃k:Nat,t=k /\ k<=L.length /\ m=L.length - k /\ x ∉ L.take k /\ w'=w,⟨L.length,0,rfl,by omega,rfl,by simp,rfl⟩,?_⟩
 rintro t m w2 ⟨k,rfl,hk,rfl,da,rfl⟩
 by_cases ar:k < L.length
 ·refine aE (by simp;omega) ?_
  refine h.dd (k:=.s) (u:=u) (y:=L[k]) (x:=L[k]) j hj hu (by omega) (by simp [ar]) cR rfl ?_
  rw [Dd]
  by_cases he:x=L[k]
  ·refine aE (by simpa using he) ?_
   have:x∈L:=by rw [he];exact afR ar
   rw [decide_eq_true this] at hK
   have e:decide (((k:Nat):Int)>=0)=true:=by simp
   show K (decide (((k:Nat):Int)>=0)) _
   rw [e];exact hK
  ·refine aF (by simpa using he) ⟨L.length - (k+1),by omega,k+1,by rw [aB (by omega) (by omega)];omega,by omega,rfl,?_,rfl⟩
   rw [afG ar]
   simp only [afB,afF]
   rintro(h | h)
   ·exact da h
   ·exact he h
 ·refine aF (by simp;omega) ?_
  rw [afE (by omega)] at da
  rw [decide_eq_false da] at hK
  exact hK
theorem lO (h:Hp S w0 w ae) (j:Nat) {u:aa} {s:Sl} {L:List ByteArray} (hj:(ae[j]?).map aa.holds=some u.holds) (hu:Hp.Reads u s 1 sv L) (hl:L.length<=1000000000) (dF:s.len<=s.cap) (dw: ∀x∈L,x.size<=1000000000000) {K:Bool->World->Prop}
  (hK: ∀w',Hp S w0 w' ae->K (decide (bo L)) w'):Jw s w K:=by
 refine JX ?_
 unfold f109
 have eQ:=h.df j hj hu
 refine⟨fun t m w'=> ∃k:Nat,t=k /\ k<=L.length /\ m=L.length - k /\ (∀i,(hi:i < L.length)->i < k->ez (bV L[i]) /\ L[i] ∉ L.take i) /\ Hp S w0 w' ae,⟨L.length,0,rfl,by omega,rfl,fun i _ h=>by omega,h⟩,?_⟩
 clear h
 rintro t m w2 ⟨k,rfl,hk,rfl,bF,h⟩
 by_cases ar:k < L.length
 ·refine aE (by simp;omega) ?_
  refine h.dd (k:=.s) (u:=u) (y:=L[k]) (x:=L[k]) j hj hu (by omega) (by simp [ar]) cR rfl ?_
  refine Eg h (dw _ (afR ar)) fun w3 h=>?_
  by_cases hw:ez (bV L[k])
  ·refine aF (by simpa using hw) ?_
   refine Hp.jT (s:=s) hu eQ cR (by omega) (by omega) (by omega) (agr _) (by omega) fun s2 jO _ _=>?_
   have e:(L.take ((k:Nat):Int).toNat).drop (0:Int).toNat=L.take k:=by rw [afu];rfl
   rw [e] at jO
   refine wm h j hj jO (by rw [afM];omega) ?_
   by_cases hc:L[k]∈L.take k
   ·refine aE (by simpa using hc) ?_
    have:=hK _ h
    have da: ¬bo L:=fun hw=>(hw k ar).2 hc
    rwa [decide_eq_false da] at this
   ·refine aF (by simpa using hc) ⟨L.length - (k+1),by omega,k+1,by rw [aB (by omega) (by omega)];omega,by omega,rfl,fun i hi Fa=>?_,h⟩
    by_cases BZ:i < k
    ·exact bF i hi BZ
    ·obtain rfl:i=k:=by omega
     exact⟨hw,hc⟩
  ·refine aE (by simpa using hw) ?_
   have:=hK _ h
   have da: ¬bo L:=fun h=>hw (h k ar).1
   rwa [decide_eq_false da] at this
 ·refine aF (by simp;omega) ?_
  have:=hK _ h
  have mY:bo L:=fun i hi=>bF i hi (by omega)
  rwa [decide_eq_true mY] at this
abbrev KS:=ByteArray×Sl×List ByteArray
abbrev du (x:KS):List Value:= [.string x.1,.slice x.2.1.a x.2.1.len x.2.1.cap]
theorem aU (x:KS):(du x).length=2:=rfl
def tF (x:KS):aa:=aj x.2.1 9 1 sv x.2.2
def cC (xs:List (ByteArray×List ByteArray)):Prop:=(∀x∈xs,x.2.length<=4 /\ bo x.2) /\ 1<=xs.length /\ xs.length<=12 /\ bo (xs.map (·.1))
noncomputable instance (xs:List (ByteArray×List ByteArray)):Decidable (cC xs):=Classical.propDecidable _
def kinds (xs:List KS):List (ByteArray×List ByteArray):=xs.map fun x=>(x.1,x.2.2)
theorem zT {xs:List KS} {k:Nat} {x:KS} (hx:xs[k]? =some x):Hp.Reads (an (xs.map tF)) x.2.1 1 sv x.2.2:=⟨fun{w O} hO=>by
 obtain⟨O1,O2,g,_⟩:=dx (k:=k) (t:=tF x) (by rw [afC,hx];rfl) hO
 exact⟨O1,cA.toR g⟩⟩
theorem B0 (h:Hp S w0 w ae) (j:Nat) {xs:List KS} {k:Nat} {x:KS} (hj:(ae[j]?).map aa.holds=some (an (xs.map tF)).holds) (hx:xs[k]? =some x):x.2.1.len<=x.2.1.cap /\ x.2.2.length=x.2.1.len:=by
 obtain⟨O,hO⟩:=h.dQ hj
 obtain⟨O1,O2,g,_⟩:=dx (k:=k) (t:=tF x) (by rw [afC,hx];rfl) hO
 have g:cA w x.2.1 9 1 sv x.2.2 O1:=g
 refine⟨?_,g.1⟩
 rcases g.2 with ⟨_,h1,h2,_⟩ | ⟨b,off,c,_,_,_,h3,_⟩
 ·omega
 ·exact h3
set_option maxHeartbeats 2000000 in
theorem G3 (h:Hp S w0 w ae) (i j:Nat) {s:Sl} {xs:List KS} (hi:(ae[i]?).map aa.holds=some (aj s 107 2 du xs).holds) (hj:(ae[j]?).map aa.holds=some (an (xs.map tF)).holds) (hl:xs.length<=1000000000) (dw: ∀x∈xs,x.1.size<=1000000000000 /\ ∀y∈x.2.2,y.size<=1000000000000) {K:Bool->World->Prop}
  (hK: ∀w',Hp S w0 w' ae->K (decide (cC (kinds xs))) w'):Vd s w K:=by
 refine Gp ?_
 unfold f52
 obtain⟨inf,q1,q2,q3,q4⟩:=wk
 have eQ:=h.len i hi
 have hn: ∀{w},Hp S w0 w ae->Hp S w0 w (ae++ [aj ⟨none,0,0⟩ 9 1 sv ([]:List ByteArray)]):=fun h=>h.nil 9 1 sv
 refine⟨fun names t m w'=> ∃k:Nat,t=k /\ k<=xs.length /\ m=xs.length - k /\ (∀q,(hq:q < xs.length)->q < k->(xs[q]).2.2.length<=4 /\ bo (xs[q]).2.2) /\ Hp S w0 w' (ae++ [aj names 9 1 sv ((xs.take k).map (·.1))]),⟨xs.length,0,rfl,by omega,rfl,fun q _ h=>by omega,by simpa using hn h⟩,?_⟩
 clear h
 rintro names t m w2 ⟨k,rfl,hk,rfl,bF,h⟩
 have I0: ∀{r:Nat} {t:aa} {more:List aa},(ae[r]?).map aa.holds=some t.holds->((ae++more)[r]?).map aa.holds=some t.holds:=fun{r t more} hr=>by
  have ar:r < ae.length:=by
   rcases ahY r ae.length with h | h
   ·exact h
   ·rw [af0 h] at hr;cases hr
  rw [afx ar];exact hr
 by_cases ar:k < xs.length
 ·refine aE (by simp;omega) ?_
  have hx:xs[k]? =some xs[k]:=by simp [ar]
  have KZ:=dw xs[k] (afR ar)
  have cX:xs.take (k+1)=xs.take k++ [xs[k]]:=afG ar
  have cP:xs[k]∈xs:=afR ar
  have sx: ∀q,(hq:q < xs.length)->q=k->((xs[k]).2.2.length<=4 /\ bo (xs[k]).2.2)->(xs[q]).2.2.length<=4 /\ bo (xs[q]).2.2:=fun q hq e h=>by subst e;exact h
  have dF:=B0 h j (I0 hj) hx
  generalize xs[k]=x at hx KZ cX cP sx dF
  have no: ¬(x.2.2.length<=4 /\ bo x.2.2)-> ¬cC (kinds xs):=fun da hm=>da (hm.1 (x.1,x.2.2) (afQ.2 ⟨x,cP,rfl⟩))
  refine h.sq i (I0 hi) (by omega) (by rw [afu];exact hx) aU fun a hc=>?_
  refine ep (k:=.s) (x:=x.1) (hc 0 (by omega)) rfl ?_
  refine j8 (k:=.sl) (x:=x.2.1) (hc 1 (by omega)) rfl ?_
  refine h.nw (c:= [_,_]) fun kb w3 h=>?_
  have gk: ∀{c:List Value} {t:aa},((ae++ [t])++ [ai kb 107 c])[ae.length+1]? =some (ai kb 107 c):=fun{c t}=>by rw [afv (by simp)];simp
  have sk: ∀{c c':List Value} {t:aa},((ae++ [t])++ [ai kb 107 c]).set (ae.length+1) (ai kb 107 c')=(ae++ [t])++ [ai kb 107 c']:=fun{c c' t}=>by rw [afI _ _ (by simp)];simp
  refine h.iR (ae.length+1) gk (by simp) rfl fun w4 h=>?_
  rw [sk] at h
  refine h.st (n:=1) (ae.length+1) gk (by simp) rfl fun w5 h=>?_
  rw [sk] at h
  have h:Hp S w0 w5 ((ae++ [aj names 9 1 sv ((xs.take k).map (·.1))])++ [ai kb 107 [.string x.1,.slice x.2.1.a x.2.1.len x.2.1.cap]]):=h
  refine⟨fun w'=>(x.2.2.length<=4 /\ bo x.2.2) /\ Hp S w0 w' ((ae++ [aj names 9 1 sv ((xs.take k).map (·.1))])++ [ai kb 107 [.string x.1,.slice x.2.1.a x.2.1.len x.2.1.cap]]),?_,?_⟩
  ·refine h.ld (n:=1) (k:=.sl) (x:=x.2.1) (ae.length+1) (by rw [gk];rfl) rfl ?_
   by_cases h4:x.2.1.len > 4
   ·refine aE (by simp;omega) ?_
    have:=hK _ h.front.front
    rwa [decide_eq_false (no fun hh=>by omega)] at this
   refine aF (by simp;omega) ?_
   refine h.ld (n:=1) (k:=.sl) (x:=x.2.1) (ae.length+1) (by rw [gk];rfl) rfl ?_
   refine lO h j (u:=an (xs.map tF)) (by rw [afA];exact I0 hj) (zT hx) (by omega) dF.1 KZ.2 fun w6 h=>?_
   by_cases hw:bo x.2.2
   ·exact aF (by simpa using hw) ⟨⟨by omega,hw⟩,h⟩
   ·refine aE (by simpa using hw) ?_
    have:=hK _ h.front.front
    rwa [decide_eq_false (no fun hh=>hw hh.2)] at this
  clear h
  rintro w6 ⟨fY,h⟩
  refine h.cx (k:=.s) (x:=x.1) (ae.length+1) (by rw [gk];rfl) rfl ?_
  have gn: ∀{t:aa} {more:List aa},((ae++ [t])++more)[ae.length]? =some t:=fun{t more}=>by rw [afA,afv (afV _)];simp
  have kF:=h.len (s:=names) (e:=9) (n:=1) (f:=sv) (l:=(xs.take k).map (·.1)) ae.length (by rw [gn];rfl)
  rw [afP,afM] at kF
  refine h.bL (c:= [_]) ae.length x.1 gn cR p6 q1 q3 q2 rfl rfl (by simp [sv,Value.oneCell']) (by rw [q4];omega) (by omega) fun mO w7 h _ _=>?_
  rw [afA,afI _ _ (afV _),af9] at h
  have h:Hp S w0 w7 ((ae++ [aj mO 9 1 sv ((xs.take k).map (·.1)++ [x.1])])++ [ai kb 107 [.string x.1,.slice x.2.1.a x.2.1.len x.2.1.cap]]):=by
   rw [afA];exact h
  refine⟨xs.length - (k+1),by omega,k+1,by rw [aB (by omega) (by omega)];omega,by omega,rfl,fun q hq Rr=>?_,?_⟩
  ·by_cases KN:q < k
   ·exact bF q hq KN
   ·exact sx q hq (by omega) fY
  ·rw [cX,agh]
   exact h.front
 ·refine aF (by simp;omega) ?_
  rw [afE (by omega)] at h
  have cU:(kinds xs).length=xs.length:=by simp [kinds]
  have vY:(kinds xs).map (·.1)=xs.map (·.1):=by simp [kinds]
  have gl:(ae++ [aj names 9 1 sv (xs.map (·.1))])[ae.length]? =some (aj names 9 1 sv (xs.map (·.1))):=by simp
  by_cases h1:1<=xs.length
  ·refine aE (by simp;omega) ?_
   by_cases wo:xs.length<=12
   ·refine aE (by simp;omega) ?_
    have dF:=h.cap ae.length (s:=names) (e:=9) (n:=1) (f:=sv) (l:=xs.map (·.1)) (by rw [gl];rfl)
    refine lO h ae.length (u:=aj names 9 1 sv (xs.map (·.1))) (by rw [gl];rfl) Hp.bX (by simp;omega) dF (fun y hy=>by
     obtain⟨x,hx,rfl⟩:=afQ.1 hy
     exact(dw x hx).1) fun w3 h=>?_
    have:=hK _ h.front
    have e:cC (kinds xs)↔bo (xs.map (·.1)):=by
     constructor
     ·intro hm;rw [<-vY];exact hm.2.2.2
     ·intro hw
      refine⟨fun y hy=>?_,by omega,by omega,by rw [vY];exact hw⟩
      obtain⟨x,hx,rfl⟩:=afQ.1 hy
      obtain⟨q,hq,rfl⟩:=agQ.1 hx
      exact bF q hq (by omega)
    have e2:decide (bo (xs.map (·.1)))=decide (cC (kinds xs)):=by
     by_cases hw:bo (xs.map (·.1))
     ·rw [decide_eq_true hw,decide_eq_true (e.2 hw)]
     ·rw [decide_eq_false hw,decide_eq_false (fun hm=>hw (e.1 hm))]
    rw [e2];exact this
   ·refine aF (by simp;omega) ?_
    have:=hK _ h.front
    rwa [decide_eq_false (fun hm=>wo (by have:=hm.2.2.1;omega))] at this
  ·refine aF (by simp;omega) ?_
   have:=hK _ h.front
   rwa [decide_eq_false (fun hm=>h1 (by have:=hm.2.1;omega))] at this
theorem ch {t u:aa}:(ae++ [t]).set ae.length u=ae++ [u]:=by
 rw [afI _ _ (afV _)];simp
theorem zU (h:Hp S w0 w ae) (i:Nat) {s:Sl} {xs:List KS} (hi:ae[i]? =some (aj s 107 2 du xs)) (hl:xs.length<=1000000) {K:Sl->World->Prop} (hK: ∀r w',Hp S w0 w' (ae++ [aj r 107 2 du xs])->K r w'):Jx s w K:=by
 refine CZ ?_
 unfold f110
 obtain⟨inf,q1,q2,q3,q4⟩:=xg
 have ar:=(aft.1 hi).1
 have eQ:=h.len (s:=s) i (by rw [hi];rfl)
 by_cases hn:s.a.isNone=true
 ·refine aE hn (hK _ _ ?_)
  have:xs= []:=by
   obtain⟨O,hO⟩:=h.n9 hi
   exact(cA.toR hO).isNil (by simpa using hn)
  rw [this];exact h.nil 107 2 du
 ·refine aF hn ?_
  refine h.nw (c:= []) fun b w1 h=>?_
  have h:=h.sr (i:=ae.length) (m:=0) (l:=([]:List KS)) (f:=du) (n:=2) afU rfl rfl aU
  rw [ch] at h
  refine h.gY ae.length i (s:=⟨some ⟨b,0,none⟩,0,0⟩) (s2:=s) afU (by rw [afx ar];exact hi) Hp.bX aU dR q1 q3 q2 rfl (by simp [du,Value.oneCell']) (by rw [q4];show (0+s.len)*40<=_;omega) (by show 0+s.len<=_;omega) fun r w2 h _ _=>?_
  rw [ch] at h
  exact hK r w2 h
theorem sy (h:Hp S w0 w ae) (i:Nat) {u:aa} {s:Sl} {L:List ByteArray} (hi:ae[i]? =some u) (hu:Hp.Reads u s 1 sv L) (hl:L.length<=1000000) {K:Sl->World->Prop} (hK: ∀r w',Hp S w0 w' (ae++ [aj r 9 1 sv L])->K r w'):Nx s w K:=by
 refine JY ?_
 unfold f111
 obtain⟨inf,q1,q2,q3,q4⟩:=wk
 have ar:=(aft.1 hi).1
 have eQ:=h.df i (by rw [hi];rfl) hu
 by_cases hn:s.a.isNone=true
 ·refine aE hn (hK _ _ ?_)
  have:L= []:=by
   obtain⟨O,hO⟩:=h.n9 hi
   obtain⟨o,hR⟩:=hu.rd hO
   exact hR.isNil (by simpa using hn)
  rw [this];exact h.nil 9 1 sv
 ·refine aF hn ?_
  refine h.nw (c:= []) fun b w1 h=>?_
  have h:=h.sr (i:=ae.length) (m:=0) (l:=([]:List ByteArray)) (f:=sv) (n:=1) afU rfl rfl cR
  rw [ch] at h
  refine h.gY ae.length i (s:=⟨some ⟨b,0,none⟩,0,0⟩) (s2:=s) afU (by rw [afx ar];exact hi) hu cR p6 q1 q3 q2 rfl (by simp [sv,Value.oneCell']) (by rw [q4];show (0+s.len)*16<=_;omega) (by show 0+s.len<=_;omega) fun r w2 h _ _=>?_
  rw [ch] at h
  exact hK r w2 h
theorem xh (h:Hp S w0 w ae) {i j:Nat} (aR:i≠j) {ys:List KS} {y:KS} (hi:ae[i]? =some (an (ys.map tF))) (hj:ae[j]? =some (tF y)):Hp S w0 w ((ae.set i (an ((ys++ [y]).map tF))).set j ao):=
 h.join (c:=an ((ys++ [y]).map tF)) aR hi hj (aK _) rfl (aK _) (fun w O1 O2 g1 g2 g3=>by
  rw [agh]
  exact iy g1 (us:= [tF y]) (O2:=O2) ⟨O2,[],g2,rfl,by simp,by simp⟩ g3)
theorem sA (h:Hp S w0 w ae) (i j:Nat) {s:Sl} {xs:List KS} (hi:ae[i]? =some (aj s 107 2 du xs)) (hj:ae[j]? =some (an (xs.map tF))) (hl:xs.length<=1000) (Yl: ∀x∈xs,x.2.2.length<=1000) {K:Sl->World->Prop}
  (hK: ∀r ys w',kinds ys=kinds xs->Hp S w0 w' (ae++ [aj r 107 2 du ys,an (ys.map tF)])->K r w'):Sm s w K:=by
 refine Gr ?_
 unfold f54
 have gN:=(aft.1 hj).1
 refine zU h i hi (by omega) fun r w1 h=>?_
 have h:=h.grow (Fr.refl _ _) (t:=an (([]:List KS).map tF)) (O:= []) rfl (by simp) rfl
 have fv:=h.len (s:=r) (e:=107) (n:=2) (f:=du) (l:=xs) ae.length (by simp)
 refine⟨fun t m w'=> ∃(k:Nat) (ys:List KS),t=k /\ k<=xs.length /\ m=xs.length - k /\ ys.length=k /\ kinds ys=(kinds xs).take k /\ Hp S w0 w' (ae++ [aj r 107 2 du (ys++xs.drop k),an (ys.map tF)]),⟨xs.length,0,[],rfl,by omega,rfl,rfl,by simp [kinds],by simpa using h⟩,?_⟩
 clear h
 rintro t m w2 ⟨k,ys,rfl,hk,rfl,vI,Bb,h⟩
 have g0: ∀{a b:aa} {more:List aa},(ae++ [a,b]++more)[ae.length]? =some a:=fun{a b more}=>by rw [afA,afv (afV _)];simp
 have Ym: ∀{a b:aa},(ae++ [a,b])[ae.length]? =some a:=fun{a b}=>by rw [afv (afV _)];simp
 have g1: ∀{a b c:aa},(ae++ [a,b]++ [c])[ae.length+1]? =some b:=fun{a b c}=>by rw [afA,afv (by omega)];simp
 have g2: ∀{a b c:aa},(ae++ [a,b]++ [c])[ae.length+2]? =some c:=fun{a b c}=>by rw [afA,afv (by omega)];simp
 by_cases ar:k < xs.length
 ·refine aE (by simp;omega) ?_
  have hx:xs[k]? =some xs[k]:=by simp [ar]
  have ed:xs.drop k=xs[k] :: xs.drop (k+1):=agf ar
  have Yn:=Yl xs[k] (afR ar)
  have Ei:(kinds xs).take (k+1)=(kinds xs).take k++ [(xs[k].1,xs[k].2.2)]:=by
   rw [afG (by simpa [kinds] using ar)];simp [kinds]
  generalize xs[k]=x at hx ed Yn Ei
  have Mi:(ys++xs.drop k)[((k:Nat):Int).toNat]? =some x:=by rw [afu,ed,afv (by omega),vI,af9];rfl
  refine h.sq ae.length (by rw [Ym];rfl) (by omega) Mi aU fun a hc=>?_
  refine j8 (k:=.sl) (x:=x.2.1) (hc 1 (by omega)) rfl ?_
  refine sy h j (u:=an (xs.map tF)) (by rw [afx gN];exact hj) (zT hx) (by omega) fun fs w3 h=>?_
  refine h.Db ae.length (y:=x) (y':=(x.1,fs,x.2.2)) (m:=1) g0 (by omega) Mi aU (by omega) rfl rfl fun w4 h=>?_
  have e1:(ys++xs.drop k).set ((k:Nat):Int).toNat (x.1,fs,x.2.2)=ys++ [(x.1,fs,x.2.2)]++xs.drop (k+1):=by
   rw [afu,ed,afI _ _ (by omega),vI,af9,afN];simp
  rw [e1,afA ae,afI _ _ (afV _),af9] at h
  have h:Hp S w0 w4 (ae++ [aj r 107 2 du (ys++ [(x.1,fs,x.2.2)]++xs.drop (k+1)),an (ys.map tF)]++ [tF (x.1,fs,x.2.2)]):=by rw [afA];exact h
  have h:=xh h (i:=ae.length+1) (j:=ae.length+2) (by omega) g1 g2
  have e2:((ae++ [aj r 107 2 du (ys++ [(x.1,fs,x.2.2)]++xs.drop (k+1)),an (ys.map tF)]++ [tF (x.1,fs,x.2.2)]).set (ae.length+1) (an ((ys++ [(x.1,fs,x.2.2)]).map tF))).set (ae.length+2) ao=ae++ [aj r 107 2 du (ys++ [(x.1,fs,x.2.2)]++xs.drop (k+1)),an ((ys++ [(x.1,fs,x.2.2)]).map tF)]++ [ao]:=by
   rw [afA,afI _ _ (by omega),afI _ _ (by omega)]
   simp
  rw [e2] at h
  refine⟨xs.length - (k+1),by omega,k+1,ys++ [(x.1,fs,x.2.2)],by rw [aB (by omega) (by omega)];omega,by omega,rfl,by simp [vI],?_,h.front⟩
  rw [Ei,<-Bb];simp [kinds]
 ·refine aF (by simp;omega) ?_
  rw [agq (by omega),afH] at h
  refine hK r ys _ ?_ h
  rw [Bb,afE (by simp [kinds];omega)]
end
end Go.Proofs.YtcccjgmekakabaaGreat.FW
end

section
namespace Go.Proofs.YtcccjgmekakabaaGreat.FI
open F
open Go Go.Den Go.Proofs
structure af where
 aA:Int
 ah:List Int
 alive:List Bool
 free:List Int
namespace af
def bt (m:af) (i:Int):Bool:=decide (0<=i) && m.alive.getD i.toNat false
def gen (m:af) (i:Int):Int:=m.ah.getD i.toNat 0
structure Ok (m:af):Prop where
 De:1<=m.aA
 pR:m.aA<=200
 len:m.alive.length=m.ah.length
 le:(m.ah.length:Int)<=m.aA
 ah: ∀g∈m.ah,1<=g /\ g<=1000000
 free: ∀i∈m.free,0<=i /\ i < m.ah.length /\ m.bt i=false /\ m.gen i < 1000000
 nodup:m.free.Nodup
 kB:m.free.length+m.alive.count true<=m.ah.length
theorem Ok.fe {m:af} (h:m.Ok):m.ah.length<=200:=by have:=h.pR;have:=h.le;omega
def dj (m:af) (i g:Int):af:={ m with alive:=m.alive.set i.toNat false,free:=if g < 1000000 then m.free++ [i] else m.free}
def cu (m:af) (i:Int) (rest:List Int):af:={ m with ah:=m.ah.set i.toNat (m.gen i+1),alive:=m.alive.set i.toNat true,free:=rest}
def cV (m:af):af:={ m with ah:=m.ah++ [1],alive:=m.alive++ [true]}
end af
def ints (l:List Int):List Value:=l.map (Value.int .i64)
def ka (l:List Bool):List Value:=l.map Value.bool
theorem uK {l:List Int} {i:Nat} (h:i < l.length):(ints l)[i]? =some (Kd.inj (.i .i64) l[i]):=by simp [ints,h,Kd.inj]
theorem ra {l:List Bool} {i:Nat} (h:i < l.length):(ka l)[i]? =some (Kd.inj .b l[i]):=by simp [ka,h,Kd.inj]
def cF (w:World) (b:Nat) (m:af) (O:List Nat):Prop:=
 ∃(sg sa sf:Sl) (og oa jS:List Nat),fz w b 149 [.int .i64 m.aA,.slice sg.a sg.len sg.cap,.slice sa.a sa.len sa.cap,.slice sf.a sf.len sf.cap] /\
  eP w sg 3 (ints m.ah) og /\ eP w sa 4 (ka m.alive) oa /\ eP w sf 3 (ints m.free) jS /\ O=b :: (og++oa++jS) /\ O.Nodup
theorem cF.fr {S:List Nat} {w w':World} {b:Nat} {m:af} {O:List Nat} (h:cF w b m O) (hf:Fr S w w') (hn: ∀k∈O,k ∉ S):cF w' b m O:=by
 obtain⟨sg,sa,sf,og,oa,jS,h1,h2,h3,h4,rfl,h6⟩:=h
 exact⟨sg,sa,sf,og,oa,jS,h1.fr hf (hn b (by simp)),h2.fr hf (fun k hk=>hn k (by simp [hk])),h3.fr hf (fun k hk=>hn k (by simp [hk])),h4.fr hf (fun k hk=>hn k (by simp [hk])),rfl,h6⟩
theorem cF.lt {w:World} {b:Nat} {m:af} {O:List Nat} (h:cF w b m O): ∀k∈O,k < w.heap.size:=by
 obtain⟨sg,sa,sf,og,oa,jS,h1,h2,h3,h4,rfl,h6⟩:=h
 intro k hk
 simp only [af1,afB] at hk
 rcases hk with rfl | (hk | hk) | hk
 ·exact h1.lt
 ·exact h2.lt k hk
 ·exact h3.lt k hk
 ·exact h4.lt k hk
theorem K4 {n:Int} {w:World} {K:Option Addr->Int->World->Prop} (hn:n < 1 \/ 200 < n) (hK:K none 1 w):Rl n w K:=by
 refine Gq ?_
 unfold f53
 rw [if_pos]
 ·exact hK
 ·by_cases h:n < 1
  ·simp [h]
  ·simp [h];omega
theorem G4 {n:Int} {w:World} {K:Option Addr->Int->World->Prop} (h1:1<=n) (h2:n<=200)
  (hK: ∀b w',w.heap.size<=b->b < w'.heap.size->cF w' b ⟨n,[],[],[]⟩ [b]->Fr [] w w'->K (some ⟨b,0,none⟩) 0 w'):Rl n w K:=by
 refine Gq ?_
 unfold f53
 rw [if_neg]
 ·refine nw fun b w' hb j7 hf hs=>?_
  exact hK b w' (by omega) (by omega) ⟨⟨none,0,0⟩,⟨none,0,0⟩,⟨none,0,0⟩,[],[],[],j7,eP.nil,eP.nil,eP.nil,rfl,by simp⟩ hf
 ·have h3: ¬n < 1:=by omega
  have h4: ¬n > 200:=by omega
  simp [h3,h4]
theorem Df {b:Nat} {i:Int} {w:World} {m:af} {O:List Nat} {K:Int->Int->Int->World->Prop} (h:cF w b m O) (hlen:m.alive.length=m.ah.length)
  (hK: ∀w',Fr [] w w'->if m.bt i=true then K i (m.gen i) 0 w' else K 0 0 41 w'):Jy (some ⟨b,0,none⟩) i w K:=by
 refine J6 ?_
 unfold f121
 refine nw fun a w1 ha zp f1 s1=>?_
 have h':=h.fr f1 (by simp)
 obtain⟨sg,sa,sf,og,oa,jS,hb,hg,gI,eN,rfl,bE⟩:=h'
 refine⟨fun t w'=>w'=w1 /\ t= !m.bt i,?_,?_⟩
 ·by_cases h0:i < 0
  ·rw [if_pos (by simpa using h0)]
   have: ¬0<=i:=by omega
   simp [af.bt,this]
  ·rw [if_neg (by simpa using h0)]
   simp only [fq]
   refine mf (k:=.sl) (x:=sg) hb rfl ?_
   by_cases iL:i>=(sg.len:Int)
   ·rw [if_pos (by simpa using iL)]
    have hl:=hg.len
    have h1:m.alive.length<=i.toNat:=by rw [hlen];simp [ints] at hl;omega
    simp [af.bt,afO,af0 h1]
   ·rw [if_neg (by simpa using iL)]
    refine mf (k:=.sl) (x:=sa) hb rfl ?_
    have hl:=hg.len
    have h1:i.toNat < m.alive.length:=by rw [hlen];simp [ints] at hl;omega
    refine e9 gI (by omega) (ra h1) ?_
    have h2:0<=i:=by omega
    simp [af.bt,h1,h2]
 ·rintro t w' ⟨rfl,rfl⟩
  cases gK:m.bt i with
  | true=>
   simp only [ah2,agD,if_false,fq]
   simp only [af.bt,afW,decide_eq_true_eq] at gK
   have h1:i.toNat < m.alive.length:=by
    refine aih fun hle=>?_
    have:=gK.2
    simp [afO,af0 hle] at this
   refine mf (k:=.sl) (x:=sg) hb rfl ?_
   refine e9 hg gK.1 (uK (by omega)) ?_
   refine st (o:=0) zp (by simp) rfl fun w2 p7 f2 s2=>?_
   refine Bx p7 (by simp) rfl fun w3 wq f3 s3=>?_
   refine ld (k:=.i .i64) wq rfl ?_
   refine mf (k:=.i .i64) wq rfl ?_
   have Yo:m.bt i=true:=by simp only [af.bt,afW,decide_eq_true_eq];exact gK
   have:=hK w3 ((f1.trans f2 (by simp [ha])).trans f3 (by simp [ha]))
   rw [if_pos Yo] at this
   have iL:m.gen i=m.ah[i.toNat]:=by simp [af.gen,show i.toNat < m.ah.length by omega]
   rw [iL] at this
   exact this
  | false=>
   simp only [ahb,if_true]
   refine st (o:=0) zp (by simp) rfl fun w2 p7 f2 s2=>?_
   refine Bx p7 (by simp) rfl fun w3 wq f3 s3=>?_
   refine ld (k:=.i .i64) wq rfl ?_
   refine mf (k:=.i .i64) wq rfl ?_
   have:=hK w3 ((f1.trans f2 (by simp [ha])).trans f3 (by simp [ha]))
   rw [gK] at this
   simpa using this
theorem xe {x y:Operand} {a b c d:Int} {w:World} {K:Bool->Prop} (hK:K (a ==c && b ==d)):
  hZ .b Tryz.prog (cl .eql 33 x y (.agg #[.int .i64 a,.int .i64 b]) (.agg #[.int .i64 c,.int .i64 d])) w K:=by
 refine LY (r:=(a ==c && (b ==d && true))) (by kernel_rfl) (by kernel_rfl) (by kernel_rfl) (by kernel_rfl) ?_
 rw [Bool.and_true];exact hK
def af.is (m:af) (i g:Int):Bool:=m.bt i && (m.gen i ==g)
theorem uL {b:Nat} {i g:Int} {w:World} {m:af} {O:List Nat} {K:Bool->World->Prop} (h:cF w b m O) (hlen:m.alive.length=m.ah.length)
  (hK: ∀w',Fr [] w w'->K (m.is i g) w'):F1 (some ⟨b,0,none⟩) i g w K:=by
 refine J1 ?_
 unfold f116
 refine nw fun a w1 ha zp f1 s1=>?_
 have h1:=h.fr f1 (by simp)
 refine ld (k:=.i .i64) zp rfl ?_
 refine Df h1 hlen fun w2 f2=>?_
 have p7:=zp.fr f2 (by simp)
 have fin: ∀(i' g' e':Int),(if m.bt i=true then i'=i /\ g'=m.gen i /\ e'=0 else i'=0 /\ g'=0 /\ e'=41)->
   Nw (.cells #[.int .i64 0,.int .i64 0] 33) w2 fun(x:Addr) w=>
   St x (.int .i64 i') w fun w=>
   St (x.add 1) (.int .i64 g') w fun w=>
   if (e' ==0)=true then (Ld (.i .i64) w x fun(mN:Int)=>Ld (.i .i64) w (x.add 1) fun(uv:Int)=>
   Ld (.i .i64) w ⟨a,0,none⟩ fun(aN:Int)=>Ld (.i .i64) w ((⟨a,0,none⟩:Addr).add 1) fun(bQ:Int)=>
   hZ .b Tryz.prog (cl .eql 33 (.tmp 17) (.tmp 18) (.agg #[.int .i64 mN,.int .i64 uv]) (.agg #[.int .i64 aN,.int .i64 bQ])) w fun(eq:Bool)=>
   K eq w) else (K false w):=by
  intro i' g' e' he
  refine nw fun x w3 hx Vu f3 s3=>?_
  refine st (o:=0) Vu (by simp) rfl fun w4 Yp f4 s4=>?_
  refine Bx Yp (by simp) rfl fun w5 Tc f5 s5=>?_
  have acg:=zp.lt
  have aad:=p7.lt
  have zV:=((p7.fr f3 (by simp)).fr f4 (by simp;omega)).fr f5 (by simp;omega)
  have hf:Fr [] w w5:=((((f1.trans f2 (by simp)).trans f3 (by simp)).trans f4 (by
   have:=f1.size;have:=f2.size;simp;omega)).trans f5 (by have:=f1.size;have:=f2.size;simp;omega))
  have hK5:=hK w5 hf
  cases hl:m.bt i with
  | true=>
   rw [hl] at he
   simp only [if_true] at he
   obtain⟨rfl,rfl,rfl⟩:=he
   rw [if_pos (by rfl)]
   refine ld (k:=.i .i64) Tc rfl ?_
   refine mf (k:=.i .i64) Tc rfl ?_
   refine ld (k:=.i .i64) zV rfl ?_
   refine mf (k:=.i .i64) zV rfl ?_
   refine xe ?_
   simpa [af.is,hl] using hK5
  | false=>
   rw [hl] at he
   simp only [agD,if_false] at he
   obtain⟨rfl,rfl,rfl⟩:=he
   rw [if_neg (by simp)]
   simpa [af.is,hl] using hK5
 split
 ·rename_i hl;exact fin _ _ _ (by rw [if_pos hl];exact⟨rfl,rfl,rfl⟩)
 ·rename_i hl;exact fin _ _ _ (by rw [if_neg hl];exact⟨rfl,rfl,rfl⟩)
theorem ints_set {l:List Int} {i:Nat} {v:Int}:(ints l).set i (.int .i64 v)=ints (l.set i v):=by simp [ints,agR]
theorem re {l:List Bool} {i:Nat} {v:Bool}:(ka l).set i (.bool v)=ka (l.set i v):=by simp [ka,agR]
theorem eJ {l:List Int}:(ints l).length=l.length:=by simp [ints]
theorem kX {l:List Bool}:(ka l).length=l.length:=by simp [ka]
theorem p8 {m:af} {i:Int} (h:m.bt i=true):0<=i /\ i.toNat < m.alive.length /\ m.alive[i.toNat]? =some true:=by
 simp only [af.bt,afW,decide_eq_true_eq] at h
 obtain⟨h0,h1⟩:=h
 have ar:i.toNat < m.alive.length:=by
  refine aih fun hle=>?_
  simp [afO,af0 hle] at h1
 refine⟨h0,ar,?_⟩
 simp only [afO] at h1
 cases hx:m.alive[i.toNat]? with
 | none=>simp [hx] at h1
 | some b=>simp [hx] at h1;rw [h1]
theorem G5: ∃inf:TypeInfo,Tryz.prog.info? 3=some inf /\ inf.zero=some (.int .i64 0) /\ inf.size=1 /\ inf.bytes=8:=fE (by kernel_rfl)
theorem B1: ∃inf:TypeInfo,Tryz.prog.info? 4=some inf /\ inf.zero=some (.bool false) /\ inf.size=1 /\ inf.bytes=1:=fE (by kernel_rfl)
theorem dR:Tryz.prog.underlying 49=some (.slice 3):=by kernel_rfl
theorem ox:Tryz.prog.underlying 147=some (.slice 4):=by kernel_rfl
theorem K5 {s:Sl} {w:World} {vs:List Int} {o:List Nat} {b:Nat} {v:Int} {K:Sl->World->Prop} (h:eP w s 3 (ints vs) o) (hb:fz w b 3 [.int .i64 v]) (hn:vs.length<=1000000000)
  (hK: ∀s' w' o',eP w' s' 3 (ints (vs++ [v])) o'->(o'=o \/ ∃n,w.heap.size<=n /\ n < w'.heap.size /\ o'= [n])->Fr o w w'->s'.a≠none->K s' w'):
  bZ .sl Tryz.prog (Builtin.append_ #[49,49] 49 #[.slice s.a s.len s.cap,.slice (some ⟨b,0,none⟩) 1 1]) w K:=by
 obtain⟨inf,h1,h4,h2,h3⟩:=G5
 have hl:=h.len
 rw [eJ] at hl
 refine app (news:= [.int .i64 v]) dR h1 h2 h4 rfl h rfl ?_ (by simp [Value.oneCell']) (by rw [h3];omega) (by omega) ?_
 ·intro j u hj
  cases j with
  | zero=>simp only [afJ,afy] at hj;subst hj;rw [Addr.aQ,hb.cell];rfl
  | succ j=>simp at hj
 ·intro s' w' o' g1 g2 g3 g4 g5
  exact hK s' w' o' (by simpa [ints] using g1) g3 g4 (g5 (by simp))
theorem Td {s:Sl} {w:World} {vs:List Bool} {o:List Nat} {b:Nat} {v:Bool} {K:Sl->World->Prop} (h:eP w s 4 (ka vs) o) (hb:fz w b 4 [.bool v]) (hn:vs.length<=1000000000)
  (hK: ∀s' w' o',eP w' s' 4 (ka (vs++ [v])) o'->(o'=o \/ ∃n,w.heap.size<=n /\ n < w'.heap.size /\ o'= [n])->Fr o w w'->s'.a≠none->K s' w'):
  bZ .sl Tryz.prog (Builtin.append_ #[147,147] 147 #[.slice s.a s.len s.cap,.slice (some ⟨b,0,none⟩) 1 1]) w K:=by
 obtain⟨inf,h1,h4,h2,h3⟩:=B1
 have hl:=h.len
 rw [kX] at hl
 refine app (news:= [.bool v]) ox h1 h2 h4 rfl h rfl ?_ (by simp [Value.oneCell']) (by rw [h3];omega) (by omega) ?_
 ·intro j u hj
  cases j with
  | zero=>simp only [afJ,afy] at hj;subst hj;rw [Addr.aQ,hb.cell];rfl
  | succ j=>simp at hj
 ·intro s' w' o' g1 g2 g3 g4 g5
  exact hK s' w' o' (by simpa [ka] using g1) g3 g4 (g5 (by simp))
theorem Ej {b:Nat} {i g:Int} {w:World} {m:af} {O:List Nat} {K:Int->World->Prop} (h:cF w b m O) (hm:m.Ok)
  (hK: ∀w' O',cF w' b (if m.is i g=true then m.dj i g else m) O'->(∀k∈O',k∈O \/ w.heap.size<=k)->Fr O w w'->K (if m.is i g=true then 0 else 41) w'):
  Vf (some ⟨b,0,none⟩) i g w K:=by
 refine Pn ?_
 unfold f62
 refine nw fun a w1 ha zp f1 s1=>?_
 have h1:=h.fr f1 (by simp)
 refine ld (k:=.i .i64) zp rfl ?_
 refine mf (k:=.i .i64) zp rfl ?_
 refine uL h1 hm.len fun w2 f2=>?_
 have h2:=h1.fr f2 (by simp)
 have p7:=zp.fr f2 (by simp)
 have f63:Fr [] w w2:=f1.trans f2 (by simp)
 cases hb:m.is i g with
 | false=>
  simp only [ahb,if_true]
  have:=hK w2 O (by rw [hb];simpa using h2) (fun k hk=>.inl hk) (f63.mono (by simp))
  rw [hb] at this
  simpa using this
 | true=>
  simp only [ah2,agD,if_false,fq]
  have gK:m.bt i=true:=by simp only [af.is,afW] at hb;exact hb.1
  have ach:m.gen i=g:=by simp only [af.is,afW,beq_iff_eq] at hb;exact hb.2
  obtain⟨DN,n8,aci⟩:=p8 gK
  refine dr fun w3 f3 s3 kp3=>?_
  have h3:=h2.fr f3 (by simp)
  have wq:=kp3 _ _ _ p7
  have ar:=h3.lt
  obtain⟨sg,sa,sf,og,oa,jS,j7,hg,gI,eN,rfl,bE⟩:=h3
  refine mf (k:=.sl) (x:=sa) j7 rfl ?_
  refine ld (k:=.i .i64) wq rfl ?_
  refine mL gI DN (by rw [kX];exact n8) rfl fun w4 wu f4 s4=>?_
  rw [re] at wu
  have dw:w.heap.size<=a:=by omega
  have Yq:a ∉ oa:=fun fC=>by
   have:=h.lt a (by simp [fC])
   omega
  have Ek:=wq.fr f4 Yq
  simp only [ags,afB,ago,not_or] at bE
  have B2:=j7.fr f4 (fun fC=>bE.1.1.2 fC)
  have Mj:=hg.fr f4 (fun k hk bG=>bE.2.1.2.2 k hk k bG rfl)
  have El:=eN.fr f4 (fun k hk bG=>bE.2.2.2 k (.inr bG) k hk rfl)
  have f68:Fr (b :: (og++oa++jS)) w w4:=(f63.trans f3 (by simp)).mono (by simp) |>.trans f4 (fun k hk=>.inl (by simp [hk]))
  refine mf (k:=.i .i64) Ek rfl ?_
  by_cases Bc:g < 1000000
  ·rw [if_pos (by simpa using Bc)]
   refine dr fun w5 f5 s5 kp5=>?_
   have G6:=kp5 _ _ _ B2
   have zV:=kp5 _ _ _ Ek
   have Rs:=Mj.fr f5 (by simp)
   have zW:=wu.fr f5 (by simp)
   have B3:=El.fr f5 (by simp)
   refine mf (k:=.sl) (x:=sf) G6 rfl ?_
   refine ld (k:=.i .i64) zV rfl ?_
   refine nw fun c w6 hc yW f12 s6=>?_
   have ee:m.free.length<=200:=by have:=hm.kB;have:=hm.fe;omega
   refine K5 (B3.fr f12 (by simp)) yW (by omega) fun s' w7 o' qy lu f43 _=>?_
   have K6: ∀k∈b :: (og++oa++jS),k < w6.heap.size:=fun k hk=>by
    have:=ar k hk;have:=f4.size;have:=f5.size;have:=f12.size;omega
   have Qd:=(G6.fr f12 (by simp)).fr f43 (fun fC=>bE.1.2 fC)
   have Te:=(Rs.fr f12 (by simp)).fr f43 (fun k hk bG=>bE.2.2.2 k (.inl hk) k bG rfl)
   have G7:=(zW.fr f12 (by simp)).fr f43 (fun k hk bG=>bE.2.2.2 k (.inr hk) k bG rfl)
   refine Bx Qd (by simp) rfl fun w8 K7 f62 s8=>?_
   have hob:b ∉ o':=by
    rcases lu with rfl | ⟨n,h1,_,rfl⟩
    ·exact bE.1.2
    ·have:=K6 b (by simp);simp;omega
   have Rt: ∀k∈og++oa,k ∉ o':=fun k hk=>by
    rcases lu with rfl | ⟨n,h1,_,rfl⟩
    ·exact fun bG=>bE.2.2.2 k (afB.1 hk) k bG rfl
    ·have:=K6 k (ahc _ (afB.2 (.inl hk)));simp;omega
   have bF:cF w8 b (m.dj i g) (b :: (og++oa++o')):=by
    refine⟨sg,sa,s',og,oa,o',?_,Te.fr f62 ?_,?_,?_,rfl,?_⟩
    ·simpa [af.dj] using K7
    ·intro k hk;simp;rintro rfl;exact bE.1.1.1 hk
    ·simp only [af.dj];exact G7.fr f62 (by intro k hk;simp;rintro rfl;exact bE.1.1.2 hk)
    ·simp only [af.dj,if_pos Bc];exact qy.fr f62 (by intro k hk;simp;rintro rfl;exact hob hk)
    ·simp only [ags,afB,ago,not_or]
     refine⟨⟨bE.1.1,hob⟩,bE.2.1,?_,?_⟩
     ·rcases lu with rfl | ⟨n,_,_,rfl⟩
      ·exact bE.2.2.1
      ·simp
     ·intro x hx y hy G2
      subst G2
      exact Rt x (afB.2 hx) hy
   have:=hK w8 _ (by rw [hb,if_pos rfl];exact bF) ?_ ?_
   ·rw [hb] at this;simpa using this
   ·intro k hk
    simp only [af1,afB] at hk
    rcases hk with rfl | (hk | hk) | hk
    ·left;simp
    ·left;simp [hk]
    ·left;simp [hk]
    ·rcases lu with rfl | ⟨n,h1,_,rfl⟩
     ·left;simp [hk]
     ·right;simp at hk;subst hk;have:=f68.size;have:=f5.size;have:=f12.size;omega
   ·refine(((f68.trans f5 (by simp)).trans f12 (by simp)).trans f43 (fun k hk=>.inl (by simp [hk]))).trans f62 (by simp)
  ·rw [if_neg (by simpa using Bc)]
   have:=hK w4 (b :: (og++oa++jS)) ?_ (fun k hk=>.inl hk) f68
   ·rw [hb] at this;simpa using this
   ·rw [hb,if_pos rfl]
    refine⟨sg,sa,sf,og,oa,jS,?_,Mj,?_,?_,rfl,?_⟩
    ·simpa [af.dj] using B2
    ·simpa [af.dj] using wu
    ·simpa [af.dj,Bc] using El
    ·simp only [ags,afB,ago,not_or];exact bE
theorem K8 {m:af} {i:Int} (h:i.toNat < m.ah.length):(ints m.ah)[i.toNat]? =some (Kd.inj (.i .i64) (m.gen i)):=by
 rw [uK h];simp [af.gen,h]
theorem Em {b:Nat} {i:Int} {rest:List Int} {w:World} {m:af} {O:List Nat} {K:Int->Int->Int->World->Prop} (h:cF w b m O) (hm:m.Ok) (hf:m.free=i :: rest)
  (hK: ∀w',cF w' b (m.cu i rest) O->Fr O w w'->K i (m.gen i+1) 0 w'):
  Rn (some ⟨b,0,none⟩) w K:=by
 have hi:=hm.free i (by rw [hf];simp)
 have sB:i.toNat < m.ah.length:=by omega
 have iL:1<=m.gen i /\ m.gen i<=1000000:=by
  have:=hm.ah (m.ah[i.toNat]) (by simp)
  simpa [af.gen,sB] using this
 refine BJ ?_
 unfold f58
 simp only [fq]
 refine nw fun a w1 ha zp f1 s1=>?_
 have h1:=h.fr f1 (by simp)
 have ar:=h.lt
 obtain⟨sg,sa,sf,og,oa,jS,j7,hg,gI,eN,rfl,bE⟩:=h1
 have Yr:=bE
 simp only [ags,afB,ago,not_or] at bE
 have Bd: ∀k∈b :: (og++oa++jS),k≠a:=fun k hk e=>by have:=ar k hk;omega
 refine mf (k:=.sl) (x:=sf) j7 rfl ?_
 have ee:=eN.len
 rw [hf,eJ] at ee
 rw [if_pos (by simp at ee;simp;omega)]
 refine mf (k:=.sl) (x:=sf) j7 rfl ?_
 refine e9 (x:=i) eN (by omega) (by rw [hf];simp [ints,Kd.inj]) ?_
 refine mf (k:=.sl) (x:=sf) j7 rfl ?_
 refine eN.cut (n:=1) (by rw [hf,eJ];simp) fun s' qy eQ=>?_
 refine Bx j7 (by simp) rfl fun w2 p5 f2 s2=>?_
 have p7:=zp.fr f2 (by simp;exact fun e=>Bd b (by simp) e.symm)
 have Dg:=hg.fr f2 (by intro k hk;simp;rintro rfl;exact bE.1.1.1 hk)
 have G8:=gI.fr f2 (by intro k hk;simp;rintro rfl;exact bE.1.1.2 hk)
 have jO:=qy.fr f2 (by intro k hk;simp;rintro rfl;exact bE.1.2 hk)
 refine mf (k:=.sl) (x:=sg) p5 rfl ?_
 refine e9 (x:=m.gen i) Dg hi.1 (K8 sB) ?_
 rw [aB (by omega) (by omega)]
 refine mL Dg hi.1 (by rw [eJ];exact sB) rfl fun w3 hg3 f3 s3=>?_
 rw [ints_set] at hg3
 have wq:=p7.fr f3 (fun hk=>Bd a (by simp [hk]) rfl)
 have Ee:=p5.fr f3 bE.1.1.1
 have Ys:=G8.fr f3 (fun k hk bG=>bE.2.1.2.2 k bG k hk rfl)
 have I1:=jO.fr f3 (fun k hk bG=>bE.2.2.2 k (.inl bG) k hk rfl)
 refine mf (k:=.sl) (x:=sa) Ee rfl ?_
 have bF:i.toNat < m.alive.length:=by rw [hm.len];exact sB
 refine mL Ys hi.1 (by rw [kX];exact bF) rfl fun w4 wu f4 s4=>?_
 rw [re] at wu
 have Ek:=wq.fr f4 (fun hk=>Bd a (by simp [hk]) rfl)
 have B2:=Ee.fr f4 bE.1.1.2
 have Mj:=hg3.fr f4 (fun k hk bG=>bE.2.1.2.2 k hk k bG rfl)
 have A9:=I1.fr f4 (fun k hk bG=>bE.2.2.2 k (.inr bG) k hk rfl)
 refine mf (k:=.sl) (x:=sg) B2 rfl ?_
 refine e9 (x:=m.gen i+1) Mj hi.1 (by rw [uK (by simpa using sB)];simp [Kd.inj]) ?_
 refine st (o:=0) Ek (by simp) rfl fun w5 zV f5 s5=>?_
 refine Bx zV (by simp) rfl fun w6 Tf f12 s6=>?_
 refine ld (k:=.i .i64) Tf rfl ?_
 refine mf (k:=.i .i64) Tf rfl ?_
 have f56:Fr [a] w4 w6:=f5.trans f12 (by simp)
 refine hK w6 ?_ ?_
 ·refine⟨sg,sa,s',og,oa,jS,?_,?_,?_,?_,rfl,Yr⟩
  ·have:=B2.fr f56 (by simp;exact Bd b (by simp))
   simpa [af.cu] using this
  ·have:=Mj.fr f56 (by intro k hk;simp;exact Bd k (by simp [hk]))
   simpa [af.cu] using this
  ·have:=wu.fr f56 (by intro k hk;simp;exact Bd k (by simp [hk]))
   simpa [af.cu] using this
  ·have:=A9.fr f56 (by intro k hk;simp;exact Bd k (by simp [hk]))
   rw [hf] at this
   simpa [af.cu,ints] using this
 ·have dw:w.heap.size<=a:=by omega
  refine(((((f1.mono (S':=b :: (og++oa++jS)) (by simp)).trans f2 (by simp)).trans f3 (fun k hk=>.inl (by simp [hk]))).trans f4 (fun k hk=>.inl (by simp [hk]))).trans f56 (by simp;omega))
theorem G9 {b:Nat} {w:World} {m:af} {O:List Nat} {K:Int->Int->Int->World->Prop} (h:cF w b m O) (hm:m.Ok) (hf:m.free= []) (hl:(m.ah.length:Int) < m.aA)
  (hK: ∀w' O',cF w' b m.cV O'->(∀k∈O',k∈O \/ w.heap.size<=k)->Fr O w w'->K m.ah.length 1 0 w'):
  Rn (some ⟨b,0,none⟩) w K:=by
 refine BJ ?_
 unfold f58
 simp only [fq]
 refine nw fun a w1 ha zp f1 s1=>?_
 have h1:=h.fr f1 (by simp)
 have ar:=h.lt
 obtain⟨sg,sa,sf,og,oa,jS,j7,hg,gI,eN,rfl,bE⟩:=h1
 simp only [ags,afB,ago,not_or] at bE
 refine mf (k:=.sl) (x:=sf) j7 rfl ?_
 have ee:=eN.len
 rw [hf,eJ] at ee
 rw [if_neg (by simp at ee;simp;omega)]
 refine dr fun w2 f2 s2 Tg=>?_
 have p7:=Tg _ _ _ zp
 have p5:=Tg _ _ _ j7
 have Dg:=hg.fr f2 (by simp)
 have G8:=gI.fr f2 (by simp)
 have Yt:=eN.fr f2 (by simp)
 refine mf (k:=.sl) (x:=sg) p5 rfl ?_
 refine ld (k:=.i .i64) (x:=m.aA) p5 rfl ?_
 have sB:=hg.len
 rw [eJ] at sB
 rw [if_neg (by simp;omega)]
 have Th:=hm.fe
 refine mf (k:=.sl) (x:=sg) p5 rfl ?_
 refine nw fun c w3 hc yW f3 s3=>?_
 refine K5 (Dg.fr f3 (by simp)) yW (by omega) fun s' w4 zX Mj Ti f4 _=>?_
 have Ha: ∀k∈b :: (og++oa++jS),k < w3.heap.size:=fun k hk=>by
  have:=ar k hk;omega
 have Vv:a < w3.heap.size:=by omega
 have Bd: ∀k∈b :: (og++oa++jS),k≠a:=fun k hk e=>by have:=ar k hk;omega
 have B2:=(p5.fr f3 (by simp)).fr f4 bE.1.1.1
 have Ek:=(p7.fr f3 (by simp)).fr f4 (fun hk=>Bd a (by simp [hk]) rfl)
 have wu:=(G8.fr f3 (by simp)).fr f4 (fun k hk bG=>bE.2.1.2.2 k bG k hk rfl)
 have El:=(Yt.fr f3 (by simp)).fr f4 (fun k hk bG=>bE.2.2.2 k (.inl bG) k hk rfl)
 have Rt: ∀k∈zX,k∈og \/ w3.heap.size<=k:=fun k hk=>by
  rcases Ti with rfl | ⟨n,h1,_,rfl⟩
  ·exact .inl hk
  ·simp at hk;subst hk;exact .inr h1
 have B4: ∀k,k∈b :: (oa++jS) \/ k=a->k ∉ zX:=fun k hk bG=>by
  rcases Rt k bG with h1 | h1
  ·rcases hk with hk | rfl
   ·simp only [af1,afB] at hk
    rcases hk with rfl | hk | hk
    ·exact bE.1.1.1 h1
    ·exact bE.2.1.2.2 k h1 k hk rfl
    ·exact bE.2.2.2 k (.inl h1) k hk rfl
   ·exact Bd k (by simp [h1]) rfl
  ·rcases hk with hk | rfl
   ·have:=Ha k (by simp only [af1,afB] at hk ⊢;rcases hk with h | h | h <;> simp [h])
    omega
   ·omega
 refine Bx B2 (by simp) rfl fun w5 G6 f5 s5=>?_
 have zV:=Ek.fr f5 (by simp;exact fun e=>Bd b (by simp) e.symm)
 have Rs:=Mj.fr f5 (by intro k hk;simp;rintro rfl;exact B4 k (.inl (by simp)) hk)
 have zW:=wu.fr f5 (by intro k hk;simp;rintro rfl;exact bE.1.1.2 hk)
 have B3:=El.fr f5 (by intro k hk;simp;rintro rfl;exact bE.1.2 hk)
 refine mf (k:=.sl) (x:=sa) G6 rfl ?_
 refine nw fun c2 w6 jE Hb f12 s6=>?_
 have bF:m.alive.length<=200:=by rw [hm.len];exact Th
 refine Td (zW.fr f12 (by simp)) Hb (by omega) fun s2' w7 Vw G7 Tj f43 _=>?_
 have Qd:=(G6.fr f12 (by simp)).fr f43 bE.1.1.2
 have Yu:=(zV.fr f12 (by simp)).fr f43 (fun hk=>Bd a (by simp [hk]) rfl)
 have Te:=(Rs.fr f12 (by simp)).fr f43 (fun k hk bG=>B4 k (.inl (by simp [bG])) hk)
 have Qe:=(B3.fr f12 (by simp)).fr f43 (fun k hk bG=>bE.2.2.2 k (.inr bG) k hk rfl)
 have K6: ∀k∈b :: (zX++oa++jS),k < w6.heap.size:=fun k hk=>by
  simp only [af1,afB] at hk
  have e4:=f4.size;have e6:=f12.size
  rcases hk with rfl | (hk | hk) | hk
  ·have:=Ha k (by simp);omega
  ·have:=Rs.lt k hk;omega
  ·have:=Ha k (by simp [hk]);omega
  ·have:=Ha k (by simp [hk]);omega
 have ha6:a < w6.heap.size:=by have e4:=f4.size;have e6:=f12.size;omega
 have hoa: ∀k∈Vw,k∈oa \/ w6.heap.size<=k:=fun k hk=>by
  rcases Tj with rfl | ⟨n,h1,_,rfl⟩
  ·exact .inl hk
  ·simp at hk;subst hk;exact .inr h1
 have Hc: ∀k,k∈b :: (zX++jS) \/ k=a->k ∉ Vw:=fun k hk bG=>by
  rcases hoa k bG with h1 | h1
  ·rcases hk with hk | rfl
   ·simp only [af1,afB] at hk
    rcases hk with rfl | hk | hk
    ·exact bE.1.1.2 h1
    ·exact B4 k (.inl (by simp [h1])) hk
    ·exact bE.2.2.2 k (.inr h1) k hk rfl
   ·exact Bd k (by simp [h1]) rfl
  ·rcases hk with hk | rfl
   ·have:=K6 k (by simp only [af1,afB] at hk ⊢;rcases hk with h | h | h <;> simp [h])
    omega
   ·omega
 refine Bx Qd (by simp) rfl fun w8 K7 f62 s8=>?_
 have Yv:=Yu.fr f62 (by simp;exact fun e=>Bd b (by simp) e.symm)
 have hg8:=Te.fr f62 (by intro k hk;simp;rintro rfl;exact B4 k (.inl (by simp)) hk)
 have Yw:=G7.fr f62 (by intro k hk;simp;rintro rfl;exact Hc k (.inl (by simp)) hk)
 have Yx:=Qe.fr f62 (by intro k hk;simp;rintro rfl;exact bE.1.2 hk)
 refine mf (k:=.sl) (x:=s') K7 rfl ?_
 have eQ:s'.len=m.ah.length+1:=by have:=Mj.len;rw [eJ] at this;simpa using this.symm
 rw [aB (by omega) (by omega)]
 refine st (o:=0) Yv (by simp) rfl fun w9 Qf f48 s9=>?_
 refine Bx Qf (by simp) rfl fun pj zY f59 SH=>?_
 refine ld (k:=.i .i64) zY rfl ?_
 refine mf (k:=.i .i64) zY rfl ?_
 have Hd:Fr [a] w8 pj:=f48.trans f59 (by simp)
 have e:((s'.len:Int) - 1)=(m.ah.length:Int):=by omega
 rw [e]
 have e1:=f1.size;have e2:=f2.size;have e3:=f3.size;have e4:=f4.size;have e5:=f5.size;have e6:=f12.size;have e7:=f43.size
 refine hK pj (b :: (zX++Vw++jS)) ?_ ?_ ?_
 ·refine⟨s',s2',sf,zX,Vw,jS,?_,?_,?_,?_,rfl,?_⟩
  ·have:=K7.fr Hd (by simp;exact Bd b (by simp))
   simpa [af.cV] using this
  ·have:=hg8.fr Hd (by intro k hk;simp;rintro rfl;exact B4 k (.inr rfl) hk)
   simpa [af.cV] using this
  ·have:=Yw.fr Hd (by intro k hk;simp;rintro rfl;exact Hc k (.inr rfl) hk)
   simpa [af.cV] using this
  ·have:=Yx.fr Hd (by intro k hk;simp;exact Bd k (by simp [hk]))
   simpa [af.cV] using this
  ·simp only [ags,afB,ago,not_or]
   refine⟨⟨⟨B4 b (.inl (by simp)),Hc b (.inl (by simp))⟩,bE.1.2⟩,⟨?_,?_,?_⟩,bE.2.2.1,?_⟩
   ·rcases Ti with rfl | ⟨n,_,_,rfl⟩
    ·exact bE.2.1.1
    ·simp
   ·rcases Tj with rfl | ⟨n,_,_,rfl⟩
    ·exact bE.2.1.2.1
    ·simp
   ·rintro x hx y hy rfl;exact Hc x (.inl (by simp [hx])) hy
   ·rintro x (hx | hx) y hy rfl
    ·exact B4 x (.inl (by simp [hy])) hx
    ·exact Hc x (.inl (by simp [hy])) hx
 ·intro k hk
  simp only [af1,afB] at hk
  rcases hk with rfl | (hk | hk) | hk
  ·left;simp
  ·rcases Rt k hk with h1 | h1
   ·left;simp [h1]
   ·right;omega
  ·rcases hoa k hk with h1 | h1
   ·left;simp [h1]
   ·right;omega
  ·left;simp [hk]
 ·have dw:w.heap.size<=a:=by omega
  refine((((((((f1.mono (S':=b :: (og++oa++jS)) (by simp)).trans f2 (by simp)).trans f3 (by simp)).trans f4 (fun k hk=>.inl (by simp [hk]))).trans f5 (by simp)).trans f12 (by simp)).trans f43 (fun k hk=>.inl (by simp [hk]))).trans f62 (by simp)).trans Hd (by simp;omega)
theorem En {b:Nat} {w:World} {m:af} {O:List Nat} {K:Int->Int->Int->World->Prop} (h:cF w b m O) (hf:m.free= []) (hl:(m.ah.length:Int)=m.aA)
  (hK: ∀w',Fr [] w w'->K 0 0 40 w'):
  Rn (some ⟨b,0,none⟩) w K:=by
 refine BJ ?_
 unfold f58
 simp only [fq]
 refine nw fun a w1 ha zp f1 s1=>?_
 have h1:=h.fr f1 (by simp)
 obtain⟨sg,sa,sf,og,oa,jS,j7,hg,gI,eN,rfl,bE⟩:=h1
 refine mf (k:=.sl) (x:=sf) j7 rfl ?_
 have ee:=eN.len
 rw [hf,eJ] at ee
 rw [if_neg (by simp at ee;simp;omega)]
 refine dr fun w2 f2 s2 Tg=>?_
 have p7:=Tg _ _ _ zp
 have p5:=Tg _ _ _ j7
 refine mf (k:=.sl) (x:=sg) p5 rfl ?_
 refine ld (k:=.i .i64) (x:=m.aA) p5 rfl ?_
 have sB:=hg.len
 rw [eJ] at sB
 rw [if_pos (by simp;omega)]
 refine st (o:=0) p7 (by simp) rfl fun w9 Qf f48 s9=>?_
 refine Bx Qf (by simp) rfl fun pj zY f59 SH=>?_
 refine ld (k:=.i .i64) zY rfl ?_
 refine mf (k:=.i .i64) zY rfl ?_
 exact hK pj (((f1.trans f2 (by simp)).trans f48 (by simp;omega)).trans f59 (by simp;omega))
end Go.Proofs.YtcccjgmekakabaaGreat.FI
end
