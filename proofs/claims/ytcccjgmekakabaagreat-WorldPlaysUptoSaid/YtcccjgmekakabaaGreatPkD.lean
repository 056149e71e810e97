/-
  Part 4 of the proof:WorldPlays of layer 6 is true of the given program for every input that its guards let in (of bulk at most 1048576).
-/
import Derived.Test.YtcccjgmekakabaaGreatPkC
import Derived.MapKept
import Derived.Laws.Externs
import Derived.Lib.Overlaps
import Derived.Lib.AppendZerosOnto
import Derived.Lib.AppendStr
import Derived.Lib.ConvBytes
set_option linter.unusedSimpArgs false
set_option linter.unusedVariables false
set_option maxRecDepth 100000
open Go.IntKind (i64 u64 u8)
section
namespace Go.Den
open Go.RowKit
structure aa where
 holds:World->List Nat->Prop
 fr: ∀{S:List Nat} {w w':World} {O:List Nat},holds w O->Fr S w w'->(∀k∈O,k ∉ S)->holds w' O
 lt: ∀{w:World} {O:List Nat},holds w O-> ∀k∈O,k < w.heap.size
 own:Bool:=true
def aa.ro (t:aa):aa:={ t with own:=false}
structure Hp (S:List Nat) (w0 w:World) (ae:List aa):Prop where
 fr:Fr S w0 w
 ex: ∃F:Nat->List Nat,(∀i t,ae[i]? =some t->t.holds w (F i) /\ (t.own=true-> ∀k∈F i,k∈S \/ w0.heap.size<=k) /\ (t.own=false-> ∀k∈F i,k ∉ S /\ k < w0.heap.size)) /\
  ∀i j t u,ae[i]? =some t->ae[j]? =some u->i≠j->t.own=true->u.own=true-> ∀k∈F i,k ∉ F j
namespace Hp
variable {S:List Nat} {w0 w:World} {ae:List aa}
theorem init (w:World):Hp S w w []:=⟨Fr.refl _ _,fun _=> [],by simp,by simp⟩
theorem grow (h:Hp S w0 w ae) {w':World} {t:aa} {O:List Nat} (hf:Fr [] w w') (ht:t.holds w' O) (hO: ∀k∈O,w.heap.size<=k) (ho:t.own=true):Hp S w0 w' (ae++ [t]):=by
 obtain⟨fk,F,h1,h2⟩:=h;have hs:=fk.size;have key: ∀i u,(ae++ [t])[i]? =some u->(i < ae.length /\ ae[i]? =some u) \/ (i=ae.length /\ u=t):=by
  intro i u hi;by_cases av:i < ae.length
  ·rw [ak9 av] at hi;exact .inl ⟨av,hi⟩
  ·rw [ak8 (by omega)] at hi;have:i - ae.length=0:=by
    rcases amL (i - ae.length) with h | h
    ·exact h
    ·rw [alE (by simp;omega)] at hi;cases hi
   rw [this] at hi;simp only [alo,ald] at hi;exact .inr ⟨by omega,hi.symm⟩
 refine⟨fk.trans hf (by simp),fun i=>if i=ae.length then O else F i,?_,?_⟩
 ·intro i u hi
  rcases key i u hi with ⟨av,hY⟩ | ⟨rfl,rfl⟩
  ·dsimp only;rw [if_neg (by omega)];obtain⟨g1,g2,g3⟩:=h1 i u hY;exact⟨u.fr g1 hf (by simp),g2,g3⟩
  ·dsimp only;rw [if_pos rfl];exact⟨ht,fun _ k hk=>.inr (amO hs (hO k hk)),fun h=>by rw [ho] at h;cases h⟩
 ·intro i j u v hi hj aW hu hv k hk
  rcases key i u hi with ⟨av,hY⟩ | ⟨rfl,rfl⟩
  ·rcases key j v hj with ⟨nc,eA⟩ | ⟨rfl,rfl⟩
   ·simp only [if_neg (show ¬i=ae.length by omega),if_neg (show ¬j=ae.length by omega)] at hk ⊢;exact h2 i j u v hY eA aW hu hv k hk
   ·simp only [if_neg (show ¬i=ae.length by omega),if_true] at hk ⊢;intro bL;have:=u.lt (h1 i u hY).1 k hk;have:=hO k bL;omega
  ·rcases key j v hj with ⟨nc,eA⟩ | ⟨rfl,rfl⟩
   ·simp only [if_neg (show ¬j=ae.length by omega),if_true] at hk ⊢;intro bL;have:=v.lt (h1 j v eA).1 k bL;have:=hO k hk;omega
   ·exact absurd rfl aW
theorem cn (h:Hp S w0 w ae) {w':World} (hf:Fr [] w w'):Hp S w0 w' ae:=by
 obtain⟨fk,F,h1,h2⟩:=h;exact⟨fk.trans hf (by simp),F,fun i t hi=>⟨t.fr (h1 i t hi).1 hf (by simp),(h1 i t hi).2⟩,h2⟩
theorem step (h:Hp S w0 w ae) {i:Nat} {t:aa} (hi:ae[i]? =some t) (ho:t.own=true):
  ∃O,t.holds w O /\ ∀{w':World} {t':aa} {O':List Nat},Fr O w w'->t'.holds w' O'->(∀k∈O',k∈O \/ w.heap.size<=k)->t'.own=true->Hp S w0 w' (ae.set i t'):=by
 obtain⟨fk,F,h1,h2⟩:=h;obtain⟨g1,g2,g3⟩:=h1 i t hi;refine⟨F i,g1,fun{w' t' O'} hf BM gD mI=>?_⟩;have av:=(ak6.1 hi).1;have key: ∀j u,(ae.set i t')[j]? =some u->(j≠i /\ ae[j]? =some u) \/ (j=i /\ u=t'):=by
  intro j u hj;rw [alN] at hj
  split at hj
  ·rename_i e
   simp only [if_pos av,ald] at hj;exact .inr ⟨e.symm,hj.symm⟩
  ·rename_i e;exact .inl ⟨fun h=>e h.symm,hj⟩
 have hs:=fk.size;have apart: ∀j u,j≠i->ae[j]? =some u-> ∀k∈F j,k ∉ F i:=by
  intro j u aW hj k hk Ih
  cases A9:u.own with
  | true=>exact h2 j i u t hj hi aW A9 ho k hk Ih
  | false=>
   obtain⟨_,q2,q3⟩:=h1 j u hj;have q:=q3 A9 k hk
   rcases g2 ho k Ih with h | h
   ·exact q.1 h
   ·omega
 refine⟨fk.trans hf (g2 ho),fun j=>if j=i then O' else F j,?_,?_⟩
 ·intro j u hj
  rcases key j u hj with ⟨aW,GY⟩ | ⟨rfl,rfl⟩
  ·dsimp only;rw [if_neg aW];obtain⟨q1,q2⟩:=h1 j u GY;exact⟨u.fr q1 hf (apart j u aW GY),q2⟩
  ·dsimp only;rw [if_pos rfl];refine⟨BM,fun _ k hk=>?_,fun h=>by rw [mI] at h;cases h⟩
   rcases gD k hk with h | h
   ·exact g2 ho k h
   ·exact .inr (amO hs h)
 ·intro j j' u v hj eA aW hu hv k hk
  rcases key j u hj with ⟨hn,GY⟩ | ⟨rfl,rfl⟩
  ·rcases key j' v eA with ⟨lC,vv⟩ | ⟨rfl,rfl⟩
   ·simp only [if_neg hn,if_neg lC] at hk ⊢;exact h2 j j' u v GY vv aW hu hv k hk
   ·simp only [if_neg hn,if_true] at hk ⊢;intro bL
    rcases gD k bL with h | h
    ·exact apart j u hn GY k hk h
    ·have:=u.lt (h1 j u GY).1 k hk;omega
  ·rcases key j' v eA with ⟨lC,vv⟩ | ⟨rfl,rfl⟩
   ·simp only [if_neg lC,if_true] at hk ⊢;intro bL
    rcases gD k hk with h | h
    ·exact apart j' v lC vv k bL h
    ·have:=v.lt (h1 j' v vv).1 k bL;omega
   ·exact absurd rfl aW
theorem kY (h:Hp S w0 w ae) {i:Nat} {t:aa} (hi:ae[i]? =some t): ∃O,t.holds w O:=by
 obtain⟨fk,F,h1,h2⟩:=h;exact⟨_,(h1 i t hi).1⟩
theorem rP (h:Hp S w0 w ae) {i:Nat} {t:aa} (hi:ae[i]? =some t) (ho:t.own=true) {t':aa} (himp: ∀w O,t.holds w O->t'.holds w O) (mI:t'.own=true):Hp S w0 w (ae.set i t'):=by
 obtain⟨O,hO,back⟩:=h.step hi ho;exact back (Fr.refl _ _) (himp _ _ hO) (fun k hk=>.inl hk) mI
theorem dC (h:Hp S w0 w ae) {t:aa} {O:List Nat} (ht:t.holds w0 O) (hO: ∀k∈O,k ∉ S):Hp S w0 w (ae++ [t.ro]):=by
 obtain⟨fk,F,h1,h2⟩:=h;have key: ∀i u,(ae++ [t.ro])[i]? =some u->(i < ae.length /\ ae[i]? =some u) \/ (i=ae.length /\ u=t.ro):=by
  intro i u hi;by_cases av:i < ae.length
  ·rw [ak9 av] at hi;exact .inl ⟨av,hi⟩
  ·rw [ak8 (by omega)] at hi;have:i - ae.length=0:=by
    rcases amL (i - ae.length) with h | h
    ·exact h
    ·rw [alE (by simp;omega)] at hi;cases hi
   rw [this] at hi;simp only [alo,ald] at hi;exact .inr ⟨by omega,hi.symm⟩
 refine⟨fk,fun i=>if i=ae.length then O else F i,?_,?_⟩
 ·intro i u hi
  rcases key i u hi with ⟨av,hY⟩ | ⟨rfl,rfl⟩
  ·dsimp only;rw [if_neg (by omega)];exact h1 i u hY
  ·dsimp only;rw [if_pos rfl];exact⟨t.fr ht fk hO,fun h=>(by cases h),fun _ k hk=>⟨hO k hk,t.lt ht k hk⟩⟩
 ·intro i j u v hi hj aW hu hv k hk
  rcases key i u hi with ⟨av,hY⟩ | ⟨rfl,rfl⟩
  ·rcases key j v hj with ⟨nc,eA⟩ | ⟨rfl,rfl⟩
   ·simp only [if_neg (show ¬i=ae.length by omega),if_neg (show ¬j=ae.length by omega)] at hk ⊢;exact h2 i j u v hY eA aW hu hv k hk
   ·cases hv
  ·cases hu
theorem JS (h:Hp S w0 w ae) (js:List Nat) (bJ:js.Nodup) {ts:List aa} (hl:ts.length=js.length) (Mw: ∀n j:Nat,js[n]? =some j->ae[j]? =ts[n]?):Hp S w0 w ts:=by
 obtain⟨fk,F,h1,h2⟩:=h;have key: ∀(n:Nat) (t:aa),ts[n]? =some t-> ∃j,js[n]? =some j /\ ae[j]? =some t:=by
  intro n t hn;have av:=(ak6.1 hn).1;refine⟨js[n],by simp [show n < js.length by omega],?_⟩;rw [Mw n js[n] (by simp [show n < js.length by omega]),hn]
 refine⟨fk,fun n=>F (js.getD n 0),?_,?_⟩
 ·intro n t hn;obtain⟨j,hj,ht⟩:=key n t hn;have e:js.getD n 0=j:=by simp [hj]
  simp only [e];exact h1 j t ht
 ·intro n m t u hn hm aW ht hu;obtain⟨j,hj,hjt⟩:=key n t hn;obtain⟨j',eA,Uy⟩:=key m u hm;have e:js.getD n 0=j:=by simp [hj]
  have e':js.getD m 0=j':=by simp [eA]
  simp only [e,e'];refine h2 j j' t u hjt Uy ?_ ht hu;intro he;subst he;exact aW ((amh (by obtain⟨h,_⟩:=ak6.1 hj;exact h) bJ).1 (hj.trans eA.symm))
theorem rQ (h:Hp S w0 w ae) (i:Nat) {t:aa} (hi:ae[i]? =some t):Hp S w0 w [t]:=
 h.JS [i] (by simp) rfl (fun n j hn=>by
  match n,hn with
  | 0,hn=>simp only [alo,ald] at hn;subst hn;simpa using hi)
theorem Uz (h:Hp S w0 w ae) (i j:Nat) (aW:i≠j) {t u:aa} (hi:ae[i]? =some t) (hj:ae[j]? =some u):Hp S w0 w [t,u]:=
 h.JS [i,j] (by simp [aW]) rfl (fun n m hn=>by
  match n,hn with
  | 0,hn=>simp only [alo,ald] at hn;subst hn;simpa using hi
  | 1,hn=>simp only [alP,alo,ald] at hn;subst hn;simpa using hj)
theorem XG (h:Hp S w0 w ae) (i j k:Nat) (aW: [i,j,k].Nodup) {t u v:aa} (hi:ae[i]? =some t) (hj:ae[j]? =some u) (hk:ae[k]? =some v):Hp S w0 w [t,u,v]:=
 h.JS [i,j,k] aW rfl (fun n m hn=>by
  match n,hn with
  | 0,hn=>simp only [alo,ald] at hn;subst hn;simpa using hi
  | 1,hn=>simp only [alP,alo,ald] at hn;subst hn;simpa using hj
  | 2,hn=>simp only [alP,alo,ald] at hn;subst hn;simpa using hk)
theorem GZ (h:Hp S w0 w ae) (i j k l:Nat) (aW: [i,j,k,l].Nodup) {t u v x:aa} (hi:ae[i]? =some t) (hj:ae[j]? =some u) (hk:ae[k]? =some v) (hl:ae[l]? =some x):Hp S w0 w [t,u,v,x]:=
 h.JS [i,j,k,l] aW rfl (fun n m hn=>by
  match n,hn with
  | 0,hn=>simp only [alo,ald] at hn;subst hn;simpa using hi
  | 1,hn=>simp only [alP,alo,ald] at hn;subst hn;simpa using hj
  | 2,hn=>simp only [alP,alo,ald] at hn;subst hn;simpa using hk
  | 3,hn=>simp only [alP,alo,ald] at hn;subst hn;simpa using hl)
theorem Ap (h:Hp S w0 w ae) (i j k l m:Nat) (aW: [i,j,k,l,m].Nodup) {t u v x y:aa} (hi:ae[i]? =some t) (hj:ae[j]? =some u) (hk:ae[k]? =some v) (hl:ae[l]? =some x) (hm:ae[m]? =some y):Hp S w0 w [t,u,v,x,y]:=
 h.JS [i,j,k,l,m] aW rfl (fun n m hn=>by
  match n,hn with
  | 0,hn=>simp only [alo,ald] at hn;subst hn;simpa using hi
  | 1,hn=>simp only [alP,alo,ald] at hn;subst hn;simpa using hj
  | 2,hn=>simp only [alP,alo,ald] at hn;subst hn;simpa using hk
  | 3,hn=>simp only [alP,alo,ald] at hn;subst hn;simpa using hl
  | 4,hn=>simp only [alP,alo,ald] at hn;subst hn;simpa using hm)
theorem XH (h:Hp S w0 w ae) (i j k l m o:Nat) (aW: [i,j,k,l,m,o].Nodup) {t u v x y z:aa} (hi:ae[i]? =some t) (hj:ae[j]? =some u) (hk:ae[k]? =some v) (hl:ae[l]? =some x) (hm:ae[m]? =some y) (ho:ae[o]? =some z):Hp S w0 w [t,u,v,x,y,z]:=
 h.JS [i,j,k,l,m,o] aW rfl (fun n m hn=>by
  match n,hn with
  | 0,hn=>simp only [alo,ald] at hn;subst hn;simpa using hi
  | 1,hn=>simp only [alP,alo,ald] at hn;subst hn;simpa using hj
  | 2,hn=>simp only [alP,alo,ald] at hn;subst hn;simpa using hk
  | 3,hn=>simp only [alP,alo,ald] at hn;subst hn;simpa using hl
  | 4,hn=>simp only [alP,alo,ald] at hn;subst hn;simpa using hm
  | 5,hn=>simp only [alP,alo,ald] at hn;subst hn;simpa using ho)
theorem front {a b:List aa} (h:Hp S w0 w (a++b)):Hp S w0 w a:=by
 obtain⟨fk,F,h1,h2⟩:=h;have key: ∀(i:Nat) (t:aa),a[i]? =some t->(a++b)[i]? =some t:=fun i t hi=>by
  rw [ak9 (ak6.1 hi).1];exact hi
 exact⟨fk,F,fun i t hi=>h1 i t (key i t hi),fun i j t u hi hj=>h2 i j t u (key i t hi) (key j u hj)⟩
def rR (ae:List aa):List Nat->List aa->List aa
 | i :: is,t :: ts=>rR (ae.set i t) is ts
 | _,_=>ae
theorem uO: ∀(is:List Nat) (ts ae:List aa),(rR ae is ts).length=ae.length
 | [],_,_=>by simp [rR]
 | i :: is,[],_=>by simp [rR]
 | i :: is,t :: ts,ae=>by simp [rR,uO is ts]
theorem qK: ∀(is:List Nat) (ts ae:List aa) (j:Nat),j ∉ is->(rR ae is ts)[j]? =ae[j]?
 | [],_,_,_,_=>by simp [rR]
 | i :: is,[],_,_,_=>by simp [rR]
 | i :: is,t :: ts,ae,j,h=>by
  simp only [alF,not_or] at h;rw [rR,qK is ts _ j h.2,alC (fun e=>h.1 e.symm)]
theorem FJ: ∀(is:List Nat) (ts ae:List aa) (n j:Nat),is.Nodup->is[n]? =some j->j < ae.length->n < ts.length->(rR ae is ts)[j]? =ts[n]?
 | [],_,_,_,_,_,h,_,_=>by simp at h
 | i :: is,[],_,n,_,_,_,_,h=>by simp at h
 | i :: is,t :: ts,ae,n,j,bJ,hn,hj,hl=>by
  obtain⟨h1,h2⟩:=al6.1 bJ
  cases n with
  | zero=>
   simp only [alo,ald] at hn;subst hn;rw [rR,qK is ts _ i h1];simp [hj]
  | succ n=>
   simp only [alP] at hn ⊢;rw [rR];exact FJ is ts _ n j h2 hn (by simpa using hj) (by simpa using hl)
theorem frame (h:Hp S w0 w ae) (is js:List Nat) (bJ:is.Nodup) (JT: ∀i∈is,i ∉ js) {ts us:List aa} (hl:ts.length=is.length) (dQ:us.length=js.length)
  (Mw: ∀n i:Nat,is[n]? =some i->ae[i]? =ts[n]?) (Eg: ∀n i:Nat,js[n]? =some i->ae[i]? =us[n]?) (XI: ∀t∈ts,t.own=true):
  ∃O,Hp O w w (ts++us.map aa.ro) /\ ∀{w':World} {ts' rest:List aa},ts'.length=ts.length->(∀t∈ts',t.own=true)->(∀t∈rest,t.own=true)->Hp O w w' (ts'++rest)->Hp S w0 w' (rR ae is ts'++rest):=by
 obtain⟨fk,F,h1,h2⟩:=h;have hs:=fk.size;have key: ∀(n:Nat) (t:aa),ts[n]? =some t-> ∃j,is[n]? =some j /\ ae[j]? =some t:=by
  intro n t hn;have av:=(ak6.1 hn).1;refine⟨is[n],by simp [show n < is.length by omega],?_⟩;rw [Mw n is[n] (by simp [show n < is.length by omega]),hn]
 have ac7: ∀(n:Nat) (t:aa),us[n]? =some t-> ∃j,js[n]? =some j /\ ae[j]? =some t:=by
  intro n t hn;have av:=(ak6.1 hn).1;refine⟨js[n],by simp [show n < js.length by omega],?_⟩;rw [Eg n js[n] (by simp [show n < js.length by omega]),hn]
 have JU: ∀i∈is,∃t,ae[i]? =some t /\ t.own=true:=by
  intro i hi;obtain⟨n,hn⟩:=aly hi;have av:=(ak6.1 hn).1;have hnt:ts[n]? =some ts[n]:=by simp [show n < ts.length by omega]
  exact⟨ts[n],(Mw n i hn).trans hnt,XI _ (by simp)⟩
 have hO: ∀k,k∈is.flatMap F↔ ∃i∈is,k∈F i:=fun k=>amt
 -- who is not among them has other blocks
 have apart: ∀j u,ae[j]? =some u->j ∉ is-> ∀k∈F j,k ∉ is.flatMap F:=by
  intro j u hj Fw k hk hkO;obtain⟨i,hi,Ih⟩:=(hO k).1 hkO;obtain⟨t,ht,UA⟩:=JU i hi;have aW:j≠i:=fun e=>Fw (e ▸ hi)
  cases A9:u.own with
  | true=>exact h2 j i u t hj ht aW A9 UA k hk Ih
  | false=>
   have q:=(h1 j u hj).2.2 A9 k hk
   rcases(h1 i t ht).2.1 UA k Ih with h | h
   ·exact q.1 h
   ·omega
 refine⟨is.flatMap F,⟨Fr.refl _ _,fun n=>if n < ts.length then F (is.getD n 0) else F (js.getD (n - ts.length) 0),?_,?_⟩,?_⟩
 ·intro n t hn;by_cases av:n < ts.length
  ·rw [ak9 av] at hn;obtain⟨j,hj,ht⟩:=key n t hn;have e:is.getD n 0=j:=by simp [hj]
   simp only [if_pos av,e];refine⟨(h1 j t ht).1,fun _ k hk=>.inl ((hO k).2 ⟨j,ala hj,hk⟩),fun ho=>?_⟩;rw [XI t (ala hn)] at ho;cases ho
  ·rw [ak8 (by omega),alc,alH] at hn;obtain⟨u,hu,rfl⟩:=hn;obtain⟨j,hj,ht⟩:=ac7 _ u hu;have e:js.getD (n - ts.length) 0=j:=by simp [hj]
   simp only [if_neg av,e];refine⟨(h1 j u ht).1,fun h=>(by cases h),fun _ k hk=>⟨apart j u ht (fun hm=>JT j hm (ala hj)) k hk,u.lt (h1 j u ht).1 k hk⟩⟩
 ·intro n m t u hn hm aW ht hu k hk;have low: ∀n t,(ts++us.map aa.ro)[n]? =some t->t.own=true->n < ts.length:=by
   intro n t hn ht;refine anY fun lK=>?_;rw [ak8 lK,alc,alH] at hn;obtain⟨u,hu,rfl⟩:=hn
   cases ht
  have ln:=low n t hn ht;have lm:=low m u hm hu;rw [ak9 ln] at hn;rw [ak9 lm] at hm;obtain⟨j,hj,hjt⟩:=key n t hn;obtain⟨j',eA,Uy⟩:=key m u hm;have e:is.getD n 0=j:=by simp [hj]
  have e':is.getD m 0=j':=by simp [eA]
  simp only [if_pos ln,if_pos lm,e,e'] at hk ⊢;refine h2 j j' t u hjt Uy ?_ ht hu k hk;intro he;subst he;exact aW ((amh (by obtain⟨h,_⟩:=ak6.1 hj;exact h) bJ).1 (hj.trans eA.symm))
 ·intro w' ts' rest hlen XJ gH hp;obtain⟨pfr,G,p1,p2⟩:=hp
  -- the things of the rest of the world
  have lL: ∀n,n < ts.length-> ∃j t,is[n]? =some j /\ ts'[n]? =some t:=fun n hn=>
   ⟨is[n],ts'[n],by simp [show n < is.length by omega],by simp [show n < ts'.length by omega]⟩
  let idx:Nat->Nat:=fun j=>is.idxOf j
  have lE: ∀j∈is,is[is.idxOf j]? =some j:=fun j hj=>by
   have:=ano.2 hj;simp [this]
  have XK:=uO is ts' ae
  let G':Nat->List Nat:=fun j=>if j < ae.length then (if j∈is then G (is.idxOf j) else F j) else G (ts'.length+(j - ae.length))
  have cls: ∀j u,(rR ae is ts'++rest)[j]? =some u->(j < ae.length /\ j∈is /\ u.own=true /\ u.holds w' (G (is.idxOf j)) /\ (∀k∈G (is.idxOf j),k∈is.flatMap F \/ w.heap.size<=k) /\ (ts'++rest)[is.idxOf j]? =some u) \/
    (j < ae.length /\ j ∉ is /\ ae[j]? =some u) \/ (ae.length<=j /\ u.own=true /\ (ts'++rest)[ts'.length+(j - ae.length)]? =some u):=by
   intro j u hj;by_cases av:j < ae.length
   ·rw [ak9 (by omega)] at hj;by_cases hm:j∈is
    ·refine .inl ⟨av,hm,?_⟩;have hi:=lE j hm;have jD:is.idxOf j < ts'.length:=by have:=ano.2 hm;omega
     rw [FJ is ts' ae _ j bJ hi av jD] at hj;have Ah:(ts'++rest)[is.idxOf j]? =some u:=by
      rw [ak9 jD];exact hj
     have hu:=XJ u (ala hj);obtain⟨q1,q2,_⟩:=p1 _ u Ah;exact⟨hu,q1,q2 hu,Ah⟩
    ·rw [qK is ts' ae j hm] at hj;exact .inr (.inl ⟨av,hm,hj⟩)
   ·rw [ak8 (by omega),XK] at hj;refine .inr (.inr ⟨by omega,gH u (ala hj),?_⟩);rw [ak8 (by omega),amn];exact hj
  have Aq: ∀k,k∈is.flatMap F->k∈S \/ w0.heap.size<=k:=by
   intro k hk;obtain⟨i,hi,Ih⟩:=(hO k).1 hk;obtain⟨t,ht,UA⟩:=JU i hi;exact(h1 i t ht).2.1 UA k Ih
  refine⟨fk.trans pfr Aq,G',?_,?_⟩
  ·intro j u hj
   rcases cls j u hj with ⟨av,hm,hu,q1,q2,_⟩ | ⟨av,hm,eA⟩ | ⟨lK,hu,eA⟩
   ·have e:G' j=G (is.idxOf j):=by simp only [G',if_pos av,if_pos hm]
    rw [e];refine⟨q1,fun _ k hk=>?_,fun h=>by rw [hu] at h;cases h⟩
    rcases q2 k hk with h | h
    ·exact Aq k h
    ·exact .inr (amO hs h)
   ·have e:G' j=F j:=by simp only [G',if_pos av,if_neg hm]
    rw [e];obtain⟨q1,q2⟩:=h1 j u eA;exact⟨u.fr q1 pfr (apart j u eA hm),q2⟩
   ·have e:G' j=G (ts'.length+(j - ae.length)):=by simp only [G',if_neg (show ¬j < ae.length by omega)]
    rw [e];obtain⟨q1,q2,_⟩:=p1 _ u eA;refine⟨q1,fun _ k hk=>?_,fun h=>by rw [hu] at h;cases h⟩
    rcases q2 hu k hk with h | h
    ·exact Aq k h
    ·exact .inr (amO hs h)
  ·intro i j t u hi hj aW ht hu k hk bL
   rcases cls i t hi with ⟨av,hm,UA,q1,q2,q3⟩ | ⟨av,hm,hY⟩ | ⟨lK,UA,hY⟩
   ·have e:G' i=G (is.idxOf i):=by simp only [G',if_pos av,if_pos hm]
    rw [e] at hk
    rcases cls j u hj with ⟨nc,gG,A9,r1,r2,r3⟩ | ⟨nc,gG,eA⟩ | ⟨R0,A9,eA⟩
    ·have e':G' j=G (is.idxOf j):=by simp only [G',if_pos nc,if_pos gG]
     rw [e'] at bL;refine p2 _ _ t u q3 r3 ?_ ht hu k hk bL;intro he;have a1:=lE i hm;have a2:=lE j gG;rw [he] at a1;exact aW (alm (a1.symm.trans a2))
    ·have e':G' j=F j:=by simp only [G',if_pos nc,if_neg gG]
     rw [e'] at bL
     rcases q2 k hk with h | h
     ·exact apart j u eA gG k bL h
     ·have:=u.lt (h1 j u eA).1 k bL;omega
    ·have e':G' j=G (ts'.length+(j - ae.length)):=by simp only [G',if_neg (show ¬j < ae.length by omega)]
     rw [e'] at bL;have:=ano.2 hm;exact p2 _ _ t u q3 eA (by omega) ht hu k hk bL
   ·have e:G' i=F i:=by simp only [G',if_pos av,if_neg hm]
    rw [e] at hk
    rcases cls j u hj with ⟨nc,gG,A9,r1,r2,r3⟩ | ⟨nc,gG,eA⟩ | ⟨R0,A9,eA⟩
    ·have e':G' j=G (is.idxOf j):=by simp only [G',if_pos nc,if_pos gG]
     rw [e'] at bL
     rcases r2 k bL with h | h
     ·exact apart i t hY hm k hk h
     ·have:=t.lt (h1 i t hY).1 k hk;omega
    ·have e':G' j=F j:=by simp only [G',if_pos nc,if_neg gG]
     rw [e'] at bL;exact h2 i j t u hY eA aW ht hu k hk bL
    ·have e':G' j=G (ts'.length+(j - ae.length)):=by simp only [G',if_neg (show ¬j < ae.length by omega)]
     rw [e'] at bL
     rcases(p1 _ u eA).2.1 A9 k bL with h | h
     ·exact apart i t hY hm k hk h
     ·have:=t.lt (h1 i t hY).1 k hk;omega
   ·have e:G' i=G (ts'.length+(i - ae.length)):=by simp only [G',if_neg (show ¬i < ae.length by omega)]
    rw [e] at hk
    rcases cls j u hj with ⟨nc,gG,A9,r1,r2,r3⟩ | ⟨nc,gG,eA⟩ | ⟨R0,A9,eA⟩
    ·have e':G' j=G (is.idxOf j):=by simp only [G',if_pos nc,if_pos gG]
     rw [e'] at bL;have:=ano.2 gG;exact p2 _ _ t u hY r3 (by omega) ht hu k hk bL
    ·have e':G' j=F j:=by simp only [G',if_pos nc,if_neg gG]
     rw [e'] at bL
     rcases(p1 _ t hY).2.1 UA k hk with h | h
     ·exact apart j u eA gG k bL h
     ·have:=u.lt (h1 j u eA).1 k bL;omega
    ·have e':G' j=G (ts'.length+(j - ae.length)):=by simp only [G',if_neg (show ¬j < ae.length by omega)]
     rw [e'] at bL;exact p2 _ _ t u hY eA (by omega) ht hu k hk bL
end Hp
def af (b:Nat) (e:TypeId) (c:List Value):aa:=
  { holds:=fun w O=>fF w b e c /\ O= [b]
    fr:=fun h hf hn=>⟨h.1.fr hf (hn b (by rw [h.2];simp)),h.2⟩
    lt:=fun h k hk=>by rw [h.2] at hk;simp only [ali] at hk;subst hk;exact h.1.lt}
def aj {α:Type} (s:Sl) (e:TypeId) (n:Nat) (f:α->List Value) (l:List α):aa:=
  { holds:=fun w O=>cq w s e n f l O
    fr:=fun h hf hn=>h.fr hf hn
    lt:=fun h=>h.lt}
def sM {α:Type} (s:Sl) (n:Nat) (f:α->List Value) (l:List α):aa:=
  { holds:=fun w O=>bO w s n f l O
    fr:=fun h hf hn=>h.fr hf hn
    lt:=fun h=>h.lt}
def ao:aa:=
  { holds:=fun w O=>O= []
    fr:=fun h _ _=>h
    lt:=fun h k hk=>by rw [h] at hk;cases hk}
def bo (a b:aa):aa:=
  { holds:=fun w O=> ∃O1 O2,a.holds w O1 /\ b.holds w O2 /\ (∀k∈O1,k ∉ O2) /\ ∀k,k∈O↔k∈O1 \/ k∈O2
    fr:=fun⟨O1,O2,h1,h2,h3,h4⟩ hf hn=>⟨O1,O2,a.fr h1 hf (fun k hk=>hn k ((h4 k).2 (.inl hk))),b.fr h2 hf (fun k hk=>hn k ((h4 k).2 (.inr hk))),h3,h4⟩
    lt:=fun⟨O1,O2,h1,h2,h3,h4⟩ k hk=>((h4 k).1 hk).elim (a.lt h1 k) (b.lt h2 k)}
def Mx {α:Type} (f:α->aa):aa:=
  { holds:=fun w O=> ∃x,(f x).holds w O
    fr:=fun⟨x,h⟩ hf hn=>⟨x,(f x).fr h hf hn⟩
    lt:=fun⟨x,h⟩=>(f x).lt h}
def kZ (p:Prop) (t:aa):aa:=
  { holds:=fun w O=>p /\ t.holds w O
    fr:=fun⟨x,h⟩ hf hn=>⟨x,t.fr h hf hn⟩
    lt:=fun⟨x,h⟩=>t.lt h}
def ak:List aa->aa
 | []=>ao
 | t :: ts=>bo t (ak ts)
theorem aM: ∀ts:List aa,(ak ts).own=true
 | []=>rfl
 | _ :: _=>rfl
def tH (L:List Nat) (clock:Nat):Prop:=L.Nodup /\ ∀x∈L,x < clock
def XL (w:World) (b:Nat) (l:List (Value×Value)):Prop:=
 ∃es clock,w.heap[b]? =some (.map es clock) /\ es.toList.map (fun e=>(e.key,e.val))=l /\ tH (es.toList.map (·.born)) clock
def G0 (b:Nat) (l:List (Value×Value)):aa:=
  { holds:=fun w O=>XL w b l /\ O= [b]
    fr:=fun{S w w' O} h hf hn=>by
      obtain⟨⟨es,clock,h1,h2⟩,rfl⟩:=h;exact⟨⟨es,clock,(hf.block b (als.1 h1).1 (hn b (by simp))).trans h1,h2⟩,rfl⟩
    lt:=fun{w O} h k hk=>by
      obtain⟨⟨es,clock,h1,h2⟩,rfl⟩:=h;simp only [ali] at hk;subst hk;exact(als.1 h1).1}
theorem dk: ∀{ts:List aa} {k:Nat} {t:aa} {w:World} {O:List Nat},ts[k]? =some t->(ak ts).holds w O->
  ∃O1 O2,t.holds w O1 /\ (ak (ts.set k ao)).holds w O2 /\ (∀k∈O1,k ∉ O2) /\ ∀k,k∈O↔k∈O1 \/ k∈O2
 | [],k,t,w,O,hk,h=>by simp at hk
 | u :: ts,0,t,w,O,hk,h=>by
  simp only [alo,ald] at hk;subst hk;obtain⟨O1,O2,h1,h2,h3,h4⟩:=h;refine⟨O1,O2,h1,⟨[],O2,rfl,h2,by simp,by simp⟩,h3,h4⟩
 | u :: ts,k+1,t,w,O,hk,h=>by
  obtain⟨O1,O2,h1,h2,h3,h4⟩:=h;obtain⟨P1,P2,g1,g2,g3,g4⟩:=dk (k:=k) (t:=t) (by simpa using hk) h2;refine⟨P1,O1++P2,g1,⟨O1,P2,h1,g2,fun k hk bL=>h3 k hk ((g4 k).2 (.inr bL)),by simp⟩,?_,?_⟩
  ·intro k hk bL
   rcases alg.1 bL with h | h
   ·exact h3 k h ((g4 k).2 (.inl hk))
   ·exact g3 k hk h
  ·intro k;rw [h4,g4,alg];constructor
   ·rintro(h | h | h)
    ·exact .inr (.inl h)
    ·exact .inl h
    ·exact .inr (.inr h)
   ·rintro(h | h | h)
    ·exact .inr (.inl h)
    ·exact .inl h
    ·exact .inr (.inr h)
theorem BN: ∀{ts:List aa} {k:Nat} {t:aa} {w:World} {O1 O2:List Nat},ts[k]? =some ao->t.holds w O1->(ak ts).holds w O2->(∀k∈O1,k ∉ O2)->(ak (ts.set k t)).holds w (O1++O2)
 | [],k,t,w,O1,O2,hk,_,_,_=>by simp at hk
 | u :: ts,0,t,w,O1,O2,hk,h1,h2,h3=>by
  simp only [alo,ald] at hk;subst hk;obtain⟨P1,P2,g1,g2,g3,g4⟩:=h2;have g1':P1= []:=g1;subst g1';exact⟨O1,P2,h1,g2,fun k hk bL=>h3 k hk ((g4 k).2 (.inr bL)),fun k=>by rw [alg,g4];simp⟩
 | u :: ts,k+1,t,w,O1,O2,hk,h1,h2,h3=>by
  obtain⟨P1,P2,g1,g2,g3,g4⟩:=h2;have ih:=BN (k:=k) (t:=t) (by simpa using hk) h1 g2 (fun k hk bL=>h3 k hk ((g4 k).2 (.inr bL)));refine⟨P1,O1++P2,g1,ih,?_,?_⟩
  ·intro k hk bL
   rcases alg.1 bL with h | h
   ·exact h3 k h ((g4 k).2 (.inl hk))
   ·exact g3 k hk h
  ·intro k;rw [alg,g4,alg];constructor
   ·rintro(h | h | h)
    ·exact .inr (.inl h)
    ·exact .inl h
    ·exact .inr (.inr h)
   ·rintro(h | h | h)
    ·exact .inr (.inl h)
    ·exact .inl h
    ·exact .inr (.inr h)
theorem fX: ∀{ts us:List aa} {w:World} {O1 O2:List Nat},(ak ts).holds w O1->(ak us).holds w O2->(∀k∈O1,k ∉ O2)->(ak (ts++us)).holds w (O1++O2)
 | [],us,w,O1,O2,h1,h2,_=>by
  have:O1= []:=h1;subst this
  simpa using h2
 | t :: ts,us,w,O1,O2,h1,h2,h3=>by
  obtain⟨P1,P2,g1,g2,g3,g4⟩:=h1;refine⟨P1,P2++O2,g1,fX g2 h2 (fun k hk=>h3 k ((g4 k).2 (.inr hk))),?_,?_⟩
  ·intro k hk bL
   rcases alg.1 bL with h | h
   ·exact g3 k hk h
   ·exact h3 k ((g4 k).2 (.inl hk)) h
  ·intro k;rw [alg,g4,alg];exact or_assoc
namespace Hp
variable {S:List Nat} {w0 w:World} {ae:List aa}
theorem at_ {t:aa} {i:Nat} (hi:(ae[i]?).map aa.holds=some t.holds): ∃u,ae[i]? =some u /\ u.holds=t.holds:=by
 rw [alH] at hi;exact hi
theorem de (h:Hp S w0 w ae) {t:aa} {i:Nat} (hi:(ae[i]?).map aa.holds=some t.holds): ∃O,t.holds w O:=by
 obtain⟨u,h1,h2⟩:=at_ hi;obtain⟨O,hO⟩:=h.kY h1;exact⟨O,by rw [<-h2];exact hO⟩
theorem split (h:Hp S w0 w ae) {i:Nat} {a b:aa} (hi:ae[i]? =some (bo a b)) (ha:a.own=true) (hb:b.own=true):Hp S w0 w (ae.set i a++ [b]):=by
 obtain⟨fk,F,h1,h2⟩:=h;have av:=(ak6.1 hi).1;obtain⟨⟨O1,O2,g1,g2,g3,g4⟩,q1,_⟩:=h1 i _ hi;have q2: ∀k∈F i,k∈S \/ w0.heap.size<=k:=q1 rfl;clear q1;have key: ∀(j:Nat) (u:aa),(ae.set i a++ [b])[j]? =some u->(j < ae.length /\ j≠i /\ ae[j]? =some u) \/ (j=i /\ u=a) \/ (j=ae.length /\ u=b):=by
  intro j u hj;by_cases hl:j < ae.length
  ·rw [ak9 (by simpa using hl),alN] at hj
   split at hj
   ·rename_i e;simp only [if_pos av,ald] at hj;exact .inr (.inl ⟨e.symm,hj.symm⟩)
   ·rename_i e;exact .inl ⟨hl,fun h=>e h.symm,hj⟩
  ·rw [ak8 (by simp;omega)] at hj;have:j - (ae.set i a).length=0:=by
    rcases amL (j - (ae.set i a).length) with h | h
    ·exact h
    ·rw [alE (by simp only [am4];omega)] at hj;cases hj
   rw [this] at hj;simp only [alo,ald] at hj;simp only [alV] at this;exact .inr (.inr ⟨by omega,hj.symm⟩)
 let F':Nat->List Nat:=fun j=>if j=ae.length then O2 else if j=i then O1 else F j
 have e0: ∀j,j < ae.length->j≠i->F' j=F j:=fun j h1 h2=>by simp only [F',if_neg (show ¬j=ae.length by omega),if_neg h2]
 have e1:F' i=O1:=by simp only [F',if_neg (show ¬i=ae.length by omega),if_true]
 have e2:F' ae.length=O2:=by simp only [F',if_true]
 have apart: ∀j u,j≠i->ae[j]? =some u->u.own=true-> ∀k∈F j,k ∉ F i:=fun j u aW hj A9=>h2 j i u _ hj hi aW A9 rfl;refine⟨fk,F',?_,?_⟩
 ·intro j u hj
  rcases key j u hj with ⟨hl,aW,eA⟩ | ⟨rfl,rfl⟩ | ⟨rfl,rfl⟩
  ·rw [e0 j hl aW];exact h1 j u eA
  ·rw [e1];exact⟨g1,fun _ k hk=>q2 k ((g4 k).2 (.inl hk)),fun h=>by rw [ha] at h;cases h⟩
  ·rw [e2];exact⟨g2,fun _ k hk=>q2 k ((g4 k).2 (.inr hk)),fun h=>by rw [hb] at h;cases h⟩
 ·intro j j' u v hj eA aW hu hv k hk bL
  rcases key j u hj with ⟨hl,hn,GY⟩ | ⟨rfl,rfl⟩ | ⟨rfl,rfl⟩
  ·rw [e0 j hl hn] at hk
   rcases key j' v eA with ⟨dQ,lC,vv⟩ | ⟨rfl,rfl⟩ | ⟨rfl,rfl⟩
   ·rw [e0 j' dQ lC] at bL;exact h2 j j' u v GY vv aW hu hv k hk bL
   ·rw [e1] at bL;exact apart j u hn GY hu k hk ((g4 k).2 (.inl bL))
   ·rw [e2] at bL;exact apart j u hn GY hu k hk ((g4 k).2 (.inr bL))
  ·rw [e1] at hk
   rcases key j' v eA with ⟨dQ,lC,vv⟩ | ⟨rfl,rfl⟩ | ⟨rfl,rfl⟩
   ·rw [e0 j' dQ lC] at bL;exact apart j' v lC vv hv k bL ((g4 k).2 (.inl hk))
   ·exact absurd rfl aW
   ·rw [e2] at bL;exact g3 k hk bL
  ·rw [e2] at hk
   rcases key j' v eA with ⟨dQ,lC,vv⟩ | ⟨rfl,rfl⟩ | ⟨rfl,rfl⟩
   ·rw [e0 j' dQ lC] at bL;exact apart j' v lC vv hv k bL ((g4 k).2 (.inr hk))
   ·rw [e1] at bL;exact g3 k bL hk
   ·exact absurd rfl aW
theorem join (h:Hp S w0 w ae) {i j:Nat} (aW:i≠j) {a b c:aa} (hi:ae[i]? =some a) (hj:ae[j]? =some b) (ha:a.own=true) (hb:b.own=true) (hc:c.own=true)
  (himp: ∀w O1 O2,a.holds w O1->b.holds w O2->(∀k∈O1,k ∉ O2)->c.holds w (O1++O2)):Hp S w0 w ((ae.set i c).set j ao):=by
 obtain⟨fk,F,h1,h2⟩:=h;have av:=(ak6.1 hi).1;have nc:=(ak6.1 hj).1;have key: ∀(n:Nat) (u:aa),((ae.set i c).set j ao)[n]? =some u->(n≠i /\ n≠j /\ ae[n]? =some u) \/ (n=i /\ u=c) \/ (n=j /\ u=ao):=by
  intro n u hn;rw [alN] at hn
  split at hn
  ·rename_i e
   simp only [alV,if_pos nc,ald] at hn;exact .inr (.inr ⟨e.symm,hn.symm⟩)
  ·rename_i e
   rw [alN] at hn
   split at hn
   ·rename_i e'
    simp only [if_pos av,ald] at hn;exact .inr (.inl ⟨e'.symm,hn.symm⟩)
   ·rename_i e'
    exact .inl ⟨fun h=>e' h.symm,fun h=>e h.symm,hn⟩
 obtain⟨a1,a2,_⟩:=h1 i a hi;obtain⟨b1,b2,_⟩:=h1 j b hj
 let F':Nat->List Nat:=fun n=>if n=i then F i++F j else if n=j then [] else F n
 have e0: ∀n,n≠i->n≠j->F' n=F n:=fun n h1 h2=>by simp only [F',if_neg h1,if_neg h2]
 have e1:F' i=F i++F j:=by simp only [F',if_true]
 have e2:F' j= []:=by simp only [F',if_neg aW.symm,if_true]
 have dis: ∀k∈F i,k ∉ F j:=h2 i j a b hi hj aW ha hb;refine⟨fk,F',?_,?_⟩
 ·intro n u hn
  rcases key n u hn with ⟨q1,q2,lC⟩ | ⟨rfl,rfl⟩ | ⟨rfl,rfl⟩
  ·rw [e0 n q1 q2];exact h1 n u lC
  ·rw [e1];refine⟨himp w _ _ a1 b1 dis,fun _ k hk=>?_,fun h=>by rw [hc] at h;cases h⟩
   rcases alg.1 hk with hk | hk
   ·exact a2 ha k hk
   ·exact b2 hb k hk
  ·rw [e2];exact⟨rfl,by simp,by simp⟩
 ·intro n m u v hn hm yF hu hv k hk bL
  rcases key n u hn with ⟨q1,q2,lC⟩ | ⟨rfl,rfl⟩ | ⟨rfl,rfl⟩
  ·rw [e0 n q1 q2] at hk
   rcases key m v hm with ⟨r1,r2,gG⟩ | ⟨rfl,rfl⟩ | ⟨rfl,rfl⟩
   ·rw [e0 m r1 r2] at bL;exact h2 n m u v lC gG yF hu hv k hk bL
   ·rw [e1] at bL
    rcases alg.1 bL with bL | bL
    ·exact h2 n _ u a lC hi q1 hu ha k hk bL
    ·exact h2 n _ u b lC hj q2 hu hb k hk bL
   ·rw [e2] at bL;cases bL
  ·rw [e1] at hk
   rcases key m v hm with ⟨r1,r2,gG⟩ | ⟨rfl,rfl⟩ | ⟨rfl,rfl⟩
   ·rw [e0 m r1 r2] at bL
    rcases alg.1 hk with hk | hk
    ·exact h2 m _ v a gG hi r1 hv ha k bL hk
    ·exact h2 m _ v b gG hj r2 hv hb k bL hk
   ·exact absurd rfl yF
   ·rw [e2] at bL;cases bL
  ·rw [e2] at hk;cases hk
theorem aV (h:Hp S w0 w ae) {i j:Nat} (aW:i≠j) {a b:aa} (hi:ae[i]? =some a) (hj:ae[j]? =some b) (ha:a.own=true) (hb:b.own=true):Hp S w0 w ((ae.set i (bo a b)).set j ao):=
 h.join aW hi hj ha hb rfl fun w O1 O2 h1 h2 h3=>⟨O1,O2,h1,h2,h3,by simp⟩
theorem nf (h:Hp S w0 w ae) {i:Nat} {α:Type} {f:α->aa} (hi:ae[i]? =some (Mx f)) (ho: ∀x,(f x).own=true): ∃x,Hp S w0 w (ae.set i (f x)):=by
 obtain⟨O,⟨x,hO⟩,back⟩:=h.step hi rfl;exact⟨x,back (Fr.refl _ _) hO (fun k hk=>.inl hk) (ho x)⟩
theorem lp (h:Hp S w0 w ae) {i:Nat} {p:Prop} {t:aa} (hi:ae[i]? =some (kZ p t)) (ho:t.own=true):p /\ Hp S w0 w (ae.set i t):=by
 obtain⟨O,⟨x,hO⟩,back⟩:=h.step hi rfl;exact⟨x,back (Fr.refl _ _) hO (fun k hk=>.inl hk) ho⟩
theorem nH (h:Hp S w0 w ae) {i:Nat} {α:Type} {f:α->aa} (x:α) (hi:ae[i]? =some (f x)) (ho:(f x).own=true):Hp S w0 w (ae.set i (Mx f)):=
 h.rP hi ho (fun w O h=>⟨x,h⟩) rfl
theorem kq (h:Hp S w0 w ae) {i:Nat} {p:Prop} {t:aa} (hp:p) (hi:ae[i]? =some t) (ho:t.own=true):Hp S w0 w (ae.set i (kZ p t)):=
 h.rP hi ho (fun w O h=>⟨hp,h⟩) rfl
theorem pick (h:Hp S w0 w ae) {i k:Nat} {ts:List aa} {t:aa} (hi:ae[i]? =some (ak ts)) (hk:ts[k]? =some t) (ho:t.own=true):Hp S w0 w (ae.set i (ak (ts.set k ao))++ [t]):=by
 have h1:=h.rP (t':=bo (ak (ts.set k ao)) t) hi (aM ts) (fun w O hO=>by
  obtain⟨O1,O2,g1,g2,g3,g4⟩:=dk hk hO;exact⟨O2,O1,g2,g1,fun k hk bL=>g3 k bL hk,fun k=>by rw [g4];exact or_comm⟩) rfl
 have av:=(ak6.1 hi).1;have h2:=h1.split (i:=i) (a:=ak (ts.set k ao)) (b:=t) (by simp [av]) (aM _) ho
 simpa using h2
theorem iT (h:Hp S w0 w ae) {i j k:Nat} (aW:i≠j) {ts:List aa} {t:aa} (hi:ae[i]? =some (ak ts)) (hj:ae[j]? =some t) (hk:ts[k]? =some ao) (ho:t.own=true):
  Hp S w0 w ((ae.set i (ak (ts.set k t))).set j ao):=
 h.join aW hi hj (aM _) ho (aM _) fun w O1 O2 h1 h2 h3=>by
  have:=BN hk h2 h1 (fun k hk bL=>h3 k bL hk);refine(JV _ this ?_);intro k;simp [or_comm]
where
 JV (ts:List aa) {w:World} {O O':List Nat} (h:(ak ts).holds w O) (he: ∀k,k∈O↔k∈O'):(ak ts).holds w O':=by
  cases ts with
  | nil=>
   have:O= []:=h;subst this;show O'= [];apply amR.2;intro k hk;exact absurd ((he k).2 hk) (by simp)
  | cons t ts=>
   obtain⟨O1,O2,h1,h2,h3,h4⟩:=h;exact⟨O1,O2,h1,h2,h3,fun k=>by rw [<-he];exact h4 k⟩
end Hp
theorem aS {a:Addr} {K:Addr->Prop} (h:K a):NN (some a) K:=h
namespace Hp
variable {S:List Nat} {w0 w:World} {ae:List aa}
theorem oE (w:World):Hp [] w w []:=init w
theorem xk {ae:List aa} {i:Nat} {t:aa} (hi:ae[i]? =some t): ∀n j:Nat,[i][n]? =some j->ae[j]? = [t][n]? :=by
 intro n j hn
 match n,hn with
 | 0,hn=>simp only [alo,ald] at hn;subst hn;simpa using hi
theorem JW {ae:List aa} {i i':Nat} {t t':aa} (hi:ae[i]? =some t) (hY:ae[i']? =some t'): ∀n j:Nat,[i,i'][n]? =some j->ae[j]? = [t,t'][n]? :=by
 intro n j hn
 match n,hn with
 | 0,hn=>simp only [alo,ald] at hn;subst hn;simpa using hi
 | 1,hn=>simp only [alP,alo,ald] at hn;subst hn;simpa using hY
theorem JX {ae:List aa}: ∀n j:Nat,([]:List Nat)[n]? =some j->ae[j]? =([]:List aa)[n]? :=by
 intro n j hn;simp at hn
def owns (ts:List aa):Bool:=ts.all (·.own)
theorem jb {ts:List aa} (h:owns ts=true): ∀t∈ts,t.own=true:=ame.1 h
theorem f1 (h:Hp S w0 w ae) {i:Nat} {t:aa} (hi:ae[i]? =some t) (ho:t.own=true):
  ∃O,Hp O w w [t] /\ ∀{w':World} {t':aa} {rest:List aa},t'.own=true->owns rest=true->Hp O w w' (t' :: rest)->Hp S w0 w' (ae.set i t'++rest):=by
 obtain⟨O,h1,h2⟩:=h.frame [i] [] (by simp) (by simp) (ts:= [t]) (us:= []) rfl rfl (xk hi) JX (by simpa using ho);exact⟨O,by simpa using h1,fun{w' t' rest} mI hr hp=>h2 (ts':= [t']) rfl (by simpa using mI) (jb hr) (by simpa using hp)⟩
theorem XM (h:Hp S w0 w ae) {i j:Nat} (aW:i≠j) {t u:aa} (hi:ae[i]? =some t) (hj:ae[j]? =some u) (ho:t.own=true):
  ∃O,Hp O w w [t,u.ro] /\ ∀{w':World} {t':aa} {rest:List aa},t'.own=true->owns rest=true->Hp O w w' (t' :: rest)->Hp S w0 w' (ae.set i t'++rest):=by
 obtain⟨O,h1,h2⟩:=h.frame [i] [j] (by simp) (by simpa using aW) (ts:= [t]) (us:= [u]) rfl rfl (xk hi) (xk hj) (by simpa using ho);exact⟨O,by simpa using h1,fun{w' t' rest} mI hr hp=>h2 (ts':= [t']) rfl (by simpa using mI) (jb hr) (by simpa using hp)⟩
theorem XN (h:Hp S w0 w ae) {i j j':Nat} (aW:i≠j) (UB:i≠j') {t u v:aa} (hi:ae[i]? =some t) (hj:ae[j]? =some u) (eA:ae[j']? =some v) (ho:t.own=true):
  ∃O,Hp O w w [t,u.ro,v.ro] /\ ∀{w':World} {t':aa} {rest:List aa},t'.own=true->owns rest=true->Hp O w w' (t' :: rest)->Hp S w0 w' (ae.set i t'++rest):=by
 obtain⟨O,h1,h2⟩:=h.frame [i] [j,j'] (by simp) (by simp [aW,UB]) (ts:= [t]) (us:= [u,v]) rfl rfl (xk hi) (JW hj eA) (by simpa using ho);exact⟨O,by simpa using h1,fun{w' t' rest} mI hr hp=>h2 (ts':= [t']) rfl (by simpa using mI) (jb hr) (by simpa using hp)⟩
theorem r0 (h:Hp S w0 w ae) {w':World} {rest:List aa} (hr:owns rest=true) (hp:Hp [] w w' rest):Hp S w0 w' (ae++rest):=by
 obtain⟨Eh,F0,q1,q2⟩:=h;obtain⟨pf,G,p1,p2⟩:=hp;refine(⟨Eh.trans pf (by simp),fun n=>if n < ae.length then F0 n else G (n - ae.length),?_,?_⟩:Hp S w0 w' (ae++rest))
 ·intro n v hn;by_cases hl:n < ae.length
  ·rw [ak9 hl] at hn;dsimp only;rw [if_pos hl];exact⟨v.fr (q1 n v hn).1 pf (by simp),(q1 n v hn).2⟩
  ·rw [ak8 (by omega)] at hn;dsimp only;rw [if_neg hl];obtain⟨a1,a2,a3⟩:=p1 (n - ae.length) v hn;have hv:=jb hr v (ala hn);refine⟨a1,fun _ k hk=>?_,fun h=>by rw [hv] at h;cases h⟩
   rcases a2 hv k hk with h | h
   ·cases h
   ·exact .inr (amO Eh.size h)
 ·intro n m v x hn hm aW hv hx k hk bL;by_cases hl:n < ae.length
  ·rw [ak9 hl] at hn;simp only [if_pos hl] at hk;by_cases dQ:m < ae.length
   ·rw [ak9 dQ] at hm;simp only [if_pos dQ] at bL;exact q2 n m v x hn hm aW hv hx k hk bL
   ·rw [ak8 (by omega)] at hm;simp only [if_neg dQ] at bL
    rcases(p1 (m - ae.length) x hm).2.1 hx k bL with h | h
    ·cases h
    ·have:=v.lt (q1 n v hn).1 k hk;omega
  ·rw [ak8 (by omega)] at hn;simp only [if_neg hl] at hk;by_cases dQ:m < ae.length
   ·rw [ak9 dQ] at hm;simp only [if_pos dQ] at bL
    rcases(p1 (n - ae.length) v hn).2.1 hv k hk with h | h
    ·cases h
    ·have:=x.lt (q1 m x hm).1 k bL;omega
   ·rw [ak8 (by omega)] at hm;simp only [if_neg dQ] at bL;exact p2 _ _ v x hn hm (by omega) hv hx k hk bL
theorem My (h:Hp S w0 w ae) {j:Nat} {u:aa} (hj:(ae[j]?).map aa.holds=some u.holds):Hp [] w w [u.ro]:=by
 obtain⟨O',gD⟩:=h.de hj;exact Hp.dC (Hp.init w) gD (by simp)
theorem ro2 (h:Hp S w0 w ae) {i j:Nat} {t u:aa} (hi:(ae[i]?).map aa.holds=some t.holds) (hj:(ae[j]?).map aa.holds=some u.holds):Hp [] w w [t.ro,u.ro]:=by
 obtain⟨O',gD⟩:=h.de hj;exact Hp.dC (h.My hi) gD (by simp)
theorem f2 (h:Hp S w0 w ae) {i i':Nat} (aW:i≠i') {t u:aa} (hi:ae[i]? =some t) (hY:ae[i']? =some u) (ho:t.own=true) (mI:u.own=true):
  ∃O,Hp O w w [t,u] /\ ∀{w':World} {t' u':aa} {rest:List aa},t'.own=true->u'.own=true->owns rest=true->Hp O w w' (t' :: u' :: rest)->Hp S w0 w' ((ae.set i t').set i' u'++rest):=by
 obtain⟨O,h1,h2⟩:=h.frame [i,i'] [] (by simpa using aW) (by simp) (ts:= [t,u]) (us:= []) rfl rfl (JW hi hY) JX (by simp [ho,mI]);exact⟨O,by simpa using h1,fun{w' t' u' rest} q1 q2 hr hp=>h2 (ts':= [t',u']) rfl (by simp [q1,q2]) (jb hr) (by simpa using hp)⟩
theorem f2r (h:Hp S w0 w ae) {i i' j:Nat} (aW:i≠i') (hj1:i≠j) (Ah:i'≠j) {t u v:aa} (hi:ae[i]? =some t) (hY:ae[i']? =some u) (hj:ae[j]? =some v) (ho:t.own=true) (mI:u.own=true):
  ∃O,Hp O w w [t,u,v.ro] /\ ∀{w':World} {t' u':aa} {rest:List aa},t'.own=true->u'.own=true->owns rest=true->Hp O w w' (t' :: u' :: rest)->Hp S w0 w' ((ae.set i t').set i' u'++rest):=by
 obtain⟨O,h1,h2⟩:=h.frame [i,i'] [j] (by simpa using aW) (by simp [hj1,Ah]) (ts:= [t,u]) (us:= [v]) rfl rfl (JW hi hY) (xk hj) (by simp [ho,mI]);exact⟨O,by simpa using h1,fun{w' t' u' rest} q1 q2 hr hp=>h2 (ts':= [t',u']) rfl (by simp [q1,q2]) (jb hr) (by simpa using hp)⟩
theorem QC {ae:List aa} {i i' vX:Nat} {t t' OQ:aa} (hi:ae[i]? =some t) (hY:ae[i']? =some t') (yI:ae[vX]? =some OQ): ∀n j:Nat,[i,i',vX][n]? =some j->ae[j]? = [t,t',OQ][n]? :=by
 intro n j hn
 match n,hn with
 | 0,hn=>simp only [alo,ald] at hn;subst hn;simpa using hi
 | 1,hn=>simp only [alP,alo,ald] at hn;subst hn;simpa using hY
 | 2,hn=>simp only [alP,alo,ald] at hn;subst hn;simpa using yI
theorem f3 (h:Hp S w0 w ae) {i i' vX:Nat} (aW: [i,i',vX].Nodup) {t u v:aa} (hi:ae[i]? =some t) (hY:ae[i']? =some u) (yI:ae[vX]? =some v) (ho:t.own=true) (mI:u.own=true) (UC:v.own=true):
  ∃O,Hp O w w [t,u,v] /\ ∀{w':World} {t' u' v':aa} {rest:List aa},t'.own=true->u'.own=true->v'.own=true->owns rest=true->Hp O w w' (t' :: u' :: v' :: rest)->Hp S w0 w' (((ae.set i t').set i' u').set vX v'++rest):=by
 obtain⟨O,h1,h2⟩:=h.frame [i,i',vX] [] aW (by simp) (ts:= [t,u,v]) (us:= []) rfl rfl (QC hi hY yI) JX (by simp [ho,mI,UC]);exact⟨O,by simpa using h1,fun{w' t' u' v' rest} q1 q2 q3 hr hp=>h2 (ts':= [t',u',v']) rfl (by simp [q1,q2,q3]) (jb hr) (by simpa using hp)⟩
theorem bN {i:Nat} {t:aa} (hi:ae[i]? =some t):ae.set i t=ae:=by
 obtain⟨h,rfl⟩:=ak6.1 hi;exact an4 h
theorem fY {x y:aa} {rest:List aa} (h:Hp S w0 w (x :: y :: rest)):Hp S w0 w (x :: rest):=by
 obtain⟨fk,F,h1,h2⟩:=h;have key: ∀(n:Nat) (t:aa),(x :: rest)[n]? =some t->(x :: y :: rest)[if n=0 then 0 else n+1]? =some t:=by
  intro n t hn
  cases n with
  | zero=>simpa using hn
  | succ n=>simpa using hn
 refine⟨fk,fun n=>F (if n=0 then 0 else n+1),fun n t hn=>h1 _ t (key n t hn),fun n m t u hn hm aW=>h2 _ _ t u (key n t hn) (key m u hm) ?_⟩
 split <;> split <;> omega
theorem trim (h:Hp S w0 w ae) (n:Nat):Hp S w0 w (ae.take n):=by
 rw [<-amg n ae] at h;exact h.front
theorem FK (h:Hp S w0 w ae) {i:Nat} {u:aa} (hi:ae[i]? =some u.ro): ∃O,u.holds w O /\ ∀{t:aa} {O':List Nat},t.holds w O'->(∀k∈O',k∈O)->Hp S w0 w (ae++ [t.ro]):=by
 obtain⟨fk,F,h1,h2⟩:=h;obtain⟨a1,_,a3⟩:=h1 i _ hi;have a3:=a3 rfl;refine⟨F i,a1,fun{t O'} ht hO=>?_⟩;have key: ∀(j:Nat) (v:aa),(ae++ [t.ro])[j]? =some v->(j < ae.length /\ ae[j]? =some v) \/ (j=ae.length /\ v=t.ro):=by
  intro j v hj;by_cases av:j < ae.length
  ·rw [ak9 av] at hj;exact .inl ⟨av,hj⟩
  ·rw [ak8 (by omega)] at hj;have:j - ae.length=0:=by
    rcases amL (j - ae.length) with h | h
    ·exact h
    ·rw [alE (by simp only [am4];omega)] at hj;cases hj
   rw [this] at hj;simp only [alo,ald] at hj;exact .inr ⟨by omega,hj.symm⟩
 refine⟨fk,fun j=>if j=ae.length then O' else F j,?_,?_⟩
 ·intro j v hj
  rcases key j v hj with ⟨av,eA⟩ | ⟨rfl,rfl⟩
  ·dsimp only;rw [if_neg (by omega)];exact h1 j v eA
  ·dsimp only;rw [if_pos rfl];exact⟨ht,fun h=>(by cases h),fun _ k hk=>a3 k (hO k hk)⟩
 ·intro j j' v x hj eA aW hv hx k hk bL
  rcases key j v hj with ⟨av,GY⟩ | ⟨rfl,rfl⟩
  ·rcases key j' x eA with ⟨nc,vv⟩ | ⟨rfl,rfl⟩
   ·simp only [if_neg (show ¬j=ae.length by omega),if_neg (show ¬j'=ae.length by omega)] at hk bL;exact h2 j j' v x GY vv aW hv hx k hk bL
   ·cases hx
  ·cases hv
theorem OS (h:Hp S w0 w ae) {i:Nat} {t:aa} (hi:ae[i]? =some t) (ho:t.own=true):Hp S w0 w (ae.set i ao):=by
 obtain⟨O,hO,back⟩:=h.step hi ho;exact back (Fr.refl _ _) (O':= []) rfl (by simp) rfl
theorem less (h:Hp S w0 w ae) {i:Nat} {t t':aa} (hi:ae[i]? =some t) (ho:t.own=true) (himp: ∀w O,t.holds w O-> ∃O',t'.holds w O' /\ ∀k∈O',k∈O) (mI:t'.own=true):Hp S w0 w (ae.set i t'):=by
 obtain⟨O,hO,back⟩:=h.step hi ho;obtain⟨O',h1,h2⟩:=himp _ _ hO;exact back (Fr.refl _ _) h1 (fun k hk=>.inl (h2 k hk)) mI
theorem nw (h:Hp S w0 w ae) {e:TypeId} {c:List Value} {K:Addr->World->Prop}
  (hK: ∀b w',Hp S w0 w' (ae++ [af b e c])->K ⟨b,0,none⟩ w'):Nw (.cells c.toArray e) w K:=
 hK _ _ (h.grow (Fr.alloc w _) (t:=af w.heap.size e c) (O:= [w.heap.size]) ⟨fF.alloc w c e,rfl⟩ (by simp) rfl)
theorem zj (h:Hp S w0 w ae) {K:Addr->World->Prop}
  (hK: ∀b w',Hp S w0 w' (ae++ [G0 b []])->K ⟨b,0,none⟩ w'):Nw (.map #[] 0) w K:=
 hK _ _ (h.grow (Fr.alloc w _) (t:=G0 w.heap.size []) (O:= [w.heap.size]) ⟨⟨#[],0,by show (w.heap.push _)[w.heap.size]? =_;simp,rfl,by simp [tH]⟩,rfl⟩ (by simp) rfl)
theorem dr (h:Hp S w0 w ae) {K:World->Prop} (hK: ∀w',Hp S w0 w' ae->K w'):Dr w K:=
 hK _ (h.cn (Fr.refl [] w).drew)
theorem ld (h:Hp S w0 w ae) (i:Nat) {k:Kd} {b n:Nat} {e:TypeId} {c:List Value} {x:k.T} {K:k.T->Prop}
  (hi:(ae[i]?).map aa.holds=some (af b e c).holds) (hx:c[n]? =some (k.inj x)) (hK:K x):Ld k w ((⟨b,0,none⟩:Addr).add n) K:=by
 obtain⟨O,hO,_⟩:=h.de hi;exact nE hO hx hK
theorem bE (h:Hp S w0 w ae) (i:Nat) {k:Kd} {b:Nat} {e:TypeId} {c:List Value} {x:k.T} {K:k.T->Prop}
  (hi:(ae[i]?).map aa.holds=some (af b e c).holds) (hx:c[0]? =some (k.inj x)) (hK:K x):Ld k w ⟨b,0,none⟩ K:=by
 obtain⟨O,hO,_⟩:=h.de hi;exact Go.Den.ld hO hx hK
theorem pI (h:Hp S w0 w ae) (i:Nat) {k:Kd} {b n m:Nat} {e:TypeId} {c:List Value} {x:k.T} {K:k.T->Prop}
  (hi:(ae[i]?).map aa.holds=some (af b e c).holds) (hx:c[n+m]? =some (k.inj x)) (hK:K x):Ld k w (((⟨b,0,none⟩:Addr).add n).add m) K:=by
 rw [Addr.jq];exact h.ld i hi hx hK
theorem xl (h:Hp S w0 w ae) (i:Nat) {b n:Nat} {e:TypeId} {c:List Value} {v:Value} (hi:(ae[i]?).map aa.holds=some (af b e c).holds) (hx:c[n]? =some v):
  w.cell? ((⟨b,0,none⟩:Addr).add n)=some v:=by
 obtain⟨O,hO,_⟩:=h.de hi;rw [Addr.aU,hO.cell,aml,hx]
theorem vw (h:Hp S w0 w ae) (i:Nat) {b:Nat} {e:TypeId} {c:List Value} {v:Value} (hi:(ae[i]?).map aa.holds=some (af b e c).holds) (hx:c[0]? =some v):
  w.cell? (⟨b,0,none⟩:Addr)=some v:=by
 obtain⟨O,hO,_⟩:=h.de hi;rw [hO.cell,hx]
theorem UD (h:Hp S w0 w ae) (i:Nat) {b o:Nat} {e:TypeId} {c:List Value} {v:Value} {K:World->Prop}
  (hi:ae[i]? =some (af b e c)) (ho:o < c.length) (hv:v.oneCell'=true) (hK: ∀w',Hp S w0 w' (ae.set i (af b e (c.set o v)))->K w'):St ⟨b,o,none⟩ v w K:=by
 obtain⟨O,⟨hO,rfl⟩,back⟩:=h.step hi rfl;exact Go.Den.st hO ho hv fun w' hb hf _=>hK w' (back (t':=af b e (c.set o v)) (O':= [b]) hf ⟨hb,rfl⟩ (fun k hk=>.inl hk) rfl)
theorem st (h:Hp S w0 w ae) (i:Nat) {b n:Nat} {e:TypeId} {c:List Value} {v:Value} {K:World->Prop}
  (hi:ae[i]? =some (af b e c)) (ho:n < c.length) (hv:v.oneCell'=true) (hK: ∀w',Hp S w0 w' (ae.set i (af b e (c.set n v)))->K w'):St ((⟨b,0,none⟩:Addr).add n) v w K:=by
 rw [Addr.aU,aml];exact h.UD i hi ho hv hK
theorem gz (h:Hp S w0 w ae) (i:Nat) {b:Nat} {e:TypeId} {c:List Value} {v:Value} {K:World->Prop}
  (hi:ae[i]? =some (af b e c)) (ho:0 < c.length) (hv:v.oneCell'=true) (hK: ∀w',Hp S w0 w' (ae.set i (af b e (c.set 0 v)))->K w'):St ⟨b,0,none⟩ v w K:=
 h.UD i hi ho hv hK
theorem ixa (h:Hp S w0 w ae) {b len sz:Nat} {i:Int} {K:Addr->Prop} (h0:0<=i) (h1:i < len) (hK:K ⟨b,i.toNat*sz,none⟩):Wu ⟨b,0,none⟩ len i sz K:=
 ⟨h0,h1,by rw [Addr.aU,aml];exact hK⟩
theorem JY (h:Hp S w0 w ae) (i:Nat) {k:Kd} {b o:Nat} {e:TypeId} {c:List Value} {x:k.T} {K:k.T->Prop}
  (hi:(ae[i]?).map aa.holds=some (af b e c).holds) (hx:c[o]? =some (k.inj x)) (hK:K x):Ld k w ⟨b,o,none⟩ K:=by
 obtain⟨O,hO,_⟩:=h.de hi;exact Go.Den.ld hO hx hK
def G1 (y:Option Addr) (e:TypeId) (c:List Value):aa:=
  { holds:=fun w O=>(y=none /\ O= []) \/ ∃b,y=some ⟨b,0,none⟩ /\ fF w b e c /\ O= [b]
    fr:=fun{S w w' O} h hf hn=>by
      rcases h with h | ⟨b,h1,h2,rfl⟩
      · exact .inl h
      · exact .inr ⟨b,h1,h2.fr hf (hn b (by simp)),rfl⟩
    lt:=fun{w O} h k hk=>by
      rcases h with ⟨_,rfl⟩ | ⟨b,h1,h2,rfl⟩
      · cases hk
      · simp only [ali] at hk;subst hk;exact h2.lt}
theorem opt (h:Hp S w0 w ae) (e:TypeId) (c:List Value):Hp S w0 w (ae++ [G1 none e c]):=
 h.grow (Fr.refl _ _) (t:=G1 none e c) (O:= []) (.inl ⟨rfl,rfl⟩) (by simp) rfl
theorem dB (h:Hp S w0 w ae) (i:Nat) {y:Option Addr} {e:TypeId} {c:List Value} {K:Option Addr->World->Prop} (hi:ae[i]? =some (G1 y e c))
  (hK: ∀y' w',Hp S w0 w' (ae.set i (G1 y' e c))->K y' w'):vI [(.cells c.toArray e,y)] w K:=by
 refine⟨hK y w (by rw [bN hi];exact h),fun q o ho hy=>?_⟩;have hq:q=0:=by
  rcases amL q with h | h
  ·exact h
  ·rw [alE (by simp only [alR,amK,am4];omega)] at ho;cases ho
 subst hq;simp only [alR,amK,alo,ald] at ho hy;subst ho;subst hy;obtain⟨O,hO,back⟩:=h.step hi rfl
 rcases hO with ⟨_,rfl⟩ | ⟨b,hb,_⟩
 ·exact hK _ _ (back (t':=G1 (some ⟨w.heap.size,0,none⟩) e c) (O':= [w.heap.size]) (Fr.alloc w _) (.inr ⟨_,rfl,fF.alloc w c e,rfl⟩) (by simp) rfl)
 ·cases hb
theorem Ei (h:Hp S w0 w ae) (i:Nat) {y:Option Addr} {e:TypeId} {c:List Value} {K:Addr->Prop} (hi:ae[i]? =some (G1 y e c))
  (hK: ∀b,Hp S w0 w (ae.set i (af b e c))->K ⟨b,0,none⟩):td y K:=by
 cases y with
 | none=>trivial
 | some a=>
  obtain⟨O,hO,back⟩:=h.step hi rfl
  rcases hO with ⟨h1,_⟩ | ⟨b,hb,h2,rfl⟩
  ·cases h1
  ·simp only [ald] at hb;subst hb;exact hK b (back (Fr.refl _ _) (t':=af b e c) (O':= [b]) ⟨h2,rfl⟩ (fun k hk=>.inl hk) rfl)
section
variable {α:Type} {f:α->List Value} {n:Nat} {e:TypeId}
structure Reads (t:aa) (s:Sl) (n:Nat) (f:α->List Value) (l:List α):Prop where
 rd: ∀{w O},t.holds w O-> ∃o,bO w s n f l o
theorem bZ {s:Sl} {l:List α}:Reads (aj s e n f l) s n f l:=⟨fun{w O} h=>⟨O,cq.toR h⟩⟩
theorem XO {s:Sl} {l:List α}:Reads (sM s n f l) s n f l:=⟨fun{w O} h=>⟨O,h⟩⟩
theorem len (h:Hp S w0 w ae) (i:Nat) {s:Sl} {l:List α} (hi:(ae[i]?).map aa.holds=some (aj s e n f l).holds):l.length=s.len:=by
 obtain⟨O,hO⟩:=h.de hi;exact hO.len
theorem ac8 (h:Hp S w0 w ae) (i:Nat) {s:Sl} {l:List α} (hi:(ae[i]?).map aa.holds=some (sM s n f l).holds):l.length=s.len:=by
 obtain⟨O,hO⟩:=h.de hi;exact bO.len (n:=n) (w:=w) (o:=O) (f:=f) hO
theorem cap (h:Hp S w0 w ae) (i:Nat) {s:Sl} {l:List α} (hi:(ae[i]?).map aa.holds=some (aj s e n f l).holds):s.len<=s.cap:=by
 obtain⟨O,hO⟩:=h.de hi
 rcases hO.2 with ⟨_,h1,h2,_⟩ | ⟨_,_,_,_,_,_,h,_⟩ <;> omega
theorem nil (h:Hp S w0 w ae) (e:TypeId) (n:Nat) (f:α->List Value):Hp S w0 w (ae++ [aj ⟨none,0,0⟩ e n f ([]:List α)]):=
 h.grow (Fr.refl _ _) (t:=aj ⟨none,0,0⟩ e n f []) (O:= []) cq.nil (by simp) rfl
theorem fz (h:Hp S w0 w ae) (i:Nat) {k:Kd} {s:Sl} {l:List α} {j:Int} {y:α} {x:k.T} {K:k.T->Prop} (hi:(ae[i]?).map aa.holds=some (aj s e 1 f l).holds) (h0:0<=j) (hy:l[j.toNat]? =some y) (hf: ∀x,(f x).length=1) (hx:(f y)[0]? =some (k.inj x)) (hK:K x):
  Ix s.a s.len j 1 fun a=>Ld k w a K:=by
 obtain⟨O,hO⟩:=h.de hi;exact bO.ix hf (cq.toR hO) h0 hy fun a ha=>dG (ha 0 (by omega)) hx hK
theorem XP (h:Hp S w0 w ae) (i:Nat) {k:Kd} {s:Sl} {l:List α} {j:Int} {y:α} {x:k.T} {K:k.T->Prop} (hi:(ae[i]?).map aa.holds=some (sM s 1 f l).holds) (h0:0<=j) (hy:l[j.toNat]? =some y) (hf: ∀x,(f x).length=1) (hx:(f y)[0]? =some (k.inj x)) (hK:K x):
  Ix s.a s.len j 1 fun a=>Ld k w a K:=by
 obtain⟨O,hO⟩:=h.de hi;exact bO.ix hf hO h0 hy fun a ha=>dG (ha 0 (by omega)) hx hK
theorem fH (h:Hp S w0 w ae) (i:Nat) {u:aa} {k:Kd} {s:Sl} {l:List α} {j:Int} {y:α} {x:k.T} {K:k.T->Prop} (hi:(ae[i]?).map aa.holds=some u.holds) (hu:Reads u s 1 f l) (h0:0<=j) (hy:l[j.toNat]? =some y) (hf: ∀x,(f x).length=1) (hx:(f y)[0]? =some (k.inj x)) (hK:K x):
  Ix s.a s.len j 1 fun a=>Ld k w a K:=by
 obtain⟨O,hO⟩:=h.de hi;obtain⟨o,hO⟩:=hu.rd hO;exact bO.ix hf hO h0 hy fun a ha=>dG (ha 0 (by omega)) hx hK
theorem dR (h:Hp S w0 w ae) (i:Nat) {u:aa} {s:Sl} {l:List α} (hi:(ae[i]?).map aa.holds=some u.holds) (hu:Reads u s n f l):l.length=s.len:=by
 obtain⟨O,hO⟩:=h.de hi;obtain⟨o,hO⟩:=hu.rd hO;exact hO.len
theorem JZ (h:Hp S w0 w ae) (i:Nat) {k k':Kd} {s:Sl} {l:List α} {j:Int} {y:α} {x:k.T} {x':k'.T} {K:k.T->k'.T->Prop} (hi:(ae[i]?).map aa.holds=some (aj s e 2 f l).holds) (h0:0<=j) (hy:l[j.toNat]? =some y) (hf: ∀x,(f x).length=2) (hx:(f y)[0]? =some (k.inj x)) (Mq:(f y)[1]? =some (k'.inj x')) (hK:K x x'):
  Ix s.a s.len j 2 fun a=>Ld k w a fun x=>Ld k' w (a.add 1) fun x'=>K x x':=by
 obtain⟨O,hO⟩:=h.de hi;exact bO.ix hf (cq.toR hO) h0 hy fun a ha=>dG (ha 0 (by omega)) hx (jB (ha 1 (by omega)) Mq hK)
theorem rf (h:Hp S w0 w ae) (i:Nat) {s:Sl} {l:List α} {j:Int} {y:α} {K:Addr->Prop} (hi:(ae[i]?).map aa.holds=some (aj s e n f l).holds) (h0:0<=j) (hy:l[j.toNat]? =some y) (hf: ∀x,(f x).length=n)
  (hK: ∀a,(∀m,m < n->w.cell? (a.add m)=(f y)[m]?)->K a):Ix s.a s.len j n K:=by
 obtain⟨O,hO⟩:=h.de hi;exact bO.ix hf (cq.toR hO) h0 hy hK
theorem mW (h:Hp S w0 w ae) (i:Nat) {s:Sl} {l:List α} {j:Int} {y:α} {v:Value} {K:World->Prop} (hi:ae[i]? =some (aj s e 1 f l)) (h0:0<=j) (av:j.toNat < l.length) (hf: ∀x,(f x).length=1) (hy:f y= [v]) (hv:v.oneCell'=true)
  (hK: ∀w',Hp S w0 w' (ae.set i (aj s e 1 f (l.set j.toNat y)))->K w'):Ix s.a s.len j 1 fun a=>St a v w K:=by
 obtain⟨O,hO,back⟩:=h.step hi rfl;refine cq.ix hf hO h0 (x:=l[j.toNat]) (by simp [av]) fun b off c ho hb fm ma dM=>?_;refine Go.Den.st hb (by omega) hv fun w' j7 Dt _=>hK w' (back (t':=aj s e 1 f (l.set j.toNat y)) (O':=O) (by rw [ho];exact Dt) (dM w' y ?_) (fun k hk=>.inl hk) rfl);have e1:c.set off v=c.take off++f y++c.drop (off+1):=by
  rw [anl,if_pos (by omega),hy];simp
 rw [<-e1];exact j7
theorem FL (h:Hp S w0 w ae) (i:Nat) {s:Sl} {l:List α} {j:Int} {y:α} {v v':Value} {K:World->Prop} (hi:ae[i]? =some (aj s e 2 f l)) (h0:0<=j) (av:j.toNat < l.length) (hf: ∀x,(f x).length=2) (hy:f y= [v,v']) (hv:v.oneCell'=true) (W2:v'.oneCell'=true)
  (hK: ∀w',Hp S w0 w' (ae.set i (aj s e 2 f (l.set j.toNat y)))->K w'):Ix s.a s.len j 2 fun a=>St a v w fun w=>St (a.add 1) v' w K:=by
 obtain⟨O,hO,back⟩:=h.step hi rfl;refine cq.ix hf hO h0 (x:=l[j.toNat]) (by simp [av]) fun b off c ho hb fm ma dM=>?_;refine Go.Den.st hb (by omega) hv fun w1 n9 yH _=>Go.Den.sto n9 (by simp;omega) W2 fun w' j7 Dt _=>hK w' (back (t':=aj s e 2 f (l.set j.toNat y)) (O':=O) (by rw [ho];exact yH.trans Dt (by simp)) (dM w' y ?_) (fun k hk=>.inl hk) rfl);have e1:(c.set off v).set (off+1) v'=c.take off++f y++c.drop (off+2):=by
  apply alM;intro m;rw [hy];have l1:(List.take off c).length=off:=by rw [alv];omega
  simp only [alN,amy,alb,l1,alQ,amF,alV,alU,alZ];by_cases h1:m < off
  ·rw [if_neg (by omega),if_neg (by omega),if_pos (by omega),if_pos h1,if_pos h1]
  ·by_cases h2:m=off
   ·subst h2;rw [if_neg (by omega),if_pos rfl,if_pos (by omega),if_pos (by omega),if_neg (by omega)];simp
   ·by_cases h3:m=off+1
    ·subst h3;rw [if_pos rfl,if_pos (by omega),if_pos (by omega),if_neg (by omega)];simp
    ·rw [if_neg (by omega),if_neg (by omega),if_neg (by omega)];congr 1;omega
 rw [<-e1];exact j7
theorem uP (h:Hp S w0 w ae) (i:Nat) {u:aa} {s:Sl} {l:List α} {j:Int} {K:Addr->Prop} (hi:(ae[i]?).map aa.holds=some u.holds) (hu:Reads u s n f l) (h0:0<=j) (av:j.toNat < l.length) (hK: ∀x,s.a=some x->K (x.add (j.toNat*n))):Ix s.a s.len j n K:=by
 obtain⟨O,hO⟩:=h.de hi;obtain⟨o,hR⟩:=hu.rd hO;refine⟨h0,by have:=hR.1;omega,?_⟩
 rcases hR.2 with ⟨h1,_⟩ | ⟨x,h1,_⟩
 ·have:=hR.1;omega
 ·rw [h1];exact hK x h1
theorem UE (h:Hp S w0 w ae) (i:Nat) {u:aa} {s:Sl} {l:List α} {j m:Nat} {x:Addr} {y:α} {v:Value} (hi:(ae[i]?).map aa.holds=some u.holds) (hu:Reads u s n f l) (hx:s.a=some x) (hf: ∀x,(f x).length=n) (hy:l[j]? =some y) (hm:(f y)[m]? =some v):
  w.cell? ((x.add (j*n)).add m)=some v:=by
 obtain⟨O,hO⟩:=h.de hi;obtain⟨o,hR⟩:=hu.rd hO;have av:=(ak6.1 hy).1
 rcases hR.2 with ⟨h1,_⟩ | ⟨x',h1,_,_,h2⟩
 ·have:=hR.1;omega
 ·obtain rfl:x'=x:=alm (h1.symm.trans hx);rw [Addr.jq];have hmn:m < n:=by have:=(ak6.1 hm).1;rw [hf] at this;exact this
  exact h2 _ _ ((DJ hf hy hmn).trans hm)
theorem BO (h:Hp S w0 w ae) (i:Nat) {u:aa} {s:Sl} {l:List α} {j:Nat} {x:Addr} {y:α} {v:Value} (hi:(ae[i]?).map aa.holds=some u.holds) (hu:Reads u s n f l) (hx:s.a=some x) (hf: ∀x,(f x).length=n) (hy:l[j]? =some y) (hm:(f y)[0]? =some v):
  w.cell? (x.add (j*n))=some v:=Addr.qk (h.UE i hi hu hx hf hy hm)
theorem uQ (h:Hp S w0 w ae) (i:Nat) {u:aa} {s:Sl} {l:List α} {j m:Nat} {x:Addr} {y:α} {k:Kd} {v:k.T} {K:k.T->Prop} (hi:(ae[i]?).map aa.holds=some u.holds) (hu:Reads u s n f l) (hx:s.a=some x) (hf: ∀x,(f x).length=n) (hy:l[j]? =some y) (hm:(f y)[m]? =some (k.inj v)) (hK:K v):
  Ld k w ((x.add (j*n)).add m) K:=⟨v,h.UE i hi hu hx hf hy hm,hK⟩
theorem qL (h:Hp S w0 w ae) (i:Nat) {u:aa} {s:Sl} {l:List α} {j:Nat} {x:Addr} {y:α} {k:Kd} {v:k.T} {K:k.T->Prop} (hi:(ae[i]?).map aa.holds=some u.holds) (hu:Reads u s n f l) (hx:s.a=some x) (hf: ∀x,(f x).length=n) (hy:l[j]? =some y) (hm:(f y)[0]? =some (k.inj v)) (hK:K v):
  Ld k w (x.add (j*n)) K:=⟨v,h.BO i hi hu hx hf hy hm,hK⟩
def xm (c:List Value) (off:Nat):List Value->List Value
 | []=>c
 | v :: vs=>xm (c.set off v) (off+1) vs
theorem zk: ∀(vs c:List Value) (off:Nat),off+vs.length<=c.length->xm c off vs=c.take off++vs++c.drop (off+vs.length)
 | [],c,off,_=>by simp [xm]
 | v :: vs,c,off,h=>by
  simp only [alQ] at h;rw [xm,zk vs _ _ (by simp;omega)];have e1:(c.set off v).take (off+1)=c.take off++ [v]:=by
   rw [List.take_set,alp (by omega)];have:(List.take off c).length=off:=by rw [alv];omega
   rw [alj _ _ (by omega)];simp [this]
  have e2:(c.set off v).drop (off+1+vs.length)=c.drop (off+(v :: vs).length):=by
   rw [amo (by omega)];congr 1;simp only [alQ];omega
  rw [e1,e2];simp
theorem ixw (h:Hp S w0 w ae) (i:Nat) {s:Sl} {l:List α} {j:Int} {K:Addr->Prop} (hi:ae[i]? =some (aj s e n f l)) (h0:0<=j) (av:j.toNat < l.length) (hf: ∀x,(f x).length=n)
  (hK: ∀b off c,off+n<=c.length->Hp S w0 w (ae.set i (af b e c))->(∀{w':World} {yJ:List aa} (y:α),Hp S w0 w' yJ->yJ[i]? =some (af b e (xm c off (f y)))->Hp S w0 w' (yJ.set i (aj s e n f (l.set j.toNat y))))->K ⟨b,off,none⟩):
  Ix s.a s.len j n K:=by
 obtain⟨O,hO,back⟩:=h.step hi rfl;refine cq.ix hf hO h0 (x:=l[j.toNat]) (by simp [av]) fun b off c ho hb fm ma dM=>?_;refine hK b off c fm (back (t':=af b e c) (O':= [b]) (Fr.refl _ _) ⟨hb,rfl⟩ (by rw [ho];exact fun k hk=>.inl hk) rfl) fun{w' yJ} y hp hY=>?_;refine hp.rP hY rfl (fun w2 O2 h2=>?_) rfl;obtain⟨gO,rfl⟩:=h2;have:=dM w2 y (by rw [zk _ _ _ (by rw [hf];exact fm),hf] at gO;exact gO);rw [ho] at this;exact this
theorem Dg (h:Hp S w0 w ae) (i:Nat) {b o m:Nat} {e:TypeId} {c:List Value} {v:Value} {K:World->Prop}
  (hi:ae[i]? =some (af b e c)) (ho:o+m < c.length) (hv:v.oneCell'=true) (hK: ∀w',Hp S w0 w' (ae.set i (af b e (c.set (o+m) v)))->K w'):St ((⟨b,o,none⟩:Addr).add m) v w K:=by
 rw [Addr.aU];exact h.UD i hi ho hv hK
theorem cut (h:Hp S w0 w ae) (i:Nat) {s:Sl} {l:List α} {a b m:Int} {K:Sl->Prop} (hi:ae[i]? =some (aj s e n f l)) (hf: ∀x,(f x).length=n) (h0:0<=a) (h1:a<=b) (h2:b<=m) (h3:m<=s.cap) (h4:b<=s.len)
  (hK: ∀s',Hp S w0 w (ae.set i (aj s' e n f ((l.take b.toNat).drop a.toNat)))->s'.len=b.toNat - a.toNat->s'.cap=m.toNat - a.toNat->(s'.a=none↔s.a=none)->K s'):Cut s a b m n K:=by
 obtain⟨O,hO,back⟩:=h.step hi rfl;exact cq.cut hf hO h0 h1 h2 h3 h4 fun s' hs hl hc hn=>hK s' (back (Fr.refl _ _) (t':=aj s' e n f _) hs (fun k hk=>.inl hk) rfl) hl hc hn
theorem nU {u:aa} {s:Sl} {l:List α} {a b m:Int} {K:Sl->Prop} (hu:Reads u s n f l) (hl:l.length=s.len) (hf: ∀x,(f x).length=n) (h0:0<=a) (h1:a<=b) (h2:b<=m) (h3:m<=s.cap) (h4:b<=s.len)
  (hK: ∀s',Reads u s' n f ((l.take b.toNat).drop a.toNat)->s'.len=b.toNat - a.toNat->s'.cap=m.toNat - a.toNat->K s'):Cut s a b m n K:=by
 refine⟨h0,h1,h2,h3,hK _ ⟨fun{w O} hO=>?_⟩ rfl rfl⟩;obtain⟨o,hR⟩:=hu.rd hO;by_cases hz:b.toNat - a.toNat=0
 ·refine⟨[],⟨?_,.inl ⟨hz,rfl⟩⟩⟩;simp only [alT,alv];omega
 ·rcases hR.2 with ⟨q1,_⟩ | ⟨x,q1,q2,q3,q4⟩
  ·omega
  ·refine⟨[x.block],⟨by simp only [alT,alv];omega,.inr ⟨x.add (a.toNat*n),?_,?_,?_,?_⟩⟩⟩
   ·show (if m.toNat=a.toNat then s.a else _)=_;rw [if_neg (by omega),q1];rfl
   ·rw [Addr.jU]
   ·rw [Addr.jU];exact q3
   ·intro j v hj;rw [Addr.jq];refine q4 _ _ ?_;rw [<-pD hf,<-pC hf,alZ,alU] at hj
    split at hj
    ·exact hj
    ·cases hj
theorem mks (h:Hp S w0 w ae) {z:List Value} {bytes:Nat} {k c:Int} {K:Sl->World->Prop} {x0:α} (hf: ∀x,(f x).length=n) (hz:f x0=z) (h0:0<=k) (h1:k<=c) (h2:c<=281474976710656) (h3:bytes*c<=281474976710656)
  (hK: ∀s w',Hp S w0 w' (ae++ [aj s e n f (List.replicate k.toNat x0)])->s.len=k.toNat->s.cap=c.toNat->s.a≠none->K s w'):Mk z e bytes k c w K:=by
 refine⟨h0,h1,h2,h3,?_⟩;have e9: ∀m,(List.replicate m x0).flatMap f=n8 z m:=by
  intro m
  induction m with
  | zero=>rfl
  | succ m ih=>rw [amD,alX,ih,hz];rfl
 refine hK _ _ ?_ rfl rfl (by simp);refine h.grow (Fr.alloc w _) (t:=aj ⟨some ⟨w.heap.size,0,none⟩,k.toNat,c.toNat⟩ e n f (List.replicate k.toNat x0)) (O:= [w.heap.size]) ?_ (by simp) rfl;refine⟨by simp,.inr ⟨w.heap.size,0,n8 z c.toNat,rfl,rfl,fF.alloc w _ e,?_,?_,?_⟩⟩
 ·show k.toNat<=c.toNat;omega
 ·show 0+c.toNat*n<=_;rw [<-e9,jA hf,amr];omega
 ·show List.take (k.toNat*n) _=_;rw [amP,<-e9,pC hf,List.take_replicate,am1 (by omega)]
theorem nI (h:Hp S w0 w ae) {i b m:Nat} {c:List Value} {l:List α} (hi:ae[i]? =some (af b e c)) (hc:c=l.flatMap f) (hm:l.length=m) (hf: ∀x,(f x).length=n):Hp S w0 w (ae.set i (aj ⟨some ⟨b,0,none⟩,m,m⟩ e n f l)):=
 h.rP hi rfl (fun w O hO=>by
  obtain⟨hb,rfl⟩:=hO;subst hc;exact cq.ra hb hm hf) rfl
section
variable {P:Program}
theorem app (h:Hp S w0 w ae) (i j:Nat) {s:Sl} {t ty e':TypeId} {inf:TypeInfo} {z:Value} {l:List α} {y:α} {b c':Nat} {c:List Value} {K:Sl->World->Prop} (hi:ae[i]? =some (aj s e n f l)) (hj:(ae[j]?).map aa.holds=some (af b e' c).holds) (hf: ∀x,(f x).length=n)
  (ht:P.underlying t=some (.slice e)) (iE:P.info? e=some inf) (dL:inf.size=n) (hz:inf.zero=some z) (A8:z.cells.size=n) (hc:c=f y) (h1: ∀u∈f y,u.oneCell'=true)
  (hb:(s.len+1)*inf.bytes<=140737488355328) (hn:s.len+1<=140737488355328)
  (hK: ∀s' w',Hp S w0 w' (ae.set i (aj s' e n f (l++ [y])))->s'.len=s.len+1->s'.a≠none->K s' w'):
  cA .sl P (Builtin.append_ #[t,t] ty #[.slice s.a s.len s.cap,.slice (some ⟨b,0,none⟩) 1 c']) w K:=by
 obtain⟨Ob,hO,_⟩:=h.de hj;obtain⟨O,hs,back⟩:=h.step hi rfl;refine cq.app hf ht iE dL hz A8 hs (news:= [y]) rfl ?_ (by simpa using h1) hb hn ?_
 ·intro m u hm;rw [Addr.aU,hO.cell,aml,hc]
  simpa using hm
 ·intro s' w' o' vq dQ mI hg Dt _ lC;refine hK s' w' (back (t':=aj s' e n f (l++ [y])) Dt vq ?_ rfl) dQ (lC (.inr (by omega)))
  rcases mI with rfl | ⟨k,h1,_,rfl⟩
  ·exact fun k hk=>.inl hk
  ·intro k' bL;simp only [ali] at bL;subst bL;exact .inr h1
theorem cj (h:Hp S w0 w ae) (i:Nat) {s:Sl} {t ty e':TypeId} {inf:TypeInfo} {z:Value} {l:List α} {c':Nat} {c:List Value} {K:Sl->World->Prop} (y:α) (hi:ae[i]? =some (aj s e n f l)) (hf: ∀x,(f x).length=n)
  (ht:P.underlying t=some (.slice e)) (iE:P.info? e=some inf) (dL:inf.size=n) (hz:inf.zero=some z) (A8:z.cells.size=n) (hc:c=f y) (h1: ∀u∈f y,u.oneCell'=true)
  (hb:(s.len+1)*inf.bytes<=140737488355328) (hn:s.len+1<=140737488355328)
  (hK: ∀s' w',Hp S w0 w' (ae.set i (aj s' e n f (l++ [y])))->s'.len=s.len+1->s'.a≠none->K s' w'):
  Nw (.cells c.toArray e') w fun b w=>cA .sl P (Builtin.append_ #[t,t] ty #[.slice s.a s.len s.cap,.slice (some b) 1 c']) w K:=by
 have hl:=(ak6.1 hi).1;refine h.nw fun b w h=>?_;refine h.app i ae.length (e':=e') (c:=c) (by rw [ak9 hl];exact hi) (by simp) hf ht iE dL hz A8 hc h1 hb hn fun s' w' h h1 h2=>hK s' w' ?_ h1 h2;rw [amc _ _ hl] at h;exact h.front
theorem gq (h:Hp S w0 w ae) (i j:Nat) {s s2:Sl} {t ty:TypeId} {inf:TypeInfo} {z:Value} {l news:List α} {K:Sl->World->Prop} (hi:ae[i]? =some (aj s e n f l)) {u:aa} (hj:ae[j]? =some u) (hu:Reads u s2 n f news) (hf: ∀x,(f x).length=n)
  (ht:P.underlying t=some (.slice e)) (iE:P.info? e=some inf) (dL:inf.size=n) (hz:inf.zero=some z) (A8:z.cells.size=n) (h1: ∀x,∀u∈f x,u.oneCell'=true)
  (hb:(s.len+s2.len)*inf.bytes<=140737488355328) (hn:s.len+s2.len<=140737488355328)
  (hK: ∀s' w',Hp S w0 w' (ae.set i (aj s' e n f (l++news)))->s'.len=s.len+s2.len->(s.a≠none \/ s2.len≠0->s'.a≠none)->K s' w'):
  cA .sl P (Builtin.append_ #[t,t] ty #[.slice s.a s.len s.cap,.slice s2.a s2.len s2.cap]) w K:=by
 obtain⟨Ou,hO⟩:=h.kY hj;obtain⟨o2,h2⟩:=hu.rd hO;obtain⟨O,hs,back⟩:=h.step hi rfl;refine cq.gq hf ht iE dL hz A8 hs h2 h1 hb hn ?_;intro s' w' o' vq dQ mI hg Dt _ lC;refine hK s' w' (back (t':=aj s' e n f (l++news)) Dt vq ?_ rfl) dQ lC
 rcases mI with rfl | ⟨k,h1,_,rfl⟩
 ·exact fun k hk=>.inl hk
 ·intro k' bL;simp only [ali] at bL;subst bL;exact .inr h1
theorem copy (h:Hp S w0 w ae) (i j:Nat) (iZ:i≠j) {s s2:Sl} {t t2 ty:TypeId} {inf:TypeInfo} {l news:List α} {K:Int->World->Prop} (hi:ae[i]? =some (aj s e n f l)) {u:aa} (hj:ae[j]? =some u) (hu:Reads u s2 n f news) (hf: ∀x,(f x).length=n)
  (ht:P.underlying t=some (.slice e)) (iE:P.info? e=some inf) (dL:inf.size=n) (h1: ∀x,∀u∈f x,u.oneCell'=true) (hle:s2.len<=s.len)
  (hK: ∀w',Hp S w0 w' (ae.set i (aj s e n f (news++l.drop s2.len)))->K s2.len w'):
  cA (.i .i64) P (Builtin.copy_ #[t,t2] ty #[.slice s.a s.len s.cap,.slice s2.a s2.len s2.cap]) w K:=by
 obtain⟨Ou,hO⟩:=h.kY hj;obtain⟨o2,h2⟩:=hu.rd hO;obtain⟨O,hs,back⟩:=h.step hi rfl;have lL:(news.flatMap f).length=s2.len*n:=by rw [jA hf,h2.1]
 have UF:Nat.min s2.len s.len=s2.len:=am1 hle;have J0: ∀u∈news.flatMap f,u.oneCell'=true:=fun u hu=>by
  obtain⟨x,_,hu⟩:=amt.1 hu;exact h1 x u hu
 have ik:(Builtin.firstCells inf.size s2.len (.slice s2.a s2.len s2.cap)).run P w=.ok (news.flatMap f).toArray w:=by
  rw [dL]
  rcases h2.2 with ⟨sK,ho⟩ | ⟨x,ha,ho,_,fb⟩
  ·have:news= []:=alL (by rw [h2.1,sK]);subst this;rw [sK]
   cases s2.a <;> simp [Builtin.firstCells,loadCells,loadCellsFrom]
  ·rw [ha];exact run_firstCells_some (P:=P) w n s2.len x s2.len s2.cap (news.flatMap f) lL fb
 have gJ:=hs.1
 rcases hs.2 with ⟨ha,sK,Du,ho⟩ | ⟨b,off,c,ha,ho,ke,eN,fm,dU⟩
 ·have hm:s2.len=0:=by omega
  have Mt:news= []:=alL (by rw [h2.1,hm]);have p5:l= []:=alL (by omega);subst Mt;subst p5;refine⟨(0:Int),w,?_,?_⟩
  ·rw [hm] at ik;rw [ha,sK,hm];simp only [Builtin.copy_];have e0:(#[t,t2]:Array TypeId)[0]? =some t:=rfl;simp [run_underlying ht,Builtin.lenOf,sizeOf,typeInfo,iE,ik,Kd.inj,goInt]
  ·have:=hK w (by
    have h3:=back (Fr.refl _ _) (t':=aj s e n f ([]++List.drop s2.len [])) (O':=O) (by simpa using hs) (fun k hk=>.inl hk) rfl;exact h3)
   rw [hm] at this;exact this
 ·subst ho;have zf:s.len*n<=s.cap*n:=ami _ eN;have ahM:s2.len*n<=s.len*n:=ami _ hle;have bW:=run_storeCells_at P b off e (news.flatMap f) 0 c.toArray w ke (by simp only [anx,lL];omega) J0;refine⟨(s2.len:Int),w.setRow b (c.take off++news.flatMap f++c.drop (off+(news.flatMap f).length)).toArray,?_,hK _ ?_⟩
  ·rw [ha];simp only [amW] at bW;simp only [Builtin.copy_];simp [run_underlying ht,Builtin.lenOf,sizeOf,typeInfo,iE,ik,UF,bW,Kd.inj,goInt]
  ·refine back (t':=aj s e n f (news++l.drop s2.len)) (O':= [b]) ⟨rfl,rfl,rfl,by simp,fun k _ hk=>setRow_other w b k _ (fun e=>hk (by simp [e]))⟩ ?_ (fun k hk=>.inl hk) rfl;refine⟨by simp [h2.1];omega,.inr ⟨b,off,_,ha,rfl,setRow_heap w b c.toArray _ e _ ke,eN,?_,?_⟩⟩
   ·simp only [alb,alv,alT,lL];omega
   rw [alJ,<-pD hf,<-dU];apply alM;intro q;simp only [alU,alZ,amy,alb,alv,alT,lL];have e1:min off c.length=off:=by omega
   rw [e1];by_cases hq:q < s.len*n
   ·rw [if_pos hq];by_cases OT:q < s2.len*n
    ·rw [if_pos (by omega),if_neg (by omega),if_pos OT];congr 1;omega
    ·rw [if_neg (by omega),if_neg OT,if_pos (by omega)];congr 1;omega
   ·rw [if_neg hq,if_neg (by omega),if_neg (by omega)]
end
end
end Hp
structure BP (P:Program) (kt:TypeId) {κ:Type} [DecidableEq κ] (ek:κ->Value):Prop where
 chk: ∀(w:World) (b:Bool) (a:κ),(Instr.checkKey b 10000 kt (ek a)).run P w=.ok () w
 fnd: ∀(w:World) (a:κ) (l:List κ) (es:List MapEntry),es.map (·.key)=l.map ek->(Instr.findKey kt (ek a) es).run P w=.ok ((l.findIdx? (fun b=>decide (b=a))).bind fun i=>(es[i]?).map fun e=>(i,e.val)) w
 same: ∀a,Instr.sameBits 10000 (ek a) (ek a)=true
theorem oF {P:Program} {kt:TypeId} {κ:Type} [DecidableEq κ] {ek:κ->Value} {w:World} (heq: ∀a b:κ,(Op.equal kt (ek a) (ek b)).run P w=.ok (decide (b=a)) w) (a:κ):
  ∀(l:List κ) (es:List MapEntry) (i:Nat),es.map (·.key)=l.map ek->(Instr.findAsking kt (ek a) es i).run P w=.ok ((l.findIdx? (fun b=>decide (b=a))).bind fun j=>(es[j]?).map fun e=>(i+j,e.val)) w
 | [],[],i,_=>by simp [Instr.findAsking]
 | [],_ :: _,i,h=>by simp at h
 | _ :: _,[],i,h=>by simp at h
 | b :: l,e :: es,i,h=>by
  simp only [alR,amS] at h;obtain⟨h1,h2⟩:=h;have ih:=oF heq a l es (i+1) h2;simp only [Instr.findAsking,h1,Sem.run_bind,heq,Result.andThen_ok,List.findIdx?_cons];by_cases hb:b=a
  ·simp [hb]
  ·simp only [hb,decide_false,amk,if_false,ih];congr 1
   cases l.findIdx? (fun b=>decide (b=a)) with
   | none=>rfl
   | some j=>simp [ani,an6 1 j]
theorem vx {P:Program} {w:World} {t:TypeId} {fs:Array Field} {cs:Array Value} {b:Bool} {n:Nat} (hu:P.underlying t=some (.struct fs))
  (bz: ∀f∈fs.toList,∃k m,P.underlying f.type=some (.int k) /\ cs[f.offset]? =some (.int k m)):(Instr.checkKey b (n+2) t (.agg cs)).run P w=.ok () w:=by
 have loop: ∀(l:List Field),(∀f∈l,∃k m,P.underlying f.type=some (.int k) /\ cs[f.offset]? =some (.int k m))->
   (forIn l PUnit.unit fun f _ => (if f.name ≠ "_" then (do let p <- part f.type cs f.offset; Instr.checkKey b (n + 1) f.type p; pure (ForInStep.yield PUnit.unit)) else pure (ForInStep.yield PUnit.unit) : Sem (ForInStep PUnit))).run P w = .ok PUnit.unit w := by
  intro l
  induction l with
  | nil=>intro _;rfl
  | cons f l ih=>
   intro h;obtain⟨k,m,h1,h2⟩:=h f (by simp);have Rx:=ih (fun g hg=>h g (by simp [hg]));have hp:(part f.type cs f.offset).run P w=.ok (.int k m) w:=by
    simp [part,iK h1,mM,h2]
   have hc:(Instr.checkKey b (n+1) f.type (.int k m)).run P w=.ok () w:=by
    simp [Instr.checkKey,run_underlying h1]
   simp only [List.forIn_cons,Sem.run_bind]
   by_cases hn : f.name ≠ "_"
   ·simp only [if_pos hn,Sem.run_bind,hp,hc,Result.andThen_ok,Sem.run_pure];exact Rx
   ·simp only [if_neg hn,Sem.run_bind,Sem.run_pure,Result.andThen_ok];exact Rx
 rw [Instr.checkKey];simp only [Sem.run_bind,run_underlying hu,Result.andThen_ok];rw [<-Array.forIn_toList,loop _ bz];rfl
theorem BQ {P:Program} {kt:TypeId} {κ:Type} [DecidableEq κ] {ek:κ->Value} {fs:Array Field} (hu:P.underlying kt=some (.struct fs))
  (bz: ∀a,∃cs,ek a=.agg cs /\ (∀f∈fs.toList,∃k m,P.underlying f.type=some (.int k) /\ cs[f.offset]? =some (.int k m)) /\ Instr.sameBits 10000 (.agg cs) (.agg cs)=true)
  (heq: ∀(w:World) (a b:κ),(Op.equal kt (ek a) (ek b)).run P w=.ok (decide (b=a)) w):BP P kt ek:=by
 refine⟨fun w b a=>?_,fun w a l es p6=>?_,fun a=>?_⟩
 ·obtain⟨cs,h1,h2,_⟩:=bz a;rw [h1];exact vx hu h2
 ·simp only [Instr.findKey,Sem.run_bind,run_underlying hu,Result.andThen_ok];have hn:Instr.findNow (.struct fs) (ek a) es 0=none \/ (es= [] /\ l= []):=by
   cases es with
   | nil=>exact .inr ⟨rfl,by simpa using p6.symm⟩
   | cons e es=>exact .inl (by simp [Instr.findNow,Instr.sameNow])
  rcases hn with hn | ⟨rfl,rfl⟩
  ·rw [hn];have:=oF (P:=P) (w:=w) (fun a b=>heq w a b) a l es 0 p6
   simpa using this
  ·simp [Instr.findNow]
 ·obtain⟨cs,h1,_,h3⟩:=bz a;rw [h1];exact h3
theorem Ar {κ ν:Type} {ek:κ->Value} {ev:ν->Value} {es:List MapEntry} {l:List (κ×ν)} (h:es.map (fun e=>(e.key,e.val))=l.map fun p=>(ek p.1,ev p.2)):es.map (·.key)=(l.map (·.1)).map ek /\ es.map (·.val)=(l.map (·.2)).map ev:=by
 constructor
 ·have:=congrArg (List.map Prod.fst) h
  simpa [amJ,Function.comp_def] using this
 ·have:=congrArg (List.map Prod.snd) h
  simpa [amJ,Function.comp_def] using this
section
variable {κ ν:Type} [DecidableEq κ] {ek:κ->Value} {ev:ν->Value}
def ib (l:List (κ×ν)) (k:κ):Option ν:=((l.map (·.1)).findIdx? (fun b=>decide (b=k))).bind fun i=>(l[i]?).map (·.2)
def qM (l:List (κ×ν)) (k:κ) (v:ν):List (κ×ν):=
 match (l.map (·.1)).findIdx? (fun b=>decide (b=k)) with
 | some i=>l.set i (k,v)
 | none=>l++ [(k,v)]
def BR (l:List (κ×ν)) (k:κ):List (κ×ν):=
 match (l.map (·.1)).findIdx? (fun b=>decide (b=k)) with
 | some i=>l.eraseIdx i
 | none=>l
theorem jN (l:List (κ×ν)) (k:κ):ib l k=(l.find? (fun p=>decide (p.1=k))).map (·.2):=by
 induction l with
 | nil=>rfl
 | cons p l ih=>
  unfold ib at ih ⊢;simp only [alR,List.findIdx?_cons,am8];by_cases h:p.1=k
  ·simp [h]
  ·simp only [h,decide_false,amk,if_false];rw [<-ih]
   cases (l.map (·.1)).findIdx? (fun b=>decide (b=k)) <;> simp
theorem J1 (k:κ):ib ([]:List (κ×ν)) k=none:=rfl
theorem BS (l:List (κ×ν)) (k k':κ) (v:ν):ib (qM l k v) k'=if k'=k then some v else ib l k':=by
 simp only [jN];unfold qM
 split
 ·rename_i i hi
  obtain⟨av,h1,h2⟩:=amj.1 hi;simp only [alr] at av;simp only [List.getElem_map,decide_eq_true_eq] at h1;clear hi
  induction l generalizing i with
  | nil=>simp at av
  | cons p l ih=>
   cases i with
   | zero=>
    simp only [anu] at h1;simp only [alq,am8];by_cases hk:k'=k
    ·simp [hk]
    ·have: ¬k=k':=fun e=>hk e.symm;simp [hk,this,h1]
   | succ i=>
    have h0:=h2 0 (by omega);simp only [alR,anu,decide_eq_true_eq,Bool.not_eq_true,decide_eq_false_iff_not] at h0;simp only [alG,am8];by_cases hk:p.1=k'
    ·have: ¬k'=k:=fun e=>h0 (hk.trans e);simp [hk,this]
    ·simp only [hk,decide_false];refine ih i (by simpa using av) (fun j hj=>?_) (by simpa using av) (by simpa using h1);have:=h2 (j+1) (by omega)
     simpa using this
 ·rename_i hi
  simp only [am6,alu,decide_eq_false_iff_not] at hi;rw [List.find?_append];by_cases hk:k'=k
  ·subst hk;have:l.find? (fun p=>decide (p.1=k'))=none:=by
    rw [ant];intro p hp;have:=hi p.1 ⟨p,hp,rfl⟩
    simpa using this
   simp [this]
  ·have: ¬k=k':=fun e=>hk e.symm;simp [hk,this]
theorem zl (l:List (κ×ν)) (k:κ) (v:ν) (h:(l.map (·.1)).Nodup):((qM l k v).map (·.1)).Nodup:=by
 unfold qM
 split
 ·rename_i i hi
  obtain⟨av,h1,h2⟩:=amj.1 hi;simp only [decide_eq_true_eq] at h1;have:(l.set i (k,v)).map (·.1)=l.map (·.1):=by
   rw [amm,<-h1,an4]
  rw [this];exact h
 ·rename_i hi
  simp only [am6,decide_eq_false_iff_not] at hi;rw [alW,al1];refine⟨h,by simp,?_⟩;intro a ha b hb e;simp only [alR,amK,ali] at hb;exact hi a ha (e.trans hb)
theorem G4 (l:List (κ×ν)) (k:κ) (h:(l.map (·.1)).Nodup):((BR l k).map (·.1)).Nodup:=by
 unfold BR
 split
 ·rename_i i hi
  exact h.sublist ((anF _ _).map _)
 ·exact h
theorem zm {l:List (κ×ν)} {k:κ} (h:k ∉ l.map (·.1)):ib l k=none:=by
 rw [jN,anU,ant];intro p hp;simp only [decide_eq_true_eq];intro e;exact h (alu.2 ⟨p,hp,e⟩)
theorem J2 (l:List (κ×ν)) (k k':κ) (h:(l.map (·.1)).Nodup):ib (BR l k) k'=if k'=k then none else ib l k':=by
 unfold BR
 split
 ·rename_i i hi
  obtain⟨av,h1,h2⟩:=amj.1 hi;simp only [decide_eq_true_eq] at h1;clear hi h2;simp only [alr] at av
  induction l generalizing i with
  | nil=>simp at av
  | cons p l ih=>
   simp only [alR,al6] at h
   cases i with
   | zero=>
    simp only [alR,anu] at h1;simp only [List.eraseIdx_cons_zero];by_cases hk:k'=k
    ·rw [if_pos hk,zm];rw [hk,<-h1];exact h.1
    ·rw [if_neg hk];have: ¬p.1=k':=fun e=>hk (e.symm.trans h1);simp [jN,am8,this]
   | succ i=>
    have uD:(l.map (·.1))[i]'(by simpa using av)=k:=by simpa using h1
    have Rx:=ih h.2 i (by simpa using av) uD (by simpa using av);simp only [anq];have UG:p.1≠k:=by
     intro e;apply h.1;rw [e,<-uD];exact alz _
    simp only [jN,am8] at Rx ⊢;by_cases hk:p.1=k'
    ·have: ¬k'=k:=fun e=>UG (hk.trans e);simp [hk,this]
    ·simp only [hk,decide_false];exact Rx
 ·rename_i hi
  by_cases hk:k'=k
  ·rw [if_pos hk,hk];apply zm;simp only [am6,decide_eq_false_iff_not] at hi;intro hm;exact hi k hm rfl
  ·rw [if_neg hk]
def dW (b:Nat) (ek:κ->Value) (ev:ν->Value) (g:κ->Option ν):aa:=
  { holds:=fun w O=> ∃l:List (κ×ν),(G0 b (l.map fun p=>(ek p.1,ev p.2))).holds w O /\ (l.map (·.1)).Nodup /\ ∀k,ib l k=g k
    fr:=fun{S w w' O} h hf hn=>by
      obtain⟨l,h1,h2,h3⟩:=h;exact⟨l,(G0 b (l.map fun p=>(ek p.1,ev p.2))).fr h1 hf hn,h2,h3⟩
    lt:=fun{w O} h=>by
      obtain⟨l,h1,h2,h3⟩:=h;exact(G0 b (l.map fun p=>(ek p.1,ev p.2))).lt h1}
def aG (g:κ->Option ν) (k:κ) (v:Option ν):κ->Option ν:=fun k'=>if k'=k then v else g k'
theorem eK {α β:Type} (f:α->β): ∀(l:List α) (i:Nat),(l.eraseIdx i).map f=(l.map f).eraseIdx i
 | [],_=>rfl
 | _ :: _,0=>rfl
 | x :: l,i+1=>by simp [eK f l i]
namespace Hp
variable {S:List Nat} {w0 w:World} {ae:List aa} {P:Program}
theorem zn (h:Hp S w0 w ae) {i b:Nat} (ek:κ->Value) (ev:ν->Value) (hi:ae[i]? =some (G0 b [])):Hp S w0 w (ae.set i (dW b ek ev fun _=>none)):=
 h.rP hi rfl (fun w O hO=>⟨[],hO,by simp,fun k=>rfl⟩) rfl
theorem lookup (h:Hp S w0 w ae) (i:Nat) {b:Nat} {g:κ->Option ν} {mt kt vt:TypeId} {kd:Kd} {inf:TypeInfo} {k:κ} {vk:ν->kd.T} {z:kd.T} {K:kd.T->Bool->World->Prop} {kv:Value} (Im:kv=ek k)
  (hi:(ae[i]?).map aa.holds=some (dW b ek ev g).holds) (hm:P.underlying mt=some (.map kt vt)) (hk:BP P kt ek) (iE:P.info? vt=some inf) (hz:inf.zero=some (kd.inj z)) (hv: ∀v,ev v=kd.inj (vk v))
  (hK:K (match g k with | some v=>vk v | none=>z) (g k).isSome w):
  gB [.one kd,.one .b] P (Instr.lookup mt (.map (some b)) kv true) w K:=by
 subst Im;obtain⟨O,l,⟨⟨es,clock,hb,p6,_⟩,_⟩,bJ,hg⟩:=h.de hi;have j7: ∀w',Ext w w'->w'.heap[b]? =some (.map es clock):=fun w' he=>(he.2 b (als.1 hb).1).trans hb;obtain⟨k1,k2⟩:=Ar p6;refine⟨.tuple #[kd.inj (match g k with | some v=>vk v | none=>z),.bool (g k).isSome],fun w' he=>?_,?_⟩
 ·have hf:=hk.fnd w' k _ _ k1;simp only [Instr.lookup,Sem.run_bind,run_underlying hm,Result.andThen_ok,MapKept.run_getObj_map (j7 w' he),Sem.run_pure,hk.chk,hf];rw [<-hg k];unfold ib
  cases hx:(l.map (·.1)).findIdx? (fun b=>decide (b=k)) with
  | none=>simp [zeroValue,typeInfo,iE,hz]
  | some j=>
   obtain⟨av,_,_⟩:=amj.1 hx;simp only [alr] at av;have e1:(es.toList.map (·.val))[j]? =some (ev (l[j]).2):=by rw [k2];simp [av]
   rw [alc,alH] at e1;obtain⟨en,h1,h2⟩:=e1;have uD:es[j]? =some en:=by simpa using h1
   simp [uD,h2,av,hv]
 ·show dx _ _ _ _;simp only [dx,rk,flat,wk,lM,nD,Sh.kds,List.append];show Kd.view kd (kd.inj _) _;rw [Kd.Bg];exact hK
theorem update (h:Hp S w0 w ae) (i:Nat) {b:Nat} {g:κ->Option ν} {mt kt vt:TypeId} {k:κ} {v:ν} {u:Value} {K:World->Prop} {kv:Value} (Im:kv=ek k)
  (hi:ae[i]? =some (dW b ek ev g)) (hm:P.underlying mt=some (.map kt vt)) (hk:BP P kt ek) (hu:u=ev v)
  (hK: ∀w',Hp S w0 w' (ae.set i (dW b ek ev (aG g k (some v))))->K w'):
  rm P (Instr.mapUpdate mt (.map (some b)) kv u) w K:=by
 subst Im;subst hu;obtain⟨O,⟨l,⟨⟨es,clock,hb,p6,BT⟩,rfl⟩,bJ,hg⟩,back⟩:=h.step hi rfl;obtain⟨k1,k2⟩:=Ar p6;have hf:=hk.fnd w k _ _ k1;have key: ∀(Dh:Array MapEntry) (kr:Nat),Dh.toList.map (fun e=>(e.key,e.val))=(qM l k v).map (fun p=>(ek p.1,ev p.2))->tH (Dh.toList.map (·.born)) kr->K { w with heap:=w.heap.setIfInBounds b (.map Dh kr)}:=by
  intro Dh kr he vq;obtain⟨s1,s2⟩:=MapKept.heap_set (o':=.map Dh kr) hb;refine hK _ (back (t':=dW b ek ev (aG g k (some v))) (O':= [b]) ⟨rfl,rfl,rfl,by simp,fun r _ hr=>s2 r (by simpa using hr)⟩ ⟨qM l k v,⟨⟨Dh,kr,s1,he,vq⟩,rfl⟩,zl l k v bJ,fun k'=>?_⟩ (fun k hk=>.inl hk) rfl);rw [BS,aG,hg]
 unfold rm;simp only [Instr.mapUpdate,Sem.run_bind,run_underlying hm,Result.andThen_ok,MapKept.run_getObj_map hb,hk.chk,hf]
 cases hx:(l.map (·.1)).findIdx? (fun b=>decide (b=k)) with
 | none=>
  simp only [Option.bind_none,MapKept.run_setObj_map _ hb];refine⟨_,rfl,key _ _ ?_ ?_⟩
  ·simp only [qM,hx];simp [p6]
  ·rw [Array.toList_push,alW];refine⟨al1.2 ⟨BT.1,by simp,fun x hx y hy=>?_⟩,fun x hx=>?_⟩
   ·simp only [alR,amK,ali] at hy;have:=BT.2 x hx;omega
   ·rcases alg.1 hx with hx | hx
    ·have:=BT.2 x hx;omega
    ·simp only [alR,amK,ali] at hx;omega
 | some j=>
  obtain⟨av,hj,_⟩:=amj.1 hx;simp only [alr] at av;simp only [List.getElem_map,decide_eq_true_eq] at hj;have hlen:es.size=l.length:=by have:=congrArg List.length p6;simpa using this
  have QD:j < es.size:=by omega
  have ac9:es[j].key=ek k:=by
   have:(es.toList.map (·.key))[j]? =some (ek (l[j]).1):=by rw [k1];simp [av]
   simp only [alc,anh,amU QD,al8,ald] at this;rw [this,hj]
  have bW:(Instr.keyThatStays (ek k) (ek k)).run P w=.ok (ek k) w:=by
   simp [Instr.keyThatStays,hk.same]
  simp only [Option.bind_some,anh,amU QD,al8,amu,ac9,Sem.run_bind,bW,Result.andThen_ok,MapKept.run_setObj_map _ hb];refine⟨_,rfl,key _ _ ?_ ?_⟩
  case refine_2=>
   have: ∀f:MapEntry->MapEntry,(∀e,(f e).born=e.born)->(es.modify j f).toList.map (·.born)=es.toList.map (·.born):=fun f hf=>by
    apply alM;intro m;simp only [alc,anh,an3];by_cases hm:j=m
    ·subst hm;simp [amU QD,hf]
    ·simp [hm]
   rw [this (fun e=>{ key:=ek k,val:=ev v,born:=e.born}) (fun e=>rfl)];exact BT
  simp only [qM,hx];apply alM;intro m;have ada: ∀m:Nat,(es[m]?).map (fun e=>(e.key,e.val))=(l[m]?).map (fun p=>(ek p.1,ev p.2)):=by
   intro m;have:=congrArg (fun x=>x[m]?) p6
   simpa [alc] using this
  simp only [alc,anh,an3,alN];by_cases hm:j=m
  ·subst hm;simp [av,amU QD]
  ·simp only [hm,if_false];exact ada m
theorem delete (h:Hp S w0 w ae) (i:Nat) {b:Nat} {g:κ->Option ν} {mt kt vt d ty:TypeId} {k:κ} {K:Value->World->Prop} {kv:Value} (Im:kv=ek k)
  (hi:ae[i]? =some (dW b ek ev g)) (hm:P.underlying mt=some (.map kt vt)) (hk:BP P kt ek)
  (hK: ∀v w',Hp S w0 w' (ae.set i (dW b ek ev (aG g k none)))->K v w'):
  cA .v P (Builtin.delete_ #[mt,d] ty #[.map (some b),kv]) w K:=by
 subst Im;obtain⟨O,⟨l,⟨⟨es,clock,hb,p6,BT⟩,rfl⟩,bJ,hg⟩,back⟩:=h.step hi rfl;obtain⟨k1,k2⟩:=Ar p6;have hf:=hk.fnd w k _ _ k1;have key: ∀(Dh:Array MapEntry) (kr:Nat),Dh.toList.map (fun e=>(e.key,e.val))=(BR l k).map (fun p=>(ek p.1,ev p.2))->tH (Dh.toList.map (·.born)) kr->K (.tuple #[]) { w with heap:=w.heap.setIfInBounds b (.map Dh kr)}:=by
  intro Dh kr he vq;obtain⟨s1,s2⟩:=MapKept.heap_set (o':=.map Dh kr) hb;refine hK _ _ (back (t':=dW b ek ev (aG g k none)) (O':= [b]) ⟨rfl,rfl,rfl,by simp,fun r _ hr=>s2 r (by simpa using hr)⟩ ⟨BR l k,⟨⟨Dh,kr,s1,he,vq⟩,rfl⟩,G4 l k bJ,fun k'=>?_⟩ (fun k hk=>.inl hk) rfl);rw [J2 _ _ _ bJ,aG,hg]
 refine⟨.tuple #[],?_⟩;have e0:(#[mt,d]:Array TypeId)[0]? =some mt:=rfl;have e1:(#[Value.map (some b),ek k]:Array Value)[0]? =some (.map (some b)):=rfl;have e2:(#[Value.map (some b),ek k]:Array Value)[1]? =some (ek k):=rfl;simp only [Builtin.delete_,e0,e1,e2,Sem.run_bind,run_underlying hm,Result.andThen_ok,MapKept.run_getObj_map hb,hk.chk,hf,Kd.inj]
 cases hx:(l.map (·.1)).findIdx? (fun b=>decide (b=k)) with
 | none=>
  simp only [Option.bind_none,Sem.run_bind,MapKept.run_setObj_map _ hb,Result.andThen_ok,Sem.run_pure];refine⟨_,rfl,key _ _ ?_ BT⟩;simp only [BR,hx,p6]
 | some j=>
  obtain⟨av,hj,_⟩:=amj.1 hx;simp only [alr] at av;have hlen:es.size=l.length:=by have:=congrArg List.length p6;simpa using this
  have QD:j < es.size:=by omega
  simp only [Option.bind_some,anh,amU QD,al8,Sem.run_bind,MapKept.run_setObj_map _ hb,Result.andThen_ok,Sem.run_pure];refine⟨_,rfl,key _ _ ?_ ?_⟩
  ·simp only [BR,hx];rw [Array.toList_eraseIdxIfInBounds,eK,p6,eK]
  ·rw [Array.toList_eraseIdxIfInBounds,eK];exact⟨BT.1.sublist (anF _ _),fun x hx=>BT.2 x (List.mem_of_mem_eraseIdx hx)⟩
end Hp
end
end Go.Den
end

section
namespace Go.Proofs.YtcccjgmekakabaaGreat.FT
open F
open Go Go.Den Go.Proofs
abbrev bw:=Int×Int
def ct (e:bw):Value:=.agg #[.int .i64 e.1,.int .i64 e.2]
def fo (e:bw):List Value:= [.int .i64 e.1,.int .i64 e.2]
def iv (n:Int):List Value:= [.int .i64 n]
def G5 (s:Sl):List Value:= [.slice s.a s.len s.cap]
theorem cu (e:bw):(fo e).length=2:=rfl
theorem aB (e:Int):(iv e).length=1:=rfl
theorem jO (e:Sl):(G5 e).length=1:=rfl
theorem zo {x y:Operand} {a b c d:Int} {w:World} {K:Bool->Prop} (hK:K (a ==c && b ==d)):
  iH .b Tryz.prog (cH .eql 33 x y (.agg #[.int .i64 a,.int .i64 b]) (.agg #[.int .i64 c,.int .i64 d])) w K:=by
 refine Qq (r:=(a ==c && (b ==d && true))) (by kernel_rfl) (by kernel_rfl) (by kernel_rfl) (by kernel_rfl) ?_;rw [Bool.and_true];exact hK
theorem QE {x y:Operand} {a b c d:Int} {w:World} {K:Bool->Prop} (hK:K (!(a ==c && b ==d))):
  iH .b Tryz.prog (cH .neq 33 x y (.agg #[.int .i64 a,.int .i64 b]) (.agg #[.int .i64 c,.int .i64 d])) w K:=by
 refine W0 (r:=(a ==c && (b ==d && true))) (by kernel_rfl) (by kernel_rfl) (by kernel_rfl) (by kernel_rfl) ?_;rw [Bool.and_true];exact hK
theorem QF:Tryz.prog.underlying 33=some (.struct (Tryz.prog.fieldsOf 33)):=by kernel_rfl
theorem dH:BP Tryz.prog 33 ct:=by
 refine BQ QF (fun a=>⟨_,rfl,?_,?_⟩) (fun w a b=>?_)
 ·have J3:(Tryz.prog.fieldsOf 33).toList.map (fun f=>(Tryz.prog.underlying f.type,f.offset))= [(some (.int .i64),0),(some (.int .i64),1)]:=by kernel_rfl
  intro f hf;have:(Tryz.prog.underlying f.type,f.offset)∈ [(some (TypeDesc.int .i64),0),(some (.int .i64),1)]:=by
   rw [<-J3];exact alu.2 ⟨f,hf,rfl⟩
  simp only [alF,amA,amp,or_false] at this
  rcases this with ⟨h1,h2⟩ | ⟨h1,h2⟩
  ·exact⟨.i64,a.1,h1,by rw [h2];rfl⟩
  ·exact⟨.i64,a.2,h1,by rw [h2];rfl⟩
 ·show Instr.sameBits (9999+1) _ _=true;simp [Instr.sameBits]
 ·obtain⟨a1,a2⟩:=a;obtain⟨b1,b2⟩:=b;have e:(Op.equal 33 (ct (a1,a2)) (ct (b1,b2))).run Tryz.prog w=.ok (a1 ==b1 && (a2 ==b2 && true)) w:=by
   show (Op.equalIn (9998+1+1) 33 (.agg _) (.agg _)).run Tryz.prog w=_;rw [run_equalIn_struct (P:=Tryz.prog) w (9998+1) 33 _ _ QF (by kernel_rfl)];exact vM (by kernel_rfl)
  rw [e];congr 1;by_cases h1:a1=b1
  ·by_cases h2:a2=b2
   ·simp [h1,h2]
   ·have: ¬b2=a2:=fun e=>h2 e.symm;simp [h1,h2,this]
  ·have: ¬b1=a1:=fun e=>h1 e.symm;simp [h1,this]
theorem J4: ∃inf:TypeInfo,Tryz.prog.info? 33=some inf /\ inf.zero=some (.agg #[.int .i64 0,.int .i64 0]) /\ inf.size=2 /\ inf.bytes=16:=fU (by kernel_rfl)
theorem ku: ∃inf:TypeInfo,Tryz.prog.info? 2=some inf /\ inf.zero=some (.int .i64 0) /\ inf.size=1 /\ inf.bytes=8:=fU (by kernel_rfl)
theorem XQ: ∃inf:TypeInfo,Tryz.prog.info? 34=some inf /\ inf.zero=some (.slice none 0 0) /\ inf.size=1 /\ inf.bytes=24:=fU (by kernel_rfl)
theorem eS:Tryz.prog.underlying 34=some (.slice 2):=by kernel_rfl
theorem QG:Tryz.prog.underlying 43=some (.slice 33):=by kernel_rfl
theorem XR:Tryz.prog.underlying 46=some (.slice 34):=by kernel_rfl
theorem zp:Tryz.prog.underlying 88=some (.map 33 3):=by kernel_rfl
theorem nW: ∃inf:TypeInfo,Tryz.prog.info? 3=some inf /\ inf.zero=some (.int .i64 0) /\ inf.size=1 /\ inf.bytes=8:=fU (by kernel_rfl)
structure az where
 n:Nat
 rows:List (bw×List Int)
namespace az
def aw (m:az):List bw:=m.rows.map (·.1)
def k5 (m:az) (c:Nat):List Int:=m.rows.map fun r=>r.2.getD c 0
def iF (m:az):List (List Int):=(List.range m.n).map m.k5
def at_ (m:az) (e:bw):Option Nat:=m.aw.findIdx? fun x=>decide (x=e)
structure Ok (m:az):Prop where
 QH:m.n<=48
 Ej:m.rows.length<=200
 nd:m.aw.Nodup
 len: ∀r∈m.rows,r.2.length=m.n
theorem cC (m:az):m.aw.length=m.rows.length:=by simp [aw]
theorem ng (m:az) (c:Nat):(m.k5 c).length=m.rows.length:=by simp [k5]
theorem BU (m:az):m.iF.length=m.n:=by simp [iF]
theorem oG (m:az) {c:Nat} (h:c < m.n):m.iF[c]? =some (m.k5 c):=by simp [iF,h]
end az
def jV (m:az) (e:bw):Option Int:=(m.at_ e).map fun(i:Nat)=>(i:Int)
def nh (s:Sl) (l:List Int):aa:=aj s 2 1 iv l
def iw (ss:List Sl) (ls:List (List Int)):aa:=ak (List.zipWith nh ss ls)
theorem mb {ss:List Sl} {ls:List (List Int)} {c:Nat} {s:Sl} {l:List Int} (h1:ss[c]? =some s) (h2:ls[c]? =some l):(List.zipWith nh ss ls)[c]? =some (nh s l):=by
 simp [List.getElem?_zipWith,h1,h2]
theorem pJ: ∀{ss:List Sl} {ls:List (List Int)} {c:Nat} {s:Sl} {l:List Int},(List.zipWith nh ss ls).set c (nh s l)=List.zipWith nh (ss.set c s) (ls.set c l)
 | [],_,_,_,_=>by simp
 | _ :: _,[],_,_,_=>by simp
 | _ :: _,_ :: _,0,_,_=>by simp
 | _ :: ss,_ :: ls,c+1,_,_=>by simp [pJ (ss:=ss) (ls:=ls)]
def XS (b:Nat) (m:az) (so sc:Sl) (ss:List Sl) (bm:Nat):aa:=
 bo (af b 186 [.slice so.a so.len so.cap,.slice sc.a sc.len sc.cap,.map (some bm)]) (bo (aj so 33 2 fo m.aw) (bo (aj sc 34 1 G5 ss) (bo (iw ss m.iF) (dW bm ct (Value.int .i64) (jV m)))))
def fA (b:Nat) (m:az):aa:=Mx fun x:Sl×Sl×List Sl×Nat=>kZ (x.2.2.1.length=m.n) (XS b m x.1 x.2.1 x.2.2.1 x.2.2.2)
section
variable {S:List Nat} {w0 w:World} {ae:List aa}
theorem xn (h:Hp S w0 w ae) {i b:Nat} {m:az} (hi:ae[i]? =some (fA b m)):
  ∃so sc ss bm,ss.length=m.n /\ Hp S w0 w (ae.set i (af b 186 [.slice so.a so.len so.cap,.slice sc.a sc.len sc.cap,.map (some bm)])++ [aj so 33 2 fo m.aw,aj sc 34 1 G5 ss,iw ss m.iF,dW bm ct (Value.int .i64) (jV m)]):=by
 have hl:=(ak6.1 hi).1;obtain⟨⟨so,sc,ss,bm⟩,h⟩:=h.nf hi (fun _=>rfl);obtain⟨hn,h⟩:=h.lp (i:=i) (by simp [hl];rfl) rfl;have h:=h.split (i:=i) (by simp [hl];rfl) rfl rfl;have e1: ∀(l:List aa) (t:aa),(l++ [t])[l.length]? =some t:=fun l t=>by simp
 have h:=h.split (e1 _ _) rfl rfl;simp only [alj _ _ (alA _),alK,alq] at h;have h:=h.split (e1 _ _) rfl rfl;rw [alj _ _ (alA _),alK,alq] at h;have h:=h.split (e1 _ _) (aM _) rfl;rw [alj _ _ (alA _),alK,alq] at h;refine⟨so,sc,ss,bm,hn,?_⟩
 simpa using h
theorem iU {b:Nat} {m:az} {so sc:Sl} {ss:List Sl} {bm:Nat} {rest:List aa} (hn:ss.length=m.n)
  (h:Hp S w0 w (af b 186 [.slice so.a so.len so.cap,.slice sc.a sc.len sc.cap,.map (some bm)] :: aj so 33 2 fo m.aw :: aj sc 34 1 G5 ss :: iw ss m.iF :: dW bm ct (Value.int .i64) (jV m) :: rest)):
  Hp S w0 w (fA b m :: rest):=by
 have h:=h.aV (i:=3) (j:=4) (by omega) rfl rfl (aM _) rfl;have h:=h.aV (i:=2) (j:=3) (by omega) rfl rfl rfl rfl;have h:=h.aV (i:=1) (j:=2) (by omega) rfl rfl rfl rfl;have h:=h.aV (i:=0) (j:=1) (by omega) rfl rfl rfl rfl;have h:=h.kq (i:=0) hn rfl rfl;have h:=h.nH (f:=fun x:Sl×Sl×List Sl×Nat=>kZ (x.2.2.1.length=m.n) (XS b m x.1 x.2.1 x.2.2.1 x.2.2.2)) (i:=0) (so,sc,ss,bm) rfl rfl;have h:Hp S w0 w (fA b m :: ao :: ao :: ao :: ao :: rest):=h;exact h.fY.fY.fY.fY
theorem pK (h:Hp S w0 w ae) (i:Nat) {b:Nat} {m:az} (hi:(ae[i]?).map aa.holds=some (fA b m).holds):
  ∃so sc ss bm,ss.length=m.n /\ Hp [] w w [(af b 186 [.slice so.a so.len so.cap,.slice sc.a sc.len sc.cap,.map (some bm)]).ro,(aj so 33 2 fo m.aw).ro,(aj sc 34 1 G5 ss).ro,(iw ss m.iF).ro,(dW bm ct (Value.int .i64) (jV m)).ro]:=by
 obtain⟨O,⟨so,sc,ss,bm⟩,hn,O1,O2,h1,⟨O3,O4,h2,⟨O5,O6,h3,⟨O7,O8,h4,h5,_⟩,_⟩,_⟩,_⟩:=h.de hi;exact⟨so,sc,ss,bm,hn,(((((Hp.init w).dC h1 (by simp)).dC h2 (by simp)).dC h3 (by simp)).dC h4 (by simp)).dC h5 (by simp)⟩
theorem FM (h:Hp S w0 w ae) (i:Nat) {ss:List Sl} {ls:List (List Int)} {c:Nat} {s:Sl} {l:List Int} (hi:ae[i]? =some (iw ss ls).ro) (h1:ss[c]? =some s) (h2:ls[c]? =some l):Hp S w0 w (ae++ [(aj s 2 1 iv l).ro]):=by
 obtain⟨O,hO,back⟩:=h.FK hi;obtain⟨O1,O2,g1,g2,g3,g4⟩:=dk (mb h1 h2) hO;exact back g1 fun k hk=>(g4 k).2 (.inl hk)
theorem qN (h:Hp S w0 w ae) (i:Nat) {b:Nat} {m:az} (hi:(ae[i]?).map aa.holds=some (fA b m).holds) {row:Int} {K:Bool->World->Prop} (hK:K (decide (0<=row /\ row < m.rows.length)) w):I3 (some ⟨b,0,none⟩) row w K:=by
 refine OE ?_;unfold f152;obtain⟨so,sc,ss,bm,hn,h⟩:=pK h i hi;have hl:=h.len 1 rfl;rw [az.cC] at hl;by_cases h0:row>=0
 ·refine aL (by simpa using h0) ?_;refine aS ?_;refine h.bE (x:=so) 0 rfl rfl ?_;rw [<-hl];have e:decide (0<=row /\ row < (m.rows.length:Int))=decide (row < (m.rows.length:Int)):=by simp;omega
  rw [<-e];exact hK
 ·refine aJ (by simpa using h0) ?_;have e:decide (0<=row /\ row < (m.rows.length:Int))=false:=by simp;omega
  rw [<-e];exact hK
theorem BV (h:Hp S w0 w ae) (i:Nat) {b:Nat} {m:az} (hi:(ae[i]?).map aa.holds=some (fA b m).holds) {K:Int->World->Prop} (hK:K m.rows.length w):GI (some ⟨b,0,none⟩) w K:=by
 refine NR ?_;unfold f103;obtain⟨so,sc,ss,bm,hn,h⟩:=pK h i hi;have hl:=h.len 1 rfl;rw [az.cC] at hl;refine aS ?_;refine h.bE (x:=so) 0 rfl rfl ?_;rw [<-hl];exact hK
theorem tI (h:Hp S w0 w ae) (i:Nat) {b:Nat} {m:az} (hi:(ae[i]?).map aa.holds=some (fA b m).holds) {e:bw} {K:Int->World->Prop} (hK: ∀w',Hp S w0 w' ae->K ((jV m e).getD (-1)) w'):DO (some ⟨b,0,none⟩) e.1 e.2 w K:=by
 refine N5 ?_;unfold f118;obtain⟨so,sc,ss,bm,hn,h1⟩:=pK h i hi;refine h1.nw (c:= [_,_]) fun be w h1=>?_;refine h1.dr fun w h1=>?_;refine aS ?_;refine h1.ld (x:=some bm) 0 rfl rfl ?_;refine h1.bE (x:=e.1) 5 rfl rfl ?_;refine h1.ld (x:=e.2) 5 rfl rfl ?_;obtain⟨inf,q1,q2,_⟩:=nW;refine Hp.lookup (kd:=.i .i64) (vk:=id) (z:=(0:Int)) (ek:=ct) (g:=jV m) (k:=e) h1 4 rfl rfl zp dH q1 q2 (fun _=>rfl) ?_;have:=hK _ (h.cn h1.fr)
 cases hg:jV m e with
 | none=>rw [hg] at this;exact aJ (by simp) this
 | some v=>rw [hg] at this;exact aL (by simp) this
def az.rS (m:az) (row c:Int):Int:=if 0<=row /\ row < m.rows.length then if 0<=c /\ c < m.n then 0 else 63 else 50
theorem G6 (h:Hp S w0 w ae) (i:Nat) {b:Nat} {m:az} (hi:(ae[i]?).map aa.holds=some (fA b m).holds) {row c:Int} {K:Int->World->Prop} (hK:K (m.rS row c) w):SA (some ⟨b,0,none⟩) row c w K:=by
 refine OK ?_;unfold f159;refine qN h i hi ?_;obtain⟨so,sc,ss,bm,hn,h⟩:=pK h i hi;have hl:=h.len 2 rfl;by_cases hr:0<=row /\ row < m.rows.length
 ·refine aJ (by simp [hr]) ?_;unfold az.rS at hK;rw [if_pos hr] at hK;by_cases h0:c < 0
  ·rw [if_neg (by omega)] at hK;exact aL (by simpa using h0) hK
  ·refine aJ (by simpa using h0) ?_;refine aS ?_;refine h.ld (x:=sc) 0 rfl rfl ?_;by_cases hc:c>=(sc.len:Int)
   ·rw [if_neg (by omega)] at hK;exact aL (by simpa using hc) hK
   ·rw [if_pos (by omega)] at hK;exact aJ (by simpa using hc) hK
 ·unfold az.rS at hK;rw [if_neg hr] at hK;exact aL (by simp only [decide_eq_false hr];rfl) hK
end
end Go.Proofs.YtcccjgmekakabaaGreat.FT
end

section
namespace Go.Proofs.YtcccjgmekakabaaGreat.FT
open F
open Go Go.Den Go.Proofs
namespace az
theorem J5 {m:az} (h:m.aw.Nodup) {e:bw} {i:Nat}:m.at_ e=some i↔m.aw[i]? =some e:=by
 unfold at_;rw [amj];constructor
 ·rintro⟨h1,h2,_⟩;simp only [decide_eq_true_eq] at h2;rw [alf h1,h2]
 ·intro hi;obtain⟨h1,h2⟩:=ak6.1 hi;refine⟨h1,by simpa using h2,fun j hj=>?_⟩;simp only [decide_eq_true_eq];intro e';have:=(List.getElem_inj (h₀:=Nat.lt_trans hj h1) (h₁:=h1) h).1 (e'.trans h2.symm);omega
theorem OU {m:az} {e:bw}:m.at_ e=none↔e ∉ m.aw:=by
 unfold at_;rw [am6];constructor
 ·intro h hm;have:=h e hm;simp at this
 ·intro h x hx;simp only [decide_eq_false_iff_not];rintro rfl;exact h hx
theorem rT {m:az} (h:m.aw.Nodup) {e:bw} {i:Nat}:jV m e=some (i:Int)↔m.aw[i]? =some e:=by
 unfold jV;rw [<-J5 h,alH];constructor
 ·rintro⟨j,hj,he⟩;rw [hj];congr 1;omega
 ·intro hi;exact⟨i,hi,rfl⟩
theorem xo {m:az} {e:bw}:jV m e=none↔e ∉ m.aw:=by
 unfold jV;rw [anU,OU]
theorem xp {m:az} (h:m.aw.Nodup) {e:bw} {x:Int} (hx:jV m e=some x): ∃i:Nat,x=i /\ m.aw[i]? =some e:=by
 unfold jV at hx;rw [alH] at hx;obtain⟨i,hi,rfl⟩:=hx;exact⟨i,rfl,(J5 h).1 hi⟩
theorem FN {m:az} (h:m.aw.Nodup) {g:bw->Option Int} (h1: ∀e x,g e=some x-> ∃i:Nat,x=i /\ m.aw[i]? =some e) (h2: ∀e (i:Nat),m.aw[i]? =some e->g e=some (i:Int)):g=jV m:=by
 funext e
 cases hg:g e with
 | some x=>
  obtain⟨i,rfl,hi⟩:=h1 e x hg;exact((rT h).2 hi).symm
 | none=>
  symm
  rw [xo];intro hm;obtain⟨i,hi⟩:=aly hm;rw [h2 e i hi] at hg
  cases hg
def add (m:az) (e:bw) (vs:List Int):az:=⟨m.n,m.rows++ [(e,vs)]⟩
def set (m:az) (row c:Nat) (x:Int):az:=⟨m.n,m.rows.modify row fun r=>(r.1,r.2.set c x)⟩
def del (m:az) (row:Nat):az:=⟨m.n,(m.rows.set row (m.rows.getLastD ((0,0),[]))).dropLast⟩
theorem kx (m:az) (e:bw) (vs:List Int):(m.add e vs).aw=m.aw++ [e]:=by simp [add,aw]
theorem OV (m:az) (e:bw) (vs:List Int) (c:Nat):(m.add e vs).k5 c=m.k5 c++ [vs.getD c 0]:=by simp [add,k5]
theorem Ok.add {m:az} (h:m.Ok) {e:bw} {vs:List Int} (hl:vs.length=m.n) (h2:m.rows.length < 200) (he:e ∉ m.aw):(m.add e vs).Ok:=by
 refine⟨h.QH,by simp [az.add];omega,?_,?_⟩
 ·rw [kx,al1];refine⟨h.nd,by simp,?_⟩;intro a ha b hb e';simp only [ali] at hb;exact he (by rw [<-hb,<-e'];exact ha)
 ·intro r hr;simp only [az.add,alg,ali] at hr
  rcases hr with hr | rfl
  ·exact h.len r hr
  ·exact hl
theorem UH {m:az} (h:m.aw.Nodup) {e:bw} (he:e ∉ m.aw) (vs:List Int):aG (jV m) e (some (m.rows.length:Int))=jV (m.add e vs):=by
 have hn:(m.add e vs).aw.Nodup:=by
  rw [kx,al1];refine⟨h,by simp,?_⟩;intro a ha b hb e';simp only [ali] at hb;exact he (by rw [<-hb,<-e'];exact ha)
 refine FN hn ?_ ?_
 ·intro e' x hx;unfold aG at hx;rw [kx]
  split at hx
  ·rename_i iD
   simp only [ald] at hx;refine⟨m.rows.length,hx.symm,?_⟩;rw [ak8 (by rw [cC];omega),cC,alK,iD];rfl
  ·obtain⟨i,hi,h2⟩:=xp h hx;exact⟨i,hi,by rw [ak9 (ak6.1 h2).1];exact h2⟩
 ·intro e' i hi;rw [kx] at hi;unfold aG;by_cases hl:i < m.aw.length
  ·rw [ak9 hl] at hi;rw [if_neg]
   ·exact(rT h).2 hi
   ·rintro rfl;exact he (ala hi)
  ·rw [ak8 (by omega)] at hi;have hz:i - m.aw.length=0:=by
    rcases amL (i - m.aw.length) with h | h
    ·exact h
    ·rw [alE (by simp only [am4];omega)] at hi;cases hi
   rw [hz] at hi;simp only [alo,ald] at hi;rw [if_pos hi.symm];have:=m.cC;congr 1;omega
theorem xr (m:az) (row c:Nat) (x:Int):(m.set row c x).aw=m.aw:=by
 unfold set aw;apply alM;intro i;simp only [alc,List.getElem?_modify]
 cases m.rows[i]? with
 | none=>rfl
 | some r=>
  simp only [al8]
  split <;> rfl
theorem OW {m:az} (h:m.Ok) {row c:Nat} {x:Int} (hc:c < m.n) (k:Nat):(m.set row c x).k5 k=if k=c then (m.k5 c).set row x else m.k5 k:=by
 unfold set k5;apply alM;intro i;simp only [alc,List.getElem?_modify];have hl: ∀r,m.rows[i]? =some r->r.2.length=m.n:=fun r hr=>h.len r (ala hr);by_cases hk:k=c
 ·rw [if_pos hk,alN,alc]
  cases hr:m.rows[i]? with
  | none=>
   have:=am7.1 hr;by_cases e:row=i
   ·rw [if_pos e];simp;omega
   ·rw [if_neg e];rfl
  | some r=>
   have:=hl r hr;have hi:=(ak6.1 hr).1;by_cases e:row=i
   ·rw [if_pos e];simp [e,hi,hk,show c < r.2.length by omega]
   ·rw [if_neg e];simp [e,hk]
 ·rw [if_neg hk,alc]
  cases hr:m.rows[i]? with
  | none=>rfl
  | some r=>
   by_cases e:row=i
   ·simp only [e,if_true,al8,alk,Option.map_eq_map];rw [alC (fun h=>hk h.symm)]
   ·simp [e]
theorem J6 {m:az} (h:m.Ok) {row c:Nat} {x:Int} (hc:c < m.n):(m.set row c x).iF=m.iF.set c ((m.k5 c).set row x):=by
 unfold iF;show (List.range m.n).map _=_;apply alM;intro k;simp only [alc,alN];by_cases hk:k < m.n
 ·rw [amC hk];simp only [al8,OW h hc];by_cases e:c=k
  ·rw [if_pos e,if_pos e.symm,if_pos (by simpa using hc)]
  ·rw [if_neg e,if_neg (fun h=>e h.symm)]
 ·rw [alE (by simp;omega)];rw [if_neg (by omega)];rfl
theorem UI {m:az} (row c:Nat) (x:Int):jV (m.set row c x)=jV m:=by
 funext e
 unfold jV at_;rw [xr]
theorem J7 {m:az} (h:0 < m.rows.length):m.rows.getLastD ((0,0),[])=m.rows[m.rows.length - 1]:=by
 rw [List.getLastD_eq_getLast?,List.getLast?_eq_getElem?,alf (by omega)];rfl
theorem mc (m:az) (row:Nat) (i:Nat) (h:0 < m.rows.length):(m.del row).rows[i]? =if i < m.rows.length - 1 then if i=row then m.rows[m.rows.length - 1]? else m.rows[i]? else none:=by
 unfold del;show ((m.rows.set row (m.rows.getLastD ((0,0),[]))).dropLast)[i]? =_;rw [List.getElem?_dropLast,alV]
 split
 ·rw [alN];by_cases e:row=i
  ·rw [if_pos e,if_pos e.symm,if_pos (by omega),J7 h];simp [show m.rows.length - 1 < m.rows.length by omega]
  ·rw [if_neg e,if_neg (fun h=>e h.symm)]
 ·rfl
theorem FO (m:az) (row:Nat):(m.del row).rows.length=m.rows.length - 1:=by simp [del]
theorem gW (m:az) (row:Nat) (i:Nat) (h:0 < m.rows.length):(m.del row).aw[i]? =if i < m.rows.length - 1 then if i=row then m.aw[m.rows.length - 1]? else m.aw[i]? else none:=by
 unfold aw;rw [alc,mc m row i h]
 split
 ·split <;> simp
 ·rfl
theorem OX (m:az) (row c:Nat) (h:0 < m.rows.length):(m.del row).k5 c=((m.k5 c).set row ((m.k5 c).getD (m.rows.length - 1) 0)).take (m.rows.length - 1):=by
 apply alM;intro i;unfold k5;rw [alc,mc m row i h,alU]
 split
 ·rename_i hi
  rw [alN];by_cases e:row=i
  ·rw [if_pos e.symm,if_pos e,if_pos (by simp;omega)];simp [show m.rows.length - 1 < m.rows.length by omega]
  ·rw [if_neg (fun h=>e h.symm),if_neg e];simp
 ·rfl
theorem Ok.del {m:az} (h:m.Ok) {row:Nat} (hr:row < m.rows.length):(m.del row).Ok:=by
 have jK:0 < m.rows.length:=by omega
 refine⟨h.QH,by rw [FO];have:=h.Ej;omega,?_,?_⟩
 ·refine amG.2 ?_;intro i j GA hj iZ;intro he0;have he:(m.del row).aw[i]? =(m.del row).aw[j]? :=by rw [alf GA,alf hj,he0]
  revert he
  have gQ:j < m.rows.length - 1:=by have:=cC (m.del row);rw [FO] at this;omega
  rw [gW m row i jK,gW m row j jK,if_pos (by omega),if_pos gQ];have inj: ∀a b:Nat,a < m.rows.length->b < m.rows.length->m.aw[a]? =m.aw[b]? ->a=b:=by
   intro a b ha hb he;exact(amh (by rw [cC];exact ha) h.nd).1 he
  intro he
  split at he <;> split at he
  ·omega
  ·have:=inj _ _ (by omega) (by omega) he;omega
  ·have:=inj _ _ (by omega) (by omega) he;omega
  ·have:=inj _ _ (by omega) (by omega) he;omega
 ·intro r WZ;obtain⟨i,hi⟩:=aly WZ;rw [mc m row i jK] at hi
  split at hi
  ·split at hi
   ·exact h.len r (ala hi)
   ·exact h.len r (ala hi)
  ·cases hi
theorem UJ {m:az} (h:m.Ok) {row:Nat} {e l:bw} (he:m.aw[row]? =some e) (hl:m.aw[m.rows.length - 1]? =some l):
  (if row=m.rows.length - 1 then aG (jV m) e none else aG (aG (jV m) e none) l (some (row:Int)))=jV (m.del row):=by
 have hr:row < m.rows.length:=by have:=(ak6.1 he).1;rw [cC] at this;exact this
 have jK:0 < m.rows.length:=by omega
 have inj: ∀(a b:Nat) (x:bw),m.aw[a]? =some x->m.aw[b]? =some x->a=b:=by
  intro a b x ha hb;exact(amh (ak6.1 ha).1 h.nd).1 (ha.trans hb.symm)
 refine FN (h.del hr).nd ?_ ?_
 ·intro e' x hx;by_cases eT:row=m.rows.length - 1
  ·rw [if_pos eT] at hx;unfold aG at hx
   split at hx
   ·cases hx
   ·rename_i aW
    obtain⟨i,hi,h2⟩:=xp h.nd hx;refine⟨i,hi,?_⟩;have jD:i < m.rows.length:=by have:=(ak6.1 h2).1;rw [cC] at this;exact this
    have:i≠row:=by rintro rfl;exact aW (alm (h2.symm.trans he))
    rw [gW m row i jK,if_pos (by omega),if_neg this];exact h2
  ·rw [if_neg eT] at hx;unfold aG at hx
   split at hx
   ·rename_i Il
    simp only [ald] at hx;refine⟨row,hx.symm,?_⟩;rw [gW m row row jK,if_pos (by omega),if_pos rfl,Il];exact hl
   ·rename_i lL
    split at hx
    ·cases hx
    ·rename_i aW
     obtain⟨i,hi,h2⟩:=xp h.nd hx;refine⟨i,hi,?_⟩;have jD:i < m.rows.length:=by have:=(ak6.1 h2).1;rw [cC] at this;exact this
     have h3:i≠row:=by rintro rfl;exact aW (alm (h2.symm.trans he))
     have h4:i≠m.rows.length - 1:=by rintro rfl;exact lL (alm (h2.symm.trans hl))
     rw [gW m row i jK,if_pos (by omega),if_neg h3];exact h2
 ·intro e' i hi;rw [gW m row i jK] at hi
  split at hi
  ·rename_i jD
   by_cases eT:row=m.rows.length - 1
   ·rw [if_pos eT];rw [if_neg (by omega)] at hi;unfold aG;rw [if_neg]
    ·exact(rT h.nd).2 hi
    ·rintro rfl;have:=inj _ _ _ hi he;omega
   ·rw [if_neg eT];unfold aG
    split at hi
    ·rename_i WK
     have:=alm (hi.symm.trans hl);rw [if_pos this,WK]
    ·rename_i WK
     rw [if_neg,if_neg]
     ·exact(rT h.nd).2 hi
     ·rintro rfl;exact WK (inj _ _ _ hi he)
     ·rintro rfl;have:=inj _ _ _ hi hl;omega
  ·cases hi
end az
end Go.Proofs.YtcccjgmekakabaaGreat.FT
end

section
namespace Go.Proofs.YtcccjgmekakabaaGreat.FT
open F
open Go Go.Den Go.Proofs
section
variable {S:List Nat} {w0 w:World} {ae:List aa}
theorem xu (h:Hp S w0 w ae) {n:Int} (h0:0<=n) (h48:n<=48) {K:Option Addr->Int->World->Prop} (hK: ∀b w',Hp S w0 w' (ae++ [fA b ⟨n.toNat,[]⟩])->K (some ⟨b,0,none⟩) 0 w'):Sv n w K:=by
 refine OD ?_;unfold f151;refine aJ (by simp;omega) ?_;refine(Hp.oE w).mks (f:=G5) (n:=1) (x0:=⟨none,0,0⟩) jO rfl h0 (al4 _) (by omega) (by omega) fun s w h1 hl hc hn=>?_;refine h1.zj fun bm w h1=>?_;refine h1.nw (c:= [_,_,_]) fun b w h1=>?_;have h1:=h1.zn (i:=1) ct (Value.int .i64) rfl;have h1:=h1.nil 33 2 fo;have h1:=h1.grow (Fr.refl _ _) (t:=iw (List.replicate n.toNat ⟨none,0,0⟩) (az.iF ⟨n.toNat,[]⟩)) (O:= []) (by
  unfold iw az.iF;have e: ∀k:List Nat,(List.zipWith nh (List.replicate k.length ⟨none,0,0⟩) (k.map (az.k5 ⟨n.toNat,[]⟩)))=List.replicate k.length (nh ⟨none,0,0⟩ []):=by
   intro k
   induction k with
   | nil=>rfl
   | cons a k ih=>simp [amD,ih,az.k5]
  have:=e (List.range n.toNat);simp only [am9] at this;show (ak (List.zipWith nh (List.replicate n.toNat ⟨none,0,0⟩) ((List.range n.toNat).map (az.k5 ⟨n.toNat,[]⟩)))).holds _ _;rw [this];generalize n.toNat=k
  induction k with
  | zero=>rfl
  | succ k ih=>
   rw [amD];exact⟨[],[],cq.nil,ih,by simp,by simp⟩) (by simp) (aM _)
 have h2:=h1.Ap 2 3 0 4 1 (by decide) rfl rfl rfl rfl rfl;exact hK b w (h.r0 rfl (iU (m:=⟨n.toNat,[]⟩) (so:=⟨none,0,0⟩) (sc:=s) (bm:=bm) (rest:= []) (by simp) h2))
def az.OY (m:az) (row c x:Int):az:=if m.rS row c=0 then m.set row.toNat c.toNat x else m
theorem zq {m:az} {row c:Int}:m.rS row c=0↔(0<=row /\ row < m.rows.length) /\ 0<=c /\ c < m.n:=by
 unfold az.rS;constructor
 ·intro h
  split at h
  ·split at h
   ·exact⟨‹_›,‹_›⟩
   ·cases h
  ·cases h
 ·rintro⟨h1,h2⟩;rw [if_pos h1,if_pos h2]
theorem J8 (h:Hp S w0 w ae) (i:Nat) {b:Nat} {m:az} (aT:m.Ok) (hi:ae[i]? =some (fA b m)) {row c x:Int} {K:Int->World->Prop}
  (hK: ∀w',Hp S w0 w' (ae.set i (fA b (m.OY row c x)))->K (m.rS row c) w'):Ng (some ⟨b,0,none⟩) row c x w K:=by
 refine Oi ?_;unfold f135;obtain⟨O,h1,back⟩:=h.f1 hi rfl;refine G6 h1 0 rfl ?_;unfold az.OY at hK;by_cases he:m.rS row c=0
 ·rw [if_pos he] at hK;refine aL (by simp [he]) ?_;obtain⟨hr,hc⟩:=zq.1 he;obtain⟨so,sc,ss,bm,hn,h1⟩:=xn h1 (i:=0) rfl;have hl:=h1.len 2 rfl;refine aS ?_;refine h1.ld (x:=sc) 0 rfl rfl ?_;have ma:c.toNat < ss.length:=by omega
  refine h1.fz (y:=ss[c.toNat]) (x:=ss[c.toNat]) 2 rfl hc.1 (by simp) jO rfl ?_;have h1:=h1.pick (i:=3) rfl (mb (alf ma) (m.oG (by omega))) rfl;refine h1.mW 5 rfl hr.1 (by rw [az.ng];omega) aB (y:=x) rfl rfl fun w h1=>?_;have h1:=h1.iT (i:=3) (j:=5) (k:=c.toNat) (by omega) rfl rfl (by
   rw [alx];exact(ak6.1 (mb (alf ma) (m.oG (by omega)))).1) rfl
  have h2:=h1.Ap 0 1 2 3 4 (by decide) rfl rfl rfl rfl rfl;rw [al2] at h2
  change Hp O _ _ [_,_,_,ak ((List.zipWith nh ss m.iF).set c.toNat (nh ss[c.toNat] _)),_] at h2
  rw [pJ,an4,<-az.J6 aT (by omega),<-az.xr m row.toNat c.toNat x,<-az.UI (m:=m) row.toNat c.toNat x] at h2;have h3:=back (rest:= []) rfl rfl (iU (m:=m.set row.toNat c.toNat x) (rest:= []) hn h2);rw [alh] at h3;have:=hK w h3;rw [he] at this ⊢;exact this
 ·rw [if_neg he] at hK;refine aJ (by simpa using he) ?_;have:=hK w;rw [Hp.bN hi] at this;exact this h
theorem As (h:Hp S w0 w ae) (i:Nat) {s:Sl} {l:List Int} (hi:(ae[i]?).map aa.holds=some (aj s 2 1 iv l).holds) (hlen:l.length<=1000000) {K:Sl->World->Prop} (hK: ∀r w',Hp S w0 w' (ae++ [aj r 2 1 iv l])->K r w'):I2 s w K:=by
 refine FG ?_;unfold f141;have hl:=h.len i hi;by_cases ha:s.a.isNone=true
 ·refine aL ha ?_;obtain⟨O,hO⟩:=h.de hi;have:l= []:=cq.isNil hO (by simpa using ha);subst this;exact hK _ _ (h.nil 2 1 iv)
 ·refine aJ ha ?_;have h1:=h.My hi;refine h1.nw (c:= []) fun b w h1=>?_;have h1:=h1.nI (i:=1) (m:=0) (l:=([]:List Int)) (f:=iv) (n:=1) rfl rfl rfl aB;obtain⟨inf,q1,q2,q3,q4⟩:=ku;refine h1.gq 1 0 (s:=⟨some ⟨b,0,none⟩,0,0⟩) rfl rfl (u:=(aj s 2 1 iv l).ro) ⟨fun{w O} h=>⟨O,cq.toR h⟩⟩ aB eS q1 q3 q2 rfl (by simp [iv,Value.oneCell']) (by rw [q4];show (0+s.len)*8<=_;omega) (by show 0+s.len<=_;omega) fun r w h1 dQ _=>?_;exact hK r w (h.r0 rfl (h1.rQ 1 rfl))
theorem Au (h:Hp S w0 w ae) (i:Nat) {s:Sl} {l:List bw} (hi:(ae[i]?).map aa.holds=some (aj s 33 2 fo l).holds) (hlen:l.length<=1000000) {K:Sl->World->Prop} (hK: ∀r w',Hp S w0 w' (ae++ [aj r 33 2 fo l])->K r w'):Sm s w K:=by
 refine Oq ?_;unfold f139;have hl:=h.len i hi;by_cases ha:s.a.isNone=true
 ·refine aL ha ?_;obtain⟨O,hO⟩:=h.de hi;have:l= []:=cq.isNil hO (by simpa using ha);subst this;exact hK _ _ (h.nil 33 2 fo)
 ·refine aJ ha ?_;have h1:=h.My hi;refine h1.nw (c:= []) fun b w h1=>?_;have h1:=h1.nI (i:=1) (m:=0) (l:=([]:List bw)) (f:=fo) (n:=2) rfl rfl rfl cu;obtain⟨inf,q1,q2,q3,q4⟩:=J4;refine h1.gq 1 0 (s:=⟨some ⟨b,0,none⟩,0,0⟩) rfl rfl (u:=(aj s 33 2 fo l).ro) ⟨fun{w O} h=>⟨O,cq.toR h⟩⟩ cu QG q1 q3 q2 rfl (by simp [fo,Value.oneCell']) (by rw [q4];show (0+s.len)*16<=_;omega) (by show 0+s.len<=_;omega) fun r w h1 dQ _=>?_;exact hK r w (h.r0 rfl (h1.rQ 1 rfl))
def az.BW (m:az) (row k:Nat):List Int:=(List.range k).map fun c=>(m.k5 c).getD row 0
theorem OZ {m:az} (aT:m.Ok) {row:Nat} {r:bw×List Int} (hr:m.rows[row]? =some r):m.BW row m.n=r.2:=by
 have hl:=aT.len r (ala hr);unfold az.BW;apply alM;intro c;rw [alc];by_cases hc:c < m.n
 ·rw [amC hc];simp only [az.k5,al8,alk,alc,hr,amu];rw [alf (by omega)];rfl
 ·rw [alE (by simp;omega),alE (by omega)];rfl
theorem BX (h:Hp S w0 w ae) (i:Nat) {b:Nat} {m:az} (aT:m.Ok) (hi:(ae[i]?).map aa.holds=some (fA b m).holds) {row:Int} {K:Int->Int->Sl->Int->World->Prop}
  (hK: ∀s w',(∀r,0<=row->m.rows[row.toNat]? =some r->Hp S w0 w' (ae++ [aj s 2 1 iv r.2])->K r.1.1 r.1.2 s 0 w') /\ (¬(0<=row /\ row < m.rows.length)->s=⟨none,0,0⟩->Hp S w0 w' ae->K 0 0 s 50 w')):IZ (some ⟨b,0,none⟩) row w K:=by
 refine N4 ?_;unfold f117;obtain⟨so,sc,ss,bm,hn,h1⟩:=pK h i hi;have hl:=h1.len 2 rfl;have FQ:=h1.len 1 rfl;rw [az.cC] at FQ;have FR:=aT.Ej;have O9:=aT.QH;refine h1.nw (c:= [_,_]) fun ba w1 h1=>?_;refine qN (h.cn h1.fr) i hi ?_;by_cases hr:0<=row /\ row < m.rows.length
 ·refine aJ (by simp [hr]) ?_;refine aS ?_;refine h1.ld (x:=sc) 0 rfl rfl ?_;have h1:=h1.nil 2 1 iv;refine⟨fun out t mm w'=> ∃k:Nat,t=k /\ k<=m.n /\ mm=m.n - k /\ Hp [] w w' [(af b 186 [.slice so.a so.len so.cap,.slice sc.a sc.len sc.cap,.map (some bm)]).ro,(aj so 33 2 fo m.aw).ro,(aj sc 34 1 G5 ss).ro,(iw ss m.iF).ro,(dW bm ct (Value.int .i64) (jV m)).ro,af ba 33 [.int .i64 0,.int .i64 0],aj out 2 1 iv (m.BW row.toNat k)],⟨m.n,0,rfl,by omega,by omega,h1⟩,?_⟩;rintro out t mm w2 ⟨k,rfl,hk,rfl,h1⟩;by_cases av:k < m.n
  ·refine aL (by simp;omega) ?_;have ma:k < ss.length:=by omega
   refine h1.fz (y:=ss[k]) (x:=ss[k]) 2 rfl (by omega) (by simp [ma]) jO rfl ?_;have h2:=FM h1 3 rfl (alf ma) (m.oG av);have eT:row.toNat < (m.k5 k).length:=by rw [az.ng];omega
   refine h2.fz (k:=.i .i64) (y:=(m.k5 k)[row.toNat]) (x:=(m.k5 k)[row.toNat]) 7 rfl hr.1 (by simp) aB rfl ?_;obtain⟨inf,q1,q2,q3,q4⟩:=ku;have lq:=h1.len 6 rfl;have ahO:(m.BW row.toNat k).length=k:=by simp [az.BW]
   refine h1.cj (c:= [_]) 6 (m.k5 k)[row.toNat] rfl aB eS q1 q3 q2 rfl rfl (by simp [iv,Value.oneCell']) (by rw [q4];omega) (by omega) fun bR w h1 _ _=>?_;refine⟨m.n - (k+1),by omega,k+1,by rw [aI (by omega) (by omega)];omega,by omega,rfl,?_⟩;have e:m.BW row.toNat (k+1)=m.BW row.toNat k++ [(m.k5 k)[row.toNat]]:=by
    unfold az.BW;rw [List.range_succ,alW];simp [eT]
   rw [e];exact h1
  ·refine aJ (by simp;omega) ?_;have zr:k=m.n:=by omega
   subst zr;refine aS ?_;refine h1.bE (x:=so) 0 rfl rfl ?_;have XT:row.toNat < m.rows.length:=by omega
   have ho:m.aw[row.toNat]? =some (m.rows[row.toNat]).1:=by simp [az.aw,XT]
   refine h1.JZ (k:=.i .i64) (k':=.i .i64) (y:=(m.rows[row.toNat]).1) 1 rfl hr.1 ho cu rfl rfl ?_;refine h1.gz 5 rfl (by simp) rfl fun w h1=>?_;refine h1.st 5 rfl (by simp) rfl fun w h1=>?_;refine h1.bE (k:=.i .i64) 5 rfl rfl ?_;refine h1.ld (k:=.i .i64) 5 rfl rfl ?_;refine(hK out w).1 _ hr.1 (alf XT) ?_;rw [<-OZ aT (alf XT)];exact h.r0 rfl (h1.rQ 6 rfl)
 ·refine aL (by simp only [decide_eq_false hr];rfl) ?_;refine h1.gz 5 rfl (by simp) rfl fun w h1=>?_;refine h1.st 5 rfl (by simp) rfl fun w h1=>?_;refine h1.bE (k:=.i .i64) 5 rfl rfl ?_;refine h1.ld (k:=.i .i64) 5 rfl rfl ?_;exact(hK _ w).2 hr rfl (h.cn h1.fr)
def az.p7 (m:az) (e:bw) (xs:List Int):az×Int×Int:=
 if xs.length≠m.n then (m,0,63) else if e∈m.aw then (m,0,61) else if 200<=m.rows.length then (m,0,40) else (m.add e xs,m.rows.length,0)
def az.nJ (m:az) (xs:List Int) (k:Nat):List (List Int):=(List.range m.n).map fun c=>if c < k then m.k5 c++ [xs.getD c 0] else m.k5 c
theorem G7 (m:az) (xs:List Int) {k:Nat} (h:k < m.n):(m.nJ xs k)[k]? =some (m.k5 k):=by
 simp [az.nJ,h]
theorem Ek (m:az) (xs:List Int):m.nJ xs 0=m.iF:=by simp [az.nJ,az.iF]
theorem G8 (m:az) (e:bw) (xs:List Int):m.nJ xs m.n=(m.add e xs).iF:=by
 unfold az.nJ az.iF;refine anN fun c hc=>?_;rw [if_pos (al5.1 hc),az.OV]
theorem El (m:az) (xs:List Int) {k:Nat} (h:k < m.n):(m.nJ xs k).set k (m.k5 k++ [xs.getD k 0])=m.nJ xs (k+1):=by
 unfold az.nJ;apply alM;intro c;rw [alN];simp only [alc,alr,am9];by_cases hc:c < m.n
 ·rw [amC hc];by_cases e:k=c
  ·subst e;simp [h]
  ·simp only [if_neg e,al8];congr 1;by_cases h1:c < k
   ·rw [if_pos h1,if_pos (by omega)]
   ·rw [if_neg h1,if_neg (by omega)]
 ·rw [alE (by simp;omega),if_neg (by omega)];rfl
theorem J9 (h:Hp S w0 w ae) (i j:Nat) (iZ:i≠j) {b:Nat} {m:az} (aT:m.Ok) (hi:ae[i]? =some (fA b m)) {e:bw} {u:aa} {vs:Sl} {xs:List Int} (hj:ae[j]? =some u) (hu:Hp.Reads u vs 1 iv xs) {K:Int->Int->World->Prop}
  (hK: ∀w',Hp S w0 w' (ae.set i (fA b (m.p7 e xs).1))->K (m.p7 e xs).2.1 (m.p7 e xs).2.2 w'):Sc (some ⟨b,0,none⟩) e.1 e.2 vs w K:=by
 refine N0 ?_;unfold f115;obtain⟨Ou,hOu⟩:=h.kY hj;obtain⟨o,hR⟩:=hu.rd hOu;have ja:xs.length=vs.len:=hR.len;obtain⟨O,h1,back⟩:=h.XM iZ hi hj rfl;obtain⟨so,sc,ss,bm,hn,h1⟩:=xn h1 (i:=0) rfl;have FQ:=h1.len 2 rfl;rw [az.cC] at FQ;have XU:=h1.len 3 rfl;have FR:=aT.Ej;have O9:=aT.QH;refine h1.nw (c:= [_,_]) fun be w1 h1=>?_;refine h1.dr fun w1 h1=>?_;refine aS ?_;refine h1.ld (x:=some bm) 0 rfl rfl ?_;refine h1.bE (x:=e.1) 6 rfl rfl ?_;refine h1.ld (x:=e.2) 6 rfl rfl ?_;obtain⟨inf,q1,q2,_⟩:=nW;refine Hp.lookup (kd:=.i .i64) (vk:=id) (z:=(0:Int)) (ek:=ct) (g:=jV m) (k:=e) h1 5 rfl rfl zp dH q1 q2 (fun _=>rfl) ?_;refine aS ?_;refine h1.bE (x:=so) 0 rfl rfl ?_;refine aS ?_;refine h1.ld (x:=sc) 0 rfl rfl ?_;have cR:Hp S w0 w1 (ae.set i (fA b m)):=by
  have:=back (rest:= []) rfl rfl (iU (rest:= []) hn (h1.Ap 0 2 3 4 5 (by decide) rfl rfl rfl rfl rfl))
  rwa [alh] at this
 unfold az.p7 at hK;by_cases c1:xs.length≠m.n
 ·rw [if_pos c1] at hK;exact aL (by simp;omega) (hK _ cR)
 rw [if_neg c1] at hK;refine aJ (by simp;omega) ?_;by_cases c2:e∈m.aw
 ·rw [if_pos c2] at hK;refine aL ?_ (hK _ cR)
  cases hg:jV m e with
  | none=>exact absurd c2 (az.xo.1 hg)
  | some v=>rfl
 rw [if_neg c2] at hK;refine aJ (by rw [az.xo.2 c2];simp) ?_;by_cases c3:200<=m.rows.length
 ·rw [if_pos c3] at hK;exact aL (by simp;omega) (hK _ cR)
 rw [if_neg c3] at hK;refine aJ (by simp;omega) ?_;have XV:xs.length=m.n:=by omega
 refine⟨fun t mm w'=> ∃(k:Nat) (ss:List Sl),t=k /\ k<=m.n /\ mm=m.n - k /\ ss.length=m.n /\ Hp O w w' [af b 186 [.slice so.a so.len so.cap,.slice sc.a sc.len sc.cap,.map (some bm)],u.ro,aj so 33 2 fo m.aw,aj sc 34 1 G5 ss,iw ss (m.nJ xs k),dW bm ct (Value.int .i64) (jV m),af be 33 [.int .i64 e.1,.int .i64 e.2]],
  ⟨m.n,0,ss,rfl,by omega,rfl,hn,by rw [Ek];exact h1⟩,?_⟩
 rintro t mm w ⟨k,ss,rfl,hk,rfl,hn,h1⟩;by_cases av:k < m.n
 ·refine aL (by simp;omega) ?_;refine h1.fH (k:=.i .i64) (u:=u) (y:=xs[k]) (x:=xs[k]) 1 rfl hu (by omega) (by simp [show k < xs.length by omega]) aB rfl ?_;refine h1.dr fun w h1=>?_;refine aS ?_;refine h1.ld (x:=sc) 0 rfl rfl ?_;refine aS ?_;refine h1.ld (x:=sc) 0 rfl rfl ?_;refine h1.fz (y:=ss[k]) (x:=ss[k]) 3 rfl (by omega) (by simp [hn,av]) jO rfl ?_;have ma:k < ss.length:=by omega
  have eL:=mb (alf ma) (G7 m xs av);have h1:=h1.pick (i:=4) rfl eL rfl;have vy:=h1.len 7 rfl;rw [az.ng] at vy;obtain⟨inf,q1,q2,q3,q4⟩:=ku;refine h1.cj (c:= [_]) 7 (xs[k]) rfl aB eS q1 q3 q2 rfl rfl (by simp [iv,Value.oneCell']) (by rw [q4];omega) (by omega) fun s w h1 _ _=>?_;refine⟨h1.xl 0 rfl rfl,?_⟩;refine h1.mW 3 rfl (by omega) (by simp;omega) jO (y:=s) rfl rfl fun w h1=>?_;have h1:=h1.iT (i:=4) (j:=7) (k:=k) (by omega) rfl rfl (by
   rw [alx];exact(ak6.1 eL).1) rfl
  have h1:=h1.trim 7;refine⟨m.n - (k+1),by omega,k+1,ss.set k s,by rw [aI (by omega) (by omega)];omega,by omega,rfl,by simpa using hn,?_⟩;have e:iw (ss.set k s) (m.nJ xs (k+1))=ak (((List.zipWith nh ss (m.nJ xs k)).set k ao).set k (nh s (m.k5 k++ [xs[k]]))):=by
   rw [al2,pJ];unfold iw;rw [<-El m xs av];have:xs.getD k 0=xs[k]:=by simp [show k < xs.length by omega]
   rw [this]
  rw [e];exact h1
 ·refine aJ (by simp;omega) ?_;have zr:k=m.n:=by omega
  subst zr;refine h1.dr fun w h1=>?_;refine aS ?_;refine h1.bE (x:=so) 0 rfl rfl ?_;refine h1.bE (x:=e.1) 6 rfl rfl ?_;refine h1.ld (x:=e.2) 6 rfl rfl ?_;obtain⟨inf,q1,q2,q3,q4⟩:=J4;refine h1.cj (c:= [_,_]) 2 e rfl cu QG q1 q3 q2 rfl rfl (by simp [fo,Value.oneCell']) (by rw [q4];omega) (by omega) fun s w h1 _ _=>?_;refine aS ?_;refine h1.gz 0 rfl (by simp) rfl fun w h1=>?_;refine h1.dr fun w h1=>?_;refine aS ?_;refine h1.ld (x:=some bm) 0 rfl rfl ?_;refine h1.bE (x:=e.1) 6 rfl rfl ?_;refine h1.ld (x:=e.2) 6 rfl rfl ?_;refine Hp.update (ek:=ct) (ev:=Value.int .i64) (v:=(m.rows.length:Int)) (k:=e) h1 5 rfl rfl zp dH (by rw [FQ]) fun w h1=>?_;have h2:=h1.Ap 0 2 3 4 5 (by decide) rfl rfl rfl rfl rfl;rw [az.UH aT.nd c2 xs,G8 m e xs,<-az.kx m e xs] at h2;have h3:=back (rest:= []) rfl rfl (iU (m:=m.add e xs) (rest:= []) hn h2);rw [alh] at h3;have:=hK w h3;rw [<-FQ];exact this
end
def az.Av (m:az) (row:Int):az×bw×Bool×Int:=
 if 0<=row /\ row < m.rows.length then (m.del row.toNat,if row=m.rows.length - 1 then ((0,0),false,0) else (m.aw.getD (m.rows.length - 1) (0,0),true,0)) else (m,(0,0),false,50)
def az.vz (m:az) (row k:Nat):List (List Int):=(List.range m.n).map fun c=>if c < k then (m.del row).k5 c else m.k5 c
theorem Ka (m:az) (row:Nat) {k:Nat} (h:k < m.n):(m.vz row k)[k]? =some (m.k5 k):=by
 simp [az.vz,h]
theorem G9 (m:az) (row:Nat):m.vz row 0=m.iF:=by simp [az.vz,az.iF]
theorem BY (m:az) (row:Nat):m.vz row m.n=(m.del row).iF:=by
 unfold az.vz az.iF;refine anN fun c hc=>?_;rw [if_pos (al5.1 hc)]
theorem Ha (m:az) (row:Nat) {k:Nat} (h:k < m.n):(m.vz row k).set k ((m.del row).k5 k)=m.vz row (k+1):=by
 unfold az.vz;apply alM;intro c;rw [alN];simp only [alc,alr,am9];by_cases hc:c < m.n
 ·rw [amC hc];by_cases e:k=c
  ·subst e;simp [h]
  ·simp only [if_neg e,al8];congr 1;by_cases h1:c < k
   ·rw [if_pos h1,if_pos (by omega)]
   ·rw [if_neg h1,if_neg (by omega)]
 ·rw [alE (by simp;omega),if_neg (by omega)];rfl
theorem yK (m:az) (row:Nat) (h:0 < m.rows.length):(m.del row).aw=(m.aw.set row (m.aw.getD (m.rows.length - 1) (0,0))).take (m.rows.length - 1):=by
 have hl:=m.cC;apply alM;intro i;rw [az.gW m row i h,alU]
 split
 ·rw [alN];by_cases e:row=i
  ·rw [if_pos e.symm,if_pos e,if_pos (by omega)];simp [show m.rows.length - 1 < m.aw.length by omega]
  ·rw [if_neg (fun h=>e h.symm),if_neg e]
 ·rfl
section
variable {S:List Nat} {w0 w:World} {ae:List aa}
theorem BZ (h:Hp S w0 w ae) (i:Nat) {b:Nat} {m:az} (aT:m.Ok) (hi:ae[i]? =some (fA b m)) {row:Int} {K:Int->Int->Bool->Int->World->Prop}
  (hK: ∀w',Hp S w0 w' (ae.set i (fA b (m.Av row).1))->K (m.Av row).2.1.1 (m.Av row).2.1.2 (m.Av row).2.2.1 (m.Av row).2.2.2 w'):Sd (some ⟨b,0,none⟩) row w K:=by
 refine N6 ?_;unfold f119;obtain⟨O,h1,back⟩:=h.f1 hi rfl;refine h1.nw (c:= [_,_]) fun ba w1 h1=>?_;refine qN h1 0 rfl ?_;unfold az.Av at hK;by_cases hr:0<=row /\ row < m.rows.length
 ·rw [if_pos hr] at hK;refine aJ (by simp [hr]) ?_;obtain⟨so,sc,ss,bm,hn,h1⟩:=xn h1 (i:=0) rfl;have FQ:=h1.len 2 rfl;have lq:=m.cC;have XU:=h1.len 3 rfl;have FR:=aT.Ej;have O9:=aT.QH;have jK:0 < m.rows.length:=by omega
  have fB:(so.len:Int)=m.rows.length:=by omega
  have me:i64.wrap ((so.len:Int) - 1)=(m.rows.length:Int) - 1:=by rw [aI (by omega) (by omega)];omega
  rw [<-me] at hK;generalize hL:i64.wrap ((so.len:Int) - 1)=L at me hK;have V8:L.toNat=m.rows.length - 1:=by omega
  have eT:row.toNat < m.aw.length:=by omega
  have p5:L.toNat < m.aw.length:=by omega
  have lK:m.aw.getD (m.rows.length - 1) (0,0)=m.aw[L.toNat]:=by simp [V8,show m.rows.length - 1 < m.aw.length by omega]
  refine aS ?_;refine h1.bE (x:=so) 0 rfl rfl ?_;rw [hL];refine h1.dr fun w1 h1=>?_;refine aS ?_;refine h1.ld (x:=some bm) 0 rfl rfl ?_;refine aS ?_;refine h1.bE (x:=so) 0 rfl rfl ?_;refine h1.JZ (k:=.i .i64) (k':=.i .i64) (y:=m.aw[row.toNat]) 2 rfl hr.1 (by simp [eT]) cu rfl rfl ?_;refine Hp.delete (ek:=ct) (ev:=Value.int .i64) (k:=m.aw[row.toNat]) h1 5 rfl rfl zp dH fun nv w1 h1=>?_;refine aS ?_;refine h1.bE (x:=so) 0 rfl rfl ?_;refine h1.JZ (k:=.i .i64) (k':=.i .i64) (y:=m.aw[L.toNat]) 2 rfl (by omega) (by simp [p5]) cu rfl rfl ?_;refine h1.nw (c:= [_,_]) fun bv w1 h1=>?_;refine h1.gz 6 rfl (by simp) rfl fun w1 h1=>?_;refine h1.st 6 rfl (by simp) rfl fun w1 h1=>?_;refine aS ?_;refine h1.ld (x:=sc) 0 rfl rfl ?_;refine⟨fun t mm w'=> ∃(k:Nat) (ss:List Sl),t=k /\ k<=m.n /\ mm=m.n - k /\ ss.length=m.n /\ Hp O w w' [af b 186 [.slice so.a so.len so.cap,.slice sc.a sc.len sc.cap,.map (some bm)],af ba 33 [.int .i64 0,.int .i64 0],aj so 33 2 fo m.aw,aj sc 34 1 G5 ss,iw ss (m.vz row.toNat k),dW bm ct (Value.int .i64) (aG (jV m) m.aw[row.toNat] none),af bv 33 [.int .i64 m.aw[L.toNat].1,.int .i64 m.aw[L.toNat].2]],
   ⟨m.n,0,ss,rfl,by omega,rfl,hn,by rw [G9];exact h1⟩,?_⟩
  rintro t mm w2 ⟨k,ss,rfl,hk,rfl,hn,h1⟩;by_cases av:k < m.n
  ·refine aL (by simp;omega) ?_;refine h1.fz (y:=ss[k]) (x:=ss[k]) 3 rfl (by omega) (by simp [hn,av]) jO rfl ?_;have ma:k < ss.length:=by omega
   have eL:=mb (alf ma) (Ka m row.toNat av);have h1:=h1.pick (i:=4) rfl eL rfl;have vy:=h1.len 7 rfl;rw [az.ng] at vy;have cO:L.toNat < (m.k5 k).length:=by rw [az.ng];omega
   refine h1.fz (k:=.i .i64) (y:=(m.k5 k)[L.toNat]) (x:=(m.k5 k)[L.toNat]) 7 rfl (by omega) (by simp) aB rfl ?_;refine h1.mW 7 rfl hr.1 (by rw [az.ng];omega) aB (y:=(m.k5 k)[L.toNat]) rfl rfl fun w1 h1=>?_;refine h1.dr fun w1 h1=>?_;refine aS ?_;refine h1.ld (x:=sc) 0 rfl rfl ?_;have eN:=h1.cap 7 rfl;refine h1.cut 7 (s:=ss[k]) rfl aB (al4 0) (by omega) (by omega) (by omega) (by omega) fun s h1 _ _ _=>?_;refine h1.mW 3 rfl (by omega) (by simp;omega) jO (y:=s) rfl rfl fun w1 h1=>?_;have h1:=h1.iT (i:=4) (j:=7) (k:=k) (by omega) rfl rfl (by
    rw [alx];exact(ak6.1 eL).1) rfl
   have h1:=h1.trim 7;refine⟨m.n - (k+1),by omega,k+1,ss.set k s,by rw [aI (by omega) (by omega)];omega,by omega,rfl,by simpa using hn,?_⟩;have e:iw (ss.set k s) (m.vz row.toNat (k+1))=ak (((List.zipWith nh ss (m.vz row.toNat k)).set k ao).set k (nh s ((((m.k5 k).set row.toNat (m.k5 k)[L.toNat]).take L.toNat).drop (0:Int).toNat))):=by
    rw [al2,pJ];unfold iw;rw [<-Ha m row.toNat av,az.OX m _ _ jK,<-V8];have:(m.k5 k).getD L.toNat 0=(m.k5 k)[L.toNat]:=by simp [cO]
    rw [this];rfl
   rw [e];exact h1
  ·refine aJ (by simp;omega) ?_;have zr:k=m.n:=by omega
   subst zr;refine h1.dr fun w1 h1=>?_;refine aS ?_;refine h1.bE (x:=so) 0 rfl rfl ?_;refine h1.bE (k:=.i .i64) 6 rfl rfl ?_;refine h1.ld (k:=.i .i64) 6 rfl rfl ?_;refine h1.FL 2 rfl hr.1 (by omega) cu (y:=m.aw[L.toNat]) rfl rfl rfl fun w1 h1=>?_;refine aS ?_;refine h1.bE (x:=so) 0 rfl rfl ?_;have eN:=h1.cap 2 rfl;refine h1.cut 2 (s:=so) rfl cu (al4 0) (by omega) (by omega) (by omega) (by omega) fun s h1 _ _ _=>?_;refine aS ?_;refine h1.gz 0 rfl (by simp) rfl fun w1 h1=>?_;have eo:(((m.aw.set row.toNat m.aw[L.toNat]).take L.toNat).drop (0:Int).toNat)=(m.del row.toNat).aw:=by
    rw [yK m row.toNat jK,lK];exact congrArg (fun n=>List.take n (m.aw.set row.toNat m.aw[L.toNat])) V8
   have uR:=az.UJ aT (row:=row.toNat) (e:=m.aw[row.toNat]) (l:=m.aw[L.toNat]) (by simp) (by rw [<-V8];simp);by_cases e9:row=L
   ·rw [if_pos e9] at hK;rw [if_pos (by omega)] at uR;refine aL (by simpa using e9) ?_;refine h1.gz 1 rfl (by simp) rfl fun w1 h1=>?_;refine h1.st 1 rfl (by simp) rfl fun w1 h1=>?_;refine h1.bE (k:=.i .i64) 1 rfl rfl ?_;refine h1.ld (k:=.i .i64) 1 rfl rfl ?_;have h2:=h1.Ap 0 2 3 4 5 (by decide) rfl rfl rfl rfl rfl;rw [eo,uR,BY] at h2;have h3:=back (rest:= []) rfl rfl (iU (m:=m.del row.toNat) (rest:= []) hn h2);rw [alh] at h3;exact hK w1 h3
   ·rw [if_neg e9,lK] at hK;rw [if_neg (by omega)] at uR;refine aJ (by simpa using e9) ?_;refine h1.dr fun w1 h1=>?_;refine aS ?_;refine h1.ld (x:=some bm) 0 rfl rfl ?_;refine h1.bE (k:=.i .i64) 6 rfl rfl ?_;refine h1.ld (k:=.i .i64) 6 rfl rfl ?_;refine Hp.update (ek:=ct) (ev:=Value.int .i64) (v:=((row.toNat:Nat):Int)) (k:=m.aw[L.toNat]) h1 5 rfl rfl zp dH (by congr 1;omega) fun w1 h1=>?_;refine h1.bE (k:=.i .i64) 6 rfl rfl ?_;refine h1.ld (k:=.i .i64) 6 rfl rfl ?_;refine h1.gz 1 rfl (by simp) rfl fun w1 h1=>?_;refine h1.st 1 rfl (by simp) rfl fun w1 h1=>?_;refine h1.bE (k:=.i .i64) 1 rfl rfl ?_;refine h1.ld (k:=.i .i64) 1 rfl rfl ?_;have h2:=h1.Ap 0 2 3 4 5 (by decide) rfl rfl rfl rfl rfl;rw [eo,uR,BY] at h2;have h3:=back (rest:= []) rfl rfl (iU (m:=m.del row.toNat) (rest:= []) hn h2);rw [alh] at h3;exact hK w1 h3
 ·rw [if_neg hr] at hK;refine aL (by simp only [decide_eq_false hr];rfl) ?_;refine h1.gz 1 rfl (by simp) rfl fun w1 h1=>?_;refine h1.st 1 rfl (by simp) rfl fun w1 h1=>?_;refine h1.bE (k:=.i .i64) 1 rfl rfl ?_;refine h1.ld (k:=.i .i64) 1 rfl rfl ?_;have h3:=back (rest:= []) rfl rfl (h1.rQ 0 rfl);rw [alh] at h3;exact hK w1 h3
theorem Hb {b:Nat} {es:Array MapEntry} {clock:Nat} (hb:w.heap[b]? =some (.map es clock)):
  (callFunc 160 #[.iface 88 (.map (some b))]).run Tryz.prog w=.ok (.value (.iface 88 (.map (some w.heap.size)))) (w.alloc (.map es clock)):=by
 rw [run_callFunc_extern (P:=Tryz.prog) (fn:=Tryz.f160) (e:=Extern.MapsClone.clone) (by kernel_rfl) (by kernel_rfl) (by kernel_rfl) (by kernel_rfl) (by kernel_rfl)];have e:Extern.MapsClone.clone #[.iface 88 (.map (some b))]=(getObj b >>=fun o=>match o with
   | .map entries clock=>(newObj (.map entries clock) >>=fun n=>pure (.iface 88 (.map (some n))))
   | _ => stuck "maps.clone: a map expected") := rfl
 rw [e];simp [MapKept.run_getObj_map hb]
theorem B0 (h:Hp S w0 w ae) (i:Nat) {b:Nat} {g:bw->Option Int} (hi:(ae[i]?).map aa.holds=some (dW b ct (Value.int .i64) g).holds) {K:Option Nat->World->Prop} (hK: ∀b' w',Hp S w0 w' (ae++ [dW b' ct (Value.int .i64) g])->K (some b') w'):Sn (some b) w K:=by
 refine Ot ?_;unfold f140;obtain⟨O,l,⟨⟨es,clock,hb,p6⟩,rfl⟩,bJ,hg⟩:=h.de hi;refine aJ (by simp) ?_;refine⟨_,_,Hb hb,?_⟩;have h1:Hp S w0 (w.alloc (.map es clock)) (ae++ [dW w.heap.size ct (Value.int .i64) g]):=
  h.grow (Fr.alloc w _) (t:=dW w.heap.size ct (Value.int .i64) g) (O:= [w.heap.size]) ⟨l,⟨⟨es,clock,by show (w.heap.push _)[w.heap.size]? =_;simp,p6⟩,rfl⟩,bJ,hg⟩ (by simp) rfl
 refine⟨.map (some w.heap.size),fun w' _=>?_,hK _ _ h1⟩;simp [Instr.typeAssert,run_underlying zp,Kd.inj]
theorem Em {ss:List Sl} {ls:List (List Int)} (hl:ss.length=ls.length) (s:Sl) (l:List Int):List.zipWith nh (ss++ [s]) (ls++ [l])=List.zipWith nh ss ls++ [nh s l]:=by
 rw [List.zipWith_append hl];rfl
theorem En (h:Hp S w0 w ae) (i:Nat) {b:Nat} {m:az} (aT:m.Ok) (hi:(ae[i]?).map aa.holds=some (fA b m).holds) {K:Option Addr->World->Prop}
  (hK: ∀b' w',Hp S w0 w' (ae++ [fA b' m])->K (some ⟨b',0,none⟩) w'):c96 (some ⟨b,0,none⟩) w K:=by
 refine Us ?_;unfold f96;obtain⟨so,sc,ss,bm,hn,h1⟩:=pK h i hi;have lq:=m.cC;have XU:=h1.len 2 rfl;have FR:=aT.Ej;have O9:=aT.QH;refine h1.dr fun w1 h1=>?_;refine aS ?_;refine h1.bE (x:=so) 0 rfl rfl ?_;refine aS ?_;refine h1.ld (x:=some bm) 0 rfl rfl ?_;refine Au h1 1 rfl (by omega) fun r w1 h1=>?_;refine⟨h1.xl 0 rfl rfl,?_⟩;refine B0 h1 4 rfl fun bm' w1 h1=>?_;refine h1.nw (c:= [_,_,_]) fun c w1 h1=>?_;refine aS ?_;refine h1.ld (x:=sc) 0 rfl rfl ?_;have h1:=h1.nil 34 1 G5;have h1:=h1.grow (Fr.refl _ _) (t:=iw [] []) (O:= []) rfl (by simp) rfl;refine⟨fun t mm w'=> ∃(k:Nat) (sn:Sl) (sl:List Sl),t=k /\ k<=m.n /\ mm=m.n - k /\ sl.length=k /\ Hp [] w w' [(af b 186 [.slice so.a so.len so.cap,.slice sc.a sc.len sc.cap,.map (some bm)]).ro,(aj so 33 2 fo m.aw).ro,(aj sc 34 1 G5 ss).ro,(iw ss m.iF).ro,(dW bm ct (Value.int .i64) (jV m)).ro,
   aj r 33 2 fo m.aw,dW bm' ct (Value.int .i64) (jV m),af c 186 [.slice r.a r.len r.cap,.slice sn.a sn.len sn.cap,.map (some bm')],aj sn 34 1 G5 sl,iw sl (m.iF.take k)],
  ⟨m.n,0,⟨none,0,0⟩,[],rfl,by omega,rfl,rfl,h1⟩,?_⟩
 rintro t mm w2 ⟨k,sn,sl,rfl,hk,rfl,fB,h1⟩;by_cases av:k < m.n
 ·refine aL (by simp;omega) ?_;have ma:k < ss.length:=by omega
  refine h1.fz (y:=ss[k]) (x:=ss[k]) 2 rfl (by omega) (by simp [ma]) jO rfl ?_;refine h1.dr fun w1 h1=>?_;refine h1.ld (x:=sn) 7 rfl rfl ?_;have h1:=FM h1 3 rfl (alf ma) (m.oG av);refine As h1 10 rfl (by rw [az.ng];omega) fun r3 w1 h1=>?_;refine⟨h1.xl 7 rfl rfl,?_⟩;have hsn:=h1.len 8 rfl;obtain⟨inf,q1,q2,q3,q4⟩:=XQ;refine h1.cj (c:= [_]) 8 r3 rfl jO XR q1 q3 q2 rfl rfl (by simp [G5,Value.oneCell']) (by rw [q4];omega) (by omega) fun s w1 h1 _ _=>?_;refine h1.st 7 rfl (by simp) rfl fun w1 h1=>?_;have h1:=h1.join (i:=9) (j:=11) (c:=iw (sl++ [r3]) (m.iF.take (k+1))) (by omega) rfl rfl (aM _) rfl (aM _) (fun w O1 O2 g1 g2 g3=>by
   have e:m.iF.take (k+1)=m.iF.take k++ [m.k5 k]:=by
    rw [amH,m.oG av];rfl
   unfold iw;rw [e,Em (by rw [alv,az.BU];omega)];refine fX g1 (us:= [nh r3 (m.k5 k)]) ⟨O2,[],g2,rfl,by simp,by simp⟩ g3)
  have h1:=h1.trim 10;exact⟨m.n - (k+1),by omega,k+1,s,sl++ [r3],by rw [aI (by omega) (by omega)];omega,by omega,rfl,by simpa using fB,h1⟩
 ·refine aJ (by simp;omega) ?_;have zr:k=m.n:=by omega
  have h2:=h1.Ap 7 5 8 9 6 (by decide) rfl rfl rfl rfl rfl;rw [aln (by rw [az.BU];omega)] at h2;exact hK c _ (h.r0 rfl (iU (rest:= []) (by omega) h2))
end
end Go.Proofs.YtcccjgmekakabaaGreat.FT
end

section
namespace Go.Den
open Go.RowKit
def Kb (a b:aa):aa:=
  { holds:=fun w O=> ∃O1 O2,a.holds w O1 /\ b.holds w O2 /\ ∀k,k∈O↔k∈O1 \/ k∈O2
    fr:=fun⟨O1,O2,h1,h2,h4⟩ hf hn=>⟨O1,O2,a.fr h1 hf (fun k hk=>hn k ((h4 k).2 (.inl hk))),b.fr h2 hf (fun k hk=>hn k ((h4 k).2 (.inr hk))),h4⟩
    lt:=fun⟨O1,O2,h1,h2,h4⟩ k hk=>((h4 k).1 hk).elim (a.lt h1 k) (b.lt h2 k)}
section
variable {α:Type} {f:α->List Value} {n:Nat} {e:TypeId}
def Hc (e:TypeId) (n:Nat) (f:α->List Value) (l c:Sl) (y:α) (p m:Nat):aa:=
  { holds:=fun w O=>l.len=p /\ p<=m /\ ((c.a=l.a /\ cq w c e n f (List.replicate m y) O) \/ ∃O1 O2,bO w l n f (List.replicate p y) O1 /\ cq w c e n f (List.replicate m y) O2 /\ (∀k∈O1,k ∉ O2) /\ ∀k,k∈O↔k∈O1 \/ k∈O2)
    fr:=fun{S w w' O} ⟨h1,h2,h3⟩ hf hn=>⟨h1,h2,by
      rcases h3 with ⟨q1,q2⟩ | ⟨O1,O2,q1,q2,q3,q4⟩
      · exact .inl ⟨q1,q2.fr hf hn⟩
      · exact .inr ⟨O1,O2,q1.fr hf (fun k hk=>hn k ((q4 k).2 (.inl hk))),q2.fr hf (fun k hk=>hn k ((q4 k).2 (.inr hk))),q3,q4⟩⟩
    lt:=fun{w O} ⟨h1,h2,h3⟩ k hk=>by
      rcases h3 with ⟨q1,q2⟩ | ⟨O1,O2,q1,q2,q3,q4⟩
      · exact q2.lt k hk
      · exact((q4 k).1 hk).elim (q1.lt k) (q2.lt k)}
theorem cq.Kc {P:Program} {w:World} (hf: ∀x,(f x).length=n) {s:Sl} {t ty:TypeId} {i:TypeInfo} {l news:List α} {o:List Nat} {x:Addr} {m c':Nat} {K:Sl->World->Prop}
  (ht:P.underlying t=some (.slice e)) (hi:P.info? e=some i) (dL:i.size=n)
  (h:cq w s e n f l o) (hl:news.length=m) (lW: ∀j u,(news.flatMap f)[j]? =some u->w.cell? (x.add j)=some u) (h1: ∀u∈news.flatMap f,u.oneCell'=true) (aW:s.a≠none) (ll:s.len+m<=s.cap)
  (hK: ∀w',cq w' ⟨s.a,s.len+m,s.cap⟩ e n f (l++news) o->Fr o w w'->K ⟨s.a,s.len+m,s.cap⟩ w'):
  cA .sl P (Builtin.append_ #[t,t] ty #[.slice s.a s.len s.cap,.slice (some x) m c']) w K:=by
 have gJ:=h.1;have lL:(news.flatMap f).length=m*n:=by rw [jA hf,hl]
 have p5:(l.flatMap f).length=s.len*n:=by rw [jA hf,gJ]
 have DK: ∀a b:Nat,(a+b)*n=a*n+b*n:=fun a b=>anb a b n
 rcases h.2 with ⟨ha,_⟩ | ⟨b,off,c,ha,ho,ke,eN,fm,dU⟩
 ·exact absurd ha aW
 ·subst ho;have zf:s.len*n<=s.cap*n:=ami _ eN;have R1:s.len*n+m*n<=s.cap*n:=by rw [<-DK];exact ami _ ll
  have yH:=run_firstCells_some (P:=P) w n m x m c' (news.flatMap f) lL lW;have bW:=run_storeCells_at P b (off+s.len*n) e (news.flatMap f) 0 c.toArray w ke (by simp only [anx,lL];omega) h1;refine⟨⟨s.a,s.len+m,s.cap⟩,_,?_,hK (w.setRow b (c.take (off+s.len*n)++news.flatMap f++c.drop (off+s.len*n+(news.flatMap f).length)).toArray) ?_ ?_⟩
  ·rw [ha];simp only [amW] at bW;simp [Builtin.append_,run_underlying ht,sizeOf,typeInfo,hi,Builtin.lenOf,ll,dL,yH,Addr.aU,bW,Kd.inj]
  ·refine⟨by simp [gJ,hl],.inr ⟨b,off,_,ha,rfl,setRow_heap w b c.toArray _ e _ ke,ll,?_,?_⟩⟩
   ·simp only [alb,alv,alT,lL];omega
   apply alM;intro j;rw [alJ,<-dU];simp only [alU,alZ,amy,alb,alv,alT,lL,DK];have e1:min (off+s.len*n) c.length=off+s.len*n:=by omega
   have e2:min (s.len*n) (c.length - off)=s.len*n:=by omega
   rw [e1,e2];by_cases hj:j < s.len*n+m*n
   ·rw [if_pos hj,if_pos (by omega)];by_cases Ah:j < s.len*n
    ·rw [if_pos (by omega),if_pos (by omega),if_pos (by omega),if_pos (by omega)]
    ·rw [if_neg (by omega),if_neg (by omega)];congr 1;omega
   ·rw [if_neg hj,if_neg (by omega)]
    symm
    apply alE;rw [lL];omega
  ·exact⟨rfl,rfl,rfl,by simp,fun k _ hk=>setRow_other w b k _ (fun e=>hk (by simp [e]))⟩
theorem Eo {y:α} {p m:Nat} (VT:p<=m) {j:Nat} {u:Value} (h:((List.replicate p y).flatMap f)[j]? =some u):((List.replicate m y).flatMap f)[j]? =some u:=by
 have e:List.replicate m y=List.replicate p y++List.replicate (m - p) y:=by rw [List.replicate_append_replicate];congr 1;omega
 rw [e,alJ,ak9 (ak6.1 h).1];exact h
theorem bO.pre {w:World} {l c:Sl} {y:α} {p m:Nat} {O:List Nat} (hl:l.len=p) (VT:p<=m) (ha:c.a=l.a) (h:bO w c n f (List.replicate m y) O): ∃O',bO w l n f (List.replicate p y) O' /\ ∀k∈O',k∈O:=by
 by_cases hp:p=0
 ·subst hp;exact⟨[],bO.nil hl,by simp⟩
 ·have hm:m=c.len:=by have:=h.1;simpa using this
  rcases h.2 with ⟨h1,_⟩ | ⟨x,h1,h2,h3,h4⟩
  ·omega
  ·exact⟨[x.block],⟨by simpa using hl.symm,.inr ⟨x,by rw [<-ha];exact h1,rfl,h3,fun j u hj=>h4 j u (Eo VT hj)⟩⟩,by rw [h2];simp⟩
namespace Hp
variable {S:List Nat} {w0 w:World} {ae:List aa}
theorem xv (h:Hp S w0 w ae) {j:Nat} {l:Sl} {y:α} {p:Nat} (hj:ae[j]? =some (aj l e n f (List.replicate p y))):Hp S w0 w (ae.set j (Hc e n f l l y p p)):=
 h.rP hj rfl (fun w O hO=>⟨by have:=cq.len hO;simpa using this.symm,alA _,.inl ⟨rfl,hO⟩⟩) rfl
theorem Aw (h:Hp S w0 w ae) {j:Nat} {l c:Sl} {y:α} {p m:Nat} (hj:ae[j]? =some (Hc e n f l c y p m)):Hp S w0 w (ae.set j (Kb (sM l n f (List.replicate p y)) (sM c n f (List.replicate m y)))):=
 h.rP hj rfl (fun w O hO=>by
  obtain⟨h1,h2,h3⟩:=hO
  rcases h3 with ⟨q1,q2⟩ | ⟨O1,O2,q1,q2,q3,q4⟩
  ·obtain⟨O',k1,k2⟩:=bO.pre h1 h2 q1 (cq.toR q2);exact⟨O',O,k1,cq.toR q2,fun k=>⟨.inr,fun h=>h.elim (k2 k) id⟩⟩
  ·exact⟨O1,O2,q1,cq.toR q2,q4⟩) rfl
theorem Ax (h:Hp S w0 w ae) (j:Nat) {l c:Sl} {y:α} {p m:Nat} (hj:(ae[j]?).map aa.holds=some (Hc e n f l c y p m).holds):c.len=m /\ l.len=p:=by
 obtain⟨O,h1,h2,h3⟩:=h.de hj;refine⟨?_,h1⟩
 rcases h3 with ⟨q1,q2⟩ | ⟨O1,O2,q1,q2,q3,q4⟩
 ·have:=q2.len;simpa using this.symm
 ·have:=q2.len;simpa using this.symm
theorem Ep {P:Program} (h:Hp S w0 w ae) (j:Nat) {l c:Sl} {t ty e':TypeId} {inf:TypeInfo} {z:Value} {p m c':Nat} {cs:List Value} {K:Sl->World->Prop} (y:α) (hj:ae[j]? =some (Hc e n f l c y p m)) (hf: ∀x,(f x).length=n)
  (ht:P.underlying t=some (.slice e)) (iE:P.info? e=some inf) (dL:inf.size=n) (hz:inf.zero=some z) (A8:z.cells.size=n) (hc:cs=f y) (h1: ∀u∈f y,u.oneCell'=true)
  (hb:(m+1)*inf.bytes<=140737488355328) (hn:m+1<=140737488355328)
  (hK: ∀s' w',Hp S w0 w' (ae.set j (Hc e n f l s' y p (m+1)))->K s' w'):
  Nw (.cells cs.toArray e') w fun b w=>cA .sl P (Builtin.append_ #[t,t] ty #[.slice c.a c.len c.cap,.slice (some b) 1 c']) w K:=by
 have vy:=(h.Ax j (by rw [hj];rfl)).1;have av:=(ak6.1 hj).1;refine h.nw fun b w h=>?_;obtain⟨Ob,hO,_⟩:=h.de (i:=ae.length) (t:=af b e' cs) (by simp);have h2:=h.step (i:=j) (t:=Hc e n f l c y p m) (by rw [ak9 av];exact hj) rfl;obtain⟨O,⟨g1,g2,g3⟩,back⟩:=h2;have fin: ∀{w':World} {s':Sl} {O':List Nat},Fr O w w'->(Hc e n f l s' y p (m+1)).holds w' O'->(∀k∈O',k∈O \/ w.heap.size<=k)->K s' w':=by
  intro w' s' O' fk BM gD;have:=back fk BM gD rfl;rw [amc _ _ av] at this;exact hK s' w' this.front
 have lW: ∀q u,(List.flatMap f [y])[q]? =some u->w.cell? ((⟨b,0,none⟩:Addr).add q)=some u:=by
  intro q u hq;rw [Addr.aU,hO.cell,aml,hc]
  simpa using hq
 have J0: ∀u∈List.flatMap f [y],u.oneCell'=true:=by simpa using h1
 have UK:List.replicate m y++ [y]=List.replicate (m+1) y:=by rw [<-anH]
 rcases g3 with ⟨q1,q2⟩ | ⟨O1,O2,q1,q2,q3,q4⟩
 ·by_cases ll:c.len+1<=c.cap
  ·have aW:c.a≠none:=by
    intro lC
    rcases q2.2 with ⟨_,_,h0,_⟩ | ⟨_,_,_,h0,_⟩
    ·omega
    ·rw [lC] at h0;cases h0
   refine cq.Kc hf ht iE dL q2 (news:= [y]) rfl lW J0 aW ll fun w' vq fk=>?_;rw [UK] at vq;exact fin fk ⟨g1,by omega,.inl ⟨q1,vq⟩⟩ (fun k hk=>.inl hk)
  ·refine cq.app hf ht iE dL hz A8 q2 (news:= [y]) rfl lW J0 (by rw [vy];exact hb) (by omega) ?_;intro s' w' o' vq dQ mI hg fk Eh lC;have Eh:=Eh (by omega);have hg:=(hg (by omega)).2;rw [UK] at vq;obtain⟨Ol,k1,k2⟩:=bO.pre g1 g2 q1 (cq.toR q2);refine fin (O':=Ol++o') fk ⟨g1,by omega,.inr ⟨Ol,o',k1.fr Eh (by simp),vq,fun k hk bL=>?_,by simp⟩⟩ ?_
   ·have:=k1.lt k hk;have:=hg k bL;omega
   ·intro k hk
    rcases alg.1 hk with hk | hk
    ·exact .inl (k2 k hk)
    ·exact .inr (hg k hk)
 ·refine cq.app hf ht iE dL hz A8 q2 (news:= [y]) rfl lW J0 (by rw [vy];exact hb) (by omega) ?_;intro s' w' o' vq dQ mI hg fk Eh lC;rw [UK] at vq;have QI: ∀k∈o',k∈O2 \/ w.heap.size<=k:=by
   rcases mI with rfl | ⟨k,h1,_,rfl⟩
   ·exact fun k hk=>.inl hk
   ·intro k' bL;simp only [ali] at bL;subst bL;exact .inr h1
  refine fin (O':=O1++o') (fk.mono (fun k hk=>.inl ((q4 k).2 (.inr hk)))) ⟨g1,by omega,.inr ⟨O1,o',q1.fr fk q3,vq,fun k hk bL=>?_,by simp⟩⟩ ?_
  ·rcases QI k bL with h | h
   ·exact q3 k hk h
   ·have:=q1.lt k hk;omega
  ·intro k hk
   rcases alg.1 hk with hk | hk
   ·exact .inl ((q4 k).2 (.inl hk))
   ·rcases QI k hk with h | h
    ·exact .inl ((q4 k).2 (.inr h))
    ·exact .inr h
end Hp
end
section
variable {α:Type} {f:α->List Value} {n:Nat} {e:TypeId}
theorem jt {P:Program} {w:World} {b:Nat} {c vs:List Value} (hb:fF w b e c) {off m cap k:Nat} {t t2 ty:TypeId} {inf:TypeInfo} {s2:Sl} {K:Int->World->Prop}
  (ht:P.underlying t=some (.slice e)) (iE:P.info? e=some inf) (dL:inf.size=1) (hk:k=min s2.len m) (gJ:vs.length=k)
  (hv:k=0 \/ ∃x,s2.a=some x /\ ∀j u,vs[j]? =some u->w.cell? (x.add j)=some u) (ll:off+m<=c.length) (h1: ∀u∈vs,u.oneCell'=true)
  (hK: ∀w',fF w' b e (c.take off++vs++c.drop (off+k))->Fr [b] w w'->K k w'):
  cA (.i .i64) P (Builtin.copy_ #[t,t2] ty #[.slice (some ⟨b,off,none⟩) m cap,.slice s2.a s2.len s2.cap]) w K:=by
 have ik:(Builtin.firstCells inf.size k (.slice s2.a s2.len s2.cap)).run P w=.ok vs.toArray w:=by
  rw [dL]
  rcases hv with h0 | ⟨x,ha,fb⟩
  ·have:vs= []:=alL (by omega);subst this;rw [h0]
   cases s2.a <;> simp [Builtin.firstCells,loadCells,loadCellsFrom]
  ·rw [ha];exact run_firstCells_some (P:=P) w 1 k x s2.len s2.cap vs (by omega) fb
 have bW:=run_storeCells_at P b off e vs 0 c.toArray w hb (by simp only [anx];omega) h1;refine⟨(k:Int),w.setRow b (c.take off++vs++c.drop (off+vs.length)).toArray,?_,hK _ ?_ ⟨rfl,rfl,rfl,by simp,fun q _ hq=>setRow_other w b q _ (fun e=>hq (by simp [e]))⟩⟩
 ·simp only [amW] at bW;have UF:Nat.min s2.len m=k:=by rw [hk]
  simp only [Builtin.copy_];simp [run_underlying ht,Builtin.lenOf,sizeOf,typeInfo,iE,UF,ik,bW,Kd.inj,goInt]
 ·rw [gJ];exact setRow_heap w b c.toArray _ e _ hb
theorem FU {v:Value} {x0:α} (hx:f x0= [v]) (q:Nat):(Builtin.zeroCells #[v] q).toList=(List.replicate q x0).flatMap f:=by
 have e0:(List.replicate q x0).flatMap f=List.replicate q v:=by
  induction q with
  | zero=>rfl
  | succ q ih=>rw [amD,alX,ih,hx];rfl
 rw [e0];unfold Builtin.zeroCells;apply alM;intro i;simp [ams]
 split <;> simp_all [Nat.mod_one]
theorem cq.QJ {P:Program} {w:World} (hf: ∀x,(f x).length=1) {s:Sl} {l:List α} {x0:α} {v:Value} {o:List Nat} {t tn ty:TypeId} {kn:IntKind} {inf:TypeInfo} {z:Value} {k:Nat} {K:Sl->World->Prop} (h:cq w s e 1 f l o)
  (ht:P.underlying t=some (.slice e)) (V9:P.underlying tn=some (.int kn)) (iE:P.info? e=some inf) (dL:inf.size=1) (hz:inf.zero=some z) (hzc:z.cells=#[v]) (hx:f x0= [v]) (h0:0 < k) (hg:s.cap < s.len+k)
  (hb:(s.len+k)*inf.bytes<=140737488355328) (hn:s.len+k<=140737488355328)
  (hK: ∀b' p8 w',cq w' ⟨some ⟨b',0,none⟩,s.len+k,p8⟩ e 1 f (l++List.replicate k x0) [b']->w.heap.size<=b'->Fr [] w w'->K ⟨some ⟨b',0,none⟩,s.len+k,p8⟩ w'):
  cA .sl P (Builtin.append_ #[t,tn] ty #[.slice s.a s.len s.cap,.int .i64 (k:Int)]) w K:=by
 have gJ:=h.1;have p5:(l.flatMap f).length=s.len:=by rw [jA hf,gJ,amf]
 have hold:(Builtin.firstCells inf.size s.len (.slice s.a s.len s.cap)).run P w.drew=.ok (l.flatMap f).toArray w.drew:=by
  rw [dL]
  rcases h.2 with ⟨ha,sK,Du,ho⟩ | ⟨b,off,c,ha,ho,ke,eN,fm,dU⟩
  ·have:l= []:=alL (by omega);subst this;rw [sK,ha];simp [Builtin.firstCells,loadCells,loadCellsFrom]
  ·rw [ha];refine run_firstCells_some (P:=P) w.drew 1 s.len ⟨b,off,none⟩ s.len s.cap (l.flatMap f) (by omega) fun j u hj=>?_;show w.cell? _=_;rw [Addr.aU,ke.cell];rw [<-dU,alU] at hj
   split at hj
   ·rw [alZ] at hj;exact hj
   ·cases hj
 have hkb:k*inf.bytes<=(s.len+k)*inf.bytes:=ami _ (by omega);have hr:=Go.Lib.run_append_grow_zeros (P:=P) w t tn ty e inf z .i64 kn ht V9 iE hz s.a s.len s.cap (l.flatMap f) hold k h0 (by omega) hg (by omega) (by omega) (growslice_fits hg hb);refine⟨⟨some ⟨w.heap.size,0,none⟩,s.len+k,grownCap w (s.len+k) s.cap e⟩,_,hr,hK w.heap.size _ _ ?_ (alA _) ⟨rfl,rfl,rfl,by simp,fun q hq _=>Below.heap_alloc w.drew _ q hq⟩⟩;have lK:=grownCap_ge w (s.len+k) s.cap e;have e1:(l.flatMap f).toArray++Builtin.zeroCells z.cells k++Builtin.zeroCells z.cells (grownCap w (s.len+k) s.cap e - (s.len+k))=((l++List.replicate (grownCap w (s.len+k) s.cap e - s.len) x0).flatMap f).toArray:=by
  apply amw;rw [Array.toList_append,Array.toList_append,hzc,FU hx,FU hx,alJ,ale,<-alJ,List.replicate_append_replicate];simp only;congr 3;omega
 refine⟨by simp [gJ],.inr ⟨w.heap.size,0,(l++List.replicate (grownCap w (s.len+k) s.cap e - s.len) x0).flatMap f,rfl,rfl,?_,lK,?_,?_⟩⟩
 ·rw [e1];exact fF.alloc w.drew _ e
 ·rw [jA hf,alb,amr];show 0+grownCap w (s.len+k) s.cap e*1<=_;omega
 ·show List.take ((s.len+k)*1) _=_;rw [amP,pC hf,List.take_append,aln (by omega),List.take_replicate];congr 3;omega
namespace Hp
variable {S:List Nat} {w0 w:World} {ae:List aa}
theorem zt (h:Hp S w0 w ae) (i:Nat) {s:Sl} {l:List α} {j:Int} {y y':α} {m:Nat} {v:Value} {K:World->Prop} (hi:ae[i]? =some (aj s e n f l)) (h0:0<=j) (hy:l[j.toNat]? =some y) (hf: ∀x,(f x).length=n) (hm:m < n) (wB:f y'=(f y).set m v) (hv:v.oneCell'=true)
  (hK: ∀w',Hp S w0 w' (ae.set i (aj s e n f (l.set j.toNat y')))->K w'):Ix s.a s.len j n fun a=>St (a.add m) v w K:=by
 obtain⟨O,hO,back⟩:=h.step hi rfl;refine cq.ix hf hO h0 (x:=y) hy fun b off c ho hb fm ma dM=>?_;rw [Addr.aU];refine Go.Den.st hb (by omega) hv fun w' j7 fk _=>hK w' ?_;subst ho;refine back fk (t':=aj s e n f (l.set j.toNat y')) (O':= [b]) (dM w' y' ?_) (fun k hk=>.inl hk) rfl;have XW:c.set (off+m) v=c.take off++f y'++c.drop (off+n):=by
  have dh:=hf y;rw [wB];apply alM;intro q;by_cases h1:q < off
  ·rw [alC (by omega),ale,ak9 (by rw [alv];omega),alU,if_pos h1]
  ·by_cases h2:q < off+n
   ·rw [ale,ak8 (by rw [alv];omega),alv,am1 (by omega),ak9 (by rw [alV];omega)];have:=ma (q - off) (by omega);rw [show off+(q - off)=q by omega] at this;by_cases h3:q=off+m
    ·subst h3;rw [alx (by omega),show off+m - off=m by omega,alx (by omega)]
    ·rw [alC (by omega),alC (by omega),this]
   ·rw [alC (by omega),ale,ak8 (by rw [alv];omega),alv,am1 (by omega),ak8 (by rw [alV];omega),alV,dh,alZ];congr 1;omega
 rw [<-XW];exact j7
end Hp
end
end Go.Den
end

section
namespace Go.Proofs.YtcccjgmekakabaaGreat.FW
open F
open Go Go.Den Go.Proofs
open FT (iv aB eS ku)
theorem UL:Tryz.prog.underlying 3=some (.int .i64):=by kernel_rfl
theorem FV {A La Lb V D:List Value} {off m:Nat} (hA:A.length=off) (hm:V.length=m) (hD:m<=D.length) {c c1 c2:List Value} (hc:c=A++(La++(Lb++D)))
  (h1:c1=c.take (off+La.length+m)++Lb++c.drop (off+La.length+m+Lb.length)) (h2:c2=c1.take (off+La.length)++V++c1.drop (off+La.length+m)):
  c2=A++(La++(V++(Lb++c.drop (off+La.length+m+Lb.length)))) /\ c2.length=c.length:=by
 have e1:c.take (off+La.length+m)=A++La++(Lb++D).take m:=by
  rw [hc,<-ale,show off+La.length+m=(A++La).length+m by simp;omega,List.take_length_add_append]
 have Bw:(A++La++(Lb++D).take m).length=off+La.length+m:=by simp;omega
 have e2:c1.take (off+La.length)=A++La:=by
  rw [h1,e1,ale,ale (A++La),amE (by simp;omega)]
 have e3:c1.drop (off+La.length+m)=Lb++c.drop (off+La.length+m+Lb.length):=by
  rw [h1,e1,ale,an7 Bw]
 refine⟨by rw [h2,e2,e3];simp,?_⟩;rw [h2,e2,e3];have:c.length=off+La.length+Lb.length+D.length:=by rw [hc];simp;omega
 simp only [alb,alT,hA,hm];omega
section
variable {S:List Nat} {w0 w:World} {ae:List aa}
theorem XX (l:List Int):l.flatMap iv=l.map (fun x=>Value.int .i64 x):=by
 induction l with
 | nil=>rfl
 | cons a l ih=>rw [alX,alR,ih];rfl
theorem oH {l:List Int}: ∀u∈l.flatMap iv,u.oneCell'=true:=by
 intro u hu;rw [XX] at hu;obtain⟨x,_,rfl⟩:=alu.1 hu;rfl
theorem qO (l:List Int):(l.flatMap iv).length=l.length:=by rw [jA aB,amf]
theorem uS {a b:Nat} {ca cb:List Value} {ta tb:TypeId} (ha:fF w a ta ca) (hb:fF w b tb cb) (aW:a≠b) (hcb:cb≠ []) {oa ob la lb cpa cpb:Nat} {K:Bool->World->Prop} (hK:K false w):
  Bl Tryz.prog 112 [.slice (some ⟨a,oa,none⟩) la cpa,.slice (some ⟨b,ob,none⟩) lb cpb] [.one .b] w K:=by
 refine⟨.bool false,w,?_,hK⟩;have sh: ∀{k:Nat} {t:TypeId} {c:List Value},fF w k t c->w.shape? k=some (t,c.length):=fun{k t c} h=>by
  have h:w.heap[k]? =some (.cells c.toArray t (0,0)):=h;simp [World.shape?,h]
 obtain⟨inf,p1,p2,p3,p4⟩:=ku;have dL: ∀w',(sizeOf 2).run Tryz.prog w'=.ok 1 w':=fun w'=>by simp [sizeOf,typeInfo,p1,p3]
 rw [run_callFunc_extern (P:=Tryz.prog) (fn:=Tryz.f112) (e:=Extern.SlicesOverlaps.overlaps #[34,34] #[4]) (by kernel_rfl) (by kernel_rfl) (by kernel_rfl) (by kernel_rfl) (by kernel_rfl)];have:=Lib.run_overlaps_apart (P:=Tryz.prog) w 34 4 2 eS 1 dL ⟨a,oa,none⟩ ⟨b,ob,none⟩ la cpa lb cpb aW ta tb ca.length cb.length (sh ha) (sh hb) (by simpa using hcb) (ha.frozen oa) (ha.frozen ca.length);rw [this];rfl
theorem fC {s:Sl} {b off:Nat} (hs:s.a=some ⟨b,off,none⟩) {l h m:Int} {K:Sl->Prop} (h0:0<=l) (h1:l<=h) (h2:h<=m) (h3:m<=s.cap) (h4:l.toNat < m.toNat) (hK:K ⟨some ⟨b,off+l.toNat,none⟩,h.toNat - l.toNat,m.toNat - l.toNat⟩):Cut s l h m 1 K:=by
 refine⟨h0,h1,h2,h3,?_⟩;rw [if_neg (by omega),hs]
 simpa [Addr.aU] using hK
set_option maxHeartbeats 4000000 in
theorem B1 {O:List Nat} {s v:Sl} {l xs:List Int} (h1:Hp O w w [aj s 2 1 iv l,aj v 2 1 iv xs]) {p:Nat} (hp:p<=l.length) (hl:l.length+xs.length<=1000000) {K:Sl->World->Prop}
  (hK: ∀s' w',Hp O w w' [aj s' 2 1 iv (l.take p++xs++l.drop p),aj v 2 1 iv xs]->K s' w'):f56 s (p:Int) v w K:=by
 unfold f56;obtain⟨inf,q1,q2,q3,q4⟩:=ku;have fB:=h1.len (s:=s) 0 rfl;have gJ:=h1.len (s:=v) 1 rfl;have Mz:=h1.cap (s:=s) 0 rfl;have hww:i64.wrap ((s.len:Int)+(v.len:Int))=((s.len+v.len:Nat):Int):=by rw [aI (by omega) (by omega)];omega
 refine⟨by omega,by omega,by omega,al4 _,?_⟩;by_cases hm:v.len=0
 ·refine aL (by simp [hm]) ?_;have:xs= []:=alL (by omega);subst this;exact hK s w (by rw [alh,amg];exact h1)
 refine aJ (by simpa using hm) ?_;by_cases hpn:p=s.len
 ·refine aL (by simp [hpn]) ?_;refine h1.gq 0 1 rfl rfl Hp.bZ aB eS q1 q3 q2 rfl (by simp [iv,Value.oneCell']) (by rw [q4];omega) (by omega) fun s' w' h1 _ _=>?_;refine hK s' w' ?_;rw [aln (by omega),amb (by omega),alh];exact h1
 refine aJ (by simp;omega) ?_;rw [hww]
 -- what lies where
 obtain⟨fk,F,g1,g2⟩:=id h1;obtain⟨hS,-,-⟩:=g1 0 _ rfl;obtain⟨hV,-,-⟩:=g1 1 _ rfl;have JT:=g2 0 1 _ _ rfl rfl (by decide) rfl rfl;obtain⟨bv,ov,cv,Ke,hov,Pa,hcv,Kf,Kg⟩: ∃b off c,v.a=some ⟨b,off,none⟩ /\ F 1= [b] /\ fF w b 2 c /\ v.len<=v.cap /\ off+v.cap*1<=c.length /\ (c.drop off).take (v.len*1)=xs.flatMap iv:=by
  rcases hV.2 with ⟨_,h0,_⟩ | h
  ·omega
  ·exact h
 obtain⟨b,off,c,Ay,hos,ke,_,fm,dU⟩: ∃b off c,s.a=some ⟨b,off,none⟩ /\ F 0= [b] /\ fF w b 2 c /\ s.len<=s.cap /\ off+s.cap*1<=c.length /\ (c.drop off).take (s.len*1)=l.flatMap iv:=by
  rcases hS.2 with ⟨_,h0,_⟩ | h
  ·omega
  ·exact h
 have Kh:b≠bv:=fun e=>JT b (by rw [hos];simp) (by rw [hov];simp [e]);rw [amf] at fm Kf dU Kg;have Az:(xs.flatMap iv).length=v.len:=by rw [qO];omega
 have B2: ∀{w':World},fF w' bv 2 cv-> ∀j u,(xs.flatMap iv)[j]? =some u->w'.cell? ((⟨bv,ov,none⟩:Addr).add j)=some u:=fun{w'} hb j u hj=>by
  rw [Addr.aU,hb.cell];rw [<-Kg,alU] at hj
  split at hj
  ·rw [alZ] at hj;exact hj
  ·cases hj
 have yL:((l.take p).flatMap iv).length=p:=by rw [qO,alv];omega
 have B3:((l.drop p).flatMap iv).length=s.len - p:=by rw [qO,alT];omega
 have XY:l.flatMap iv=(l.take p).flatMap iv++(l.drop p).flatMap iv:=by rw [<-alJ,amg]
 by_cases hg:s.cap < s.len+v.len
 ·refine aL (by simp;omega) ?_;refine cq.cut aB hS (by omega) (by omega) (by omega) (al4 _) (by omega) fun s4 Hd hl4 XZ _=>?_;have ew:i64.wrap (((s.len+v.len:Nat):Int) - (p:Int))=((s.len+v.len - p:Nat):Int):=by rw [aI (by omega) (by omega)];omega
  rw [ew];have e4:((l.take ((p:Nat):Int).toNat).drop (0:Int).toNat)=l.take p:=by rw [ak7];rfl
  rw [e4] at Hd;have adj:s4.len=p:=by rw [hl4];simp
  have adk:s4.cap=s.cap:=by rw [XZ];simp
  refine cq.QJ (x0:=(0:Int)) (v:=.int .i64 0) (k:=s.len+v.len - p) aB Hd eS UL q1 q3 q2 rfl rfl (by omega) (by omega) (by rw [q4];omega) (by omega) fun b' p8 w1 zu lK yH=>?_;have A7:s4.len+(s.len+v.len - p)=s.len+v.len:=by omega
  rw [A7] at zu ⊢;obtain⟨c',j7,zf,X0,UM⟩: ∃c',fF w1 b' 2 c' /\ s.len+v.len<=p8 /\ p8<=c'.length /\ c'.take (s.len+v.len)=(l.take p++List.replicate (s.len+v.len - p) 0).flatMap iv:=by
   rcases zu.2 with ⟨h0,_⟩ | ⟨b'',Pb,c',h0,ho,g1,g2,g3,g4⟩
   ·cases h0
   ·injection h0 with h0;injection h0 with h0 MA;subst h0 MA;exact⟨c',g1,g2,by simpa using g3,by simpa using g4⟩
  have IH:b < w.heap.size:=ke.lt;have adl:bv < w.heap.size:=Pa.lt;have Er:=Pa.fr yH (by simp);have tJ:=ke.fr yH (by simp);have xw: ∀{w':World},fF w' b 2 c-> ∀j u,((l.drop p).flatMap iv)[j]? =some u->w'.cell? ((⟨b,off+p,none⟩:Addr).add j)=some u:=fun{w'} hb j u hj=>by
   rw [Addr.aU,hb.cell];have gQ:=(ak6.1 hj).1;have lF:c[off+p+j]? =(l.flatMap iv)[p+j]? :=by
    rw [<-dU,alU,if_pos (by omega),alZ];congr 1;omega
   rw [lF,XY,ak8 (by omega),yL,amn];exact hj
  refine fC (b:=b') (off:=0) rfl (by omega) (by simp;omega) (by simp;omega) (by simp) (by simp;omega) ?_;rw [Ke];refine jt (s2:=⟨some ⟨bv,ov,none⟩,v.len,v.cap⟩) (k:=v.len) (vs:=xs.flatMap iv) j7 eS q1 q3 (by simp;omega) Az (.inr ⟨_,rfl,B2 Er⟩) (by dsimp only;omega) oH fun w2 gO pL=>?_;have p9:=tJ.fr pL (by simp;omega);refine Go.Den.dr fun w3 Ba _ rA=>?_;have UN:=rA _ _ _ gO;have B4:=rA _ _ _ p9;have UO:i64.wrap ((p:Int)+(v.len:Int))=((p+v.len:Nat):Int):=by rw [aI (by omega) (by omega)];omega
  rw [UO];refine fC (b:=b') (off:=0) rfl (by omega) (by simp;omega) (by simp;omega) (by simp) (by simp;omega) ?_;refine fC Ay (by omega) (by omega) (by omega) (al4 _) (by simp;omega) ?_;refine jt (s2:=⟨some ⟨b,off+((p:Nat):Int).toNat,none⟩,_,_⟩) (k:=s.len - p) (vs:=(l.drop p).flatMap iv) UN eS q1 q3 (by simp;omega) B3 (.inr ⟨_,rfl,xw B4⟩) (by rw [alb,alb,alv,alT,Az];dsimp only;omega) oH fun w4 Di FX=>?_;have t1:((p+v.len:Nat):Int).toNat=p+v.len:=ak7 _;have t2:((p:Nat):Int).toNat=p:=ak7 _;simp only [t1,t2,aml] at Di gO;have Bw:(c'.take p++xs.flatMap iv).length=p+v.len:=by rw [alb,Az,alv];omega
  have e5:(c'.take p++xs.flatMap iv++c'.drop (p+v.len)).take (p+v.len)=c'.take p++xs.flatMap iv:=amE Bw;have e6:c'.take p=(l.take p).flatMap iv:=by
   have:=congrArg (List.take p) UM;rw [anE,am1 (by omega),alJ,amE yL] at this;exact this
  rw [e5,e6] at Di;obtain⟨O0,q9,back⟩:=h1.step (i:=0) rfl rfl;have Pc:Fr [] w w4:=((yH.trans pL (fun k hk=>.inr (by simp only [ali] at hk;omega))).trans Ba (by simp)).trans FX (fun k hk=>.inr (by simp only [ali] at hk;omega));refine hK _ _ (back (Pc.mono (by simp)) (t':=aj ⟨some ⟨b',0,none⟩,s.len+v.len,p8⟩ 2 1 iv (l.take p++xs++l.drop p)) (O':= [b']) ?_ (fun k hk=>.inr (by simp only [ali] at hk;omega)) rfl);refine⟨by simp;omega,.inr ⟨b',0,_,rfl,rfl,Di,zf,?_,?_⟩⟩
  ·show 0+p8*1<=_;rw [alb,alb,alb,yL,Az,B3,alT,alb,alb,yL,Az,alT];omega
  ·show List.take ((s.len+v.len)*1) _=_;rw [amP,amf,alJ,alJ,amE (by rw [alb,alb,yL,B3,Az];omega)]
 ·refine aJ (by simp;omega) ?_
  -- in place
  obtain⟨O0,q9,back⟩:=h1.step (i:=0) rfl rfl;have hO0:O0= [b]:=by
   rcases q9.2 with ⟨h0,_⟩ | ⟨b',Pb,c',h0,ho,_⟩
   ·rw [Ay] at h0;cases h0
   ·rw [Ay] at h0;injection h0 with h0;injection h0 with h0;rw [ho,h0]
  subst hO0;have UO:i64.wrap ((p:Int)+(v.len:Int))=((p+v.len:Nat):Int):=by rw [aI (by omega) (by omega)];omega
  have X1:c=c.take off++((l.take p).flatMap iv++((l.drop p).flatMap iv++c.drop (off+s.len))):=by
   rw [<-ale ((l.take p).flatMap iv),<-XY,<-dU,<-al3,amg,amg]
  have vy:s.len+off<=c.length:=by omega
  have L2:((l.drop p).flatMap iv).length=s.len - p:=B3;have xw: ∀{w':World},fF w' b 2 c-> ∀j u,((l.drop p).flatMap iv)[j]? =some u->w'.cell? ((⟨b,off+p,none⟩:Addr).add j)=some u:=fun{w'} hb j u hj=>by
   rw [Addr.aU,hb.cell];have gQ:=(ak6.1 hj).1;rw [X1,ak8 (by simp;omega),ak8 (by rw [yL,alv];omega),ak9 (by rw [yL,alv];omega),yL,alv];rw [<-hj];congr 1;omega
  refine fC Ay (by omega) (by omega) (by omega) (al4 _) (by omega) ?_;rw [UO];refine fC (b:=b) (off:=off+(0:Int).toNat) rfl (by omega) (by simp;omega) (by simp;omega) (by simp) (by simp;omega) ?_;rw [Ke];refine uS (cb:=c) Pa ke (fun e=>Kh e.symm) (fun e=>by rw [e] at vy;simp at vy;omega) ?_;refine aL rfl ?_;refine Go.Den.dr fun w1 yH _ n9=>?_;have tJ:=n9 _ _ _ ke;have Er:=n9 _ _ _ Pa;refine fC (b:=b) (off:=off+(0:Int).toNat) rfl (by omega) (by simp;omega) (by simp;omega) (by simp) (by simp;omega) ?_;refine fC (b:=b) (off:=off+(0:Int).toNat) rfl (by omega) (by simp;omega) (by simp;omega) (by simp) (by simp;omega) ?_;refine jt (s2:=⟨some ⟨b,off+(0:Int).toNat+((p:Nat):Int).toNat,none⟩,_,_⟩) (k:=s.len - p) (vs:=(l.drop p).flatMap iv) tJ eS q1 q3 (by simp;omega) B3 (.inr ⟨_,rfl,xw tJ⟩) (by simp;omega) oH fun w2 gO pL=>?_;have UP:=Er.fr pL (by simp;exact fun e=>Kh e.symm);refine fC (b:=b) (off:=off+(0:Int).toNat) rfl (by omega) (by simp;omega) (by simp;omega) (by simp) (by simp;omega) ?_;refine jt (s2:=⟨some ⟨bv,ov,none⟩,v.len,v.cap⟩) (k:=v.len) (vs:=xs.flatMap iv) gO eS q1 q3 (by simp;omega) Az (.inr ⟨_,rfl,B2 UP⟩) (by rw [alb,alb,alv,alT,B3];dsimp only;omega) oH fun w3 rA Ba=>?_;have t1:((p+v.len:Nat):Int).toNat=p+v.len:=ak7 _;have t2:((p:Nat):Int).toNat=p:=ak7 _;have t3:((s.len+v.len:Nat):Int).toNat=s.len+v.len:=ak7 _;have t0:(0:Int).toNat=0:=rfl;simp only [t1,t2,t3,t0,amW,Nat.sub_zero] at rA Ba gO pL ⊢;obtain⟨er,el⟩:=FV (A:=c.take off) (La:=(l.take p).flatMap iv) (Lb:=(l.drop p).flatMap iv) (V:=xs.flatMap iv) (D:=c.drop (off+s.len)) (off:=off) (m:=v.len) (by simp;omega) Az (by simp;omega) X1 rfl rfl;rw [yL,B3] at er el;rw [<-ani off p v.len,er] at rA;rw [<-ani off p v.len] at gO;rw [ak7];have Pc:Fr [b] w w3:=((yH.mono (S':= [b]) (by simp)).trans pL (fun k hk=>.inl hk)).trans Ba (fun k hk=>.inl hk);refine hK _ _ (back Pc (t':=aj ⟨some ⟨b,off,none⟩,s.len+v.len,s.cap⟩ 2 1 iv (l.take p++xs++l.drop p)) (O':= [b]) ?_ (fun k hk=>.inl hk) rfl);refine⟨by simp;omega,.inr ⟨b,off,_,rfl,rfl,rA,by show s.len+v.len<=s.cap;omega,?_,?_⟩⟩
  ·rw [er] at el;rw [el];show off+s.cap*1<=_;omega
  ·show List.take ((s.len+v.len)*1) _=_;rw [an7 (by simp;omega),amf,alJ,alJ,<-ale,<-ale,amE (by rw [alb,alb,yL,B3,Az];omega)]
theorem uT (h:Hp S w0 w ae) (i j:Nat) (iZ:i≠j) {s v:Sl} {l xs:List Int} {p:Nat} (hi:ae[i]? =some (aj s 2 1 iv l)) (hj:ae[j]? =some (aj v 2 1 iv xs)) (hp:p<=l.length) (hl:l.length+xs.length<=1000000) {K:Sl->World->Prop}
  (hK: ∀s' w',Hp S w0 w' (ae.set i (aj s' 2 1 iv (l.take p++xs++l.drop p)))->K s' w'):R4 s (p:Int) v w K:=by
 refine JJ ?_;obtain⟨O,h1,back⟩:=h.f2 iZ hi hj rfl rfl;refine B1 h1 hp hl fun s' w' h1=>hK s' w' ?_;have:=back (rest:= []) rfl rfl rfl h1;rw [alh] at this;have e:(ae.set i (aj s' 2 1 iv (l.take p++xs++l.drop p))).set j (aj v 2 1 iv xs)=ae.set i (aj s' 2 1 iv (l.take p++xs++l.drop p)):=Hp.bN (by rw [alC iZ];exact hj);rw [e] at this;exact this
end
end Go.Proofs.YtcccjgmekakabaaGreat.FW
end

section
namespace Go.Den
open Go.RowKit
abbrev ky (x:Int):List Value:= [.int .u8 x]
theorem cE (x:Int):(ky x).length=1:=rfl
def cJ (s:ByteArray):List Int:=s.data.toList.map fun b=>(b.toNat:Int)
def strOf (l:List Int):ByteArray:=⟨(l.map fun x=>UInt8.ofNat x.toNat).toArray⟩
def Bytes (l:List Int):Prop:= ∀x∈l,0<=x /\ x < 256
theorem oI (s:ByteArray):(cJ s).length=s.size:=by simp [cJ]
theorem jP {l:List Int} (h:Bytes l):cJ (strOf l)=l:=by
 unfold cJ strOf;simp only [List.toList_toArray,amJ]
 conv=>rhs;rw [<-List.map_id l]
 apply anN;intro x hx;obtain⟨h0,h1⟩:=h x hx;simp only [Function.comp,id];have:x.toNat < 256:=by omega
 simp only [UInt8.toNat_ofNat'];omega
theorem xx {a b:ByteArray} (h:cJ a=cJ b):a=b:=by
 have h2:a.data.toList=b.data.toList:=by
  unfold cJ at h;apply List.map_inj_right (f:=fun x:UInt8=>(x.toNat:Int)) ?_ |>.1 h
  intro x y MB;exact UInt8.toNat_inj.1 (Int.ofNat_inj.1 MB)
 cases a;cases b
 simp only [ByteArray.mk.injEq];exact amw h2
theorem FY (a b:ByteArray):(a.toList ==b.toList)=decide (cJ a=cJ b):=by
 have e:a.toList=b.toList↔cJ a=cJ b:=by
  constructor
  ·intro h;rw [ByteArray.toList_eq,ByteArray.toList_eq] at h;unfold cJ;rw [h]
  ·intro h;rw [xx h]
 by_cases h:cJ a=cJ b
 ·rw [decide_eq_true h];simpa using e.2 h
 ·rw [decide_eq_false h];simp only [beq_eq_false_iff_ne,ne_eq];exact fun h'=>h (e.1 h')
theorem B5 (s:ByteArray):Lib.strCells s=(cJ s).flatMap ky:=by
 unfold Lib.strCells cJ
 induction s.data.toList with
 | nil=>rfl
 | cons x l ih=>simp only [alR,alX,ih];rfl
section
variable {P:Program} {w:World} {e:TypeId}
end
namespace Hp
variable {S:List Nat} {w0 w:World} {ae:List aa} {P:Program} {e:TypeId}
theorem bat (h:Hp S w0 w ae) (i:Nat) {u:aa} {s:Sl} {l:List Int} (hi:(ae[i]?).map aa.holds=some u.holds) (hu:Reads u s 1 ky l) (b:ByteArray) (hb:cJ b=l):pe w s b:=by
 obtain⟨O,hO⟩:=h.de hi;obtain⟨o,h1,h2⟩:=hu.rd hO;have yM:b.data.toList.length=s.len:=by
  rw [<-h1,<-hb];simp [cJ]
 refine⟨yM,?_⟩
 rcases h2 with ⟨h3,_⟩ | ⟨x,h3,_,_,h4⟩
 ·cases ha:s.a with
  | none=>exact .inl ⟨rfl,h3⟩
  | some a=>
   refine .inr ⟨a,rfl,fun j x hx=>?_⟩;have:=(ak6.1 hx).1;omega
 ·refine .inr ⟨x,h3,fun j y hy=>h4 j _ ?_⟩;rw [<-hb,<-B5];simp only [Lib.strCells,alc,hy,al8]
theorem MC (h:Hp S w0 w ae) (i:Nat) {u:aa} {s:Sl} {l:List Int} {K:ByteArray->Prop} (hi:(ae[i]?).map aa.holds=some u.holds) (hu:Reads u s 1 ky l) (b:ByteArray) (hb:cJ b=l) (hK:K b):Ft w s K:=
 ⟨b,h.bat i hi hu b hb,hK⟩
end Hp
end Go.Den
end

section
namespace Go.Proofs.YtcccjgmekakabaaGreat.FW
open F
open Go Go.Den Go.Proofs
theorem Ki:Tryz.prog.underlying 23=some (.slice 5):=by kernel_rfl
theorem UQ:Tryz.prog.underlying 9=some .string:=by kernel_rfl
theorem adn:Tryz.prog.underlying 5=some (.int .u8):=by kernel_rfl
theorem ql:Tryz.prog.underlying 45=some (.slice 9):=by kernel_rfl
theorem eM:Tryz.prog.underlying 22=some (.slice 107):=by kernel_rfl
theorem xy: ∃inf:TypeInfo,Tryz.prog.info? 9=some inf /\ inf.zero=some (.string ⟨#[]⟩) /\ inf.size=1 /\ inf.bytes=16:=fU (by kernel_rfl)
theorem zv: ∃inf:TypeInfo,Tryz.prog.info? 107=some inf /\ inf.zero=some (.agg #[.string ⟨#[]⟩,.slice none 0 0]) /\ inf.size=2 /\ inf.bytes=40:=fU (by kernel_rfl)
abbrev sv (x:ByteArray):List Value:= [.string x]
theorem cW (x:ByteArray):(sv x).length=1:=rfl
def mf (i:Nat) (c:Int):Prop:=((97<=c /\ c<=122) \/ (65<=c /\ c<=90)) \/ (i≠0 /\ (c=95 \/ (48<=c /\ c<=57)))
instance (i:Nat) (c:Int):Decidable (mf i c):=by unfold mf;infer_instance
def eU (l:List Int):Prop:=(∀i,(h:i < l.length)->mf i l[i]) /\ l≠ [] /\ l.length<=16
instance (l:List Int):Decidable (eU l):=by unfold eU;infer_instance
def bB (L:List ByteArray):Prop:= ∀i,(h:i < L.length)->eU (cJ L[i]) /\ L[i] ∉ L.take i
theorem FZ {a b:ByteArray}:(a.toList ==b.toList)=decide (a=b):=by
 rw [FY];by_cases h:a=b
 ·simp [h]
 ·rw [decide_eq_false h,decide_eq_false (fun e=>h (xx e))]
noncomputable instance ado (x:ByteArray) (L:List ByteArray):Decidable (x∈L):=Classical.propDecidable _
noncomputable instance (L:List ByteArray):Decidable (bB L):=Classical.propDecidable _
section
variable {S:List Nat} {w0 w:World} {ae:List aa}
theorem Kj (h:Hp S w0 w ae) {s:ByteArray} {K:Sl->World->Prop} (hK: ∀x w',Hp S w0 w' (ae++ [sM x 1 ky (cJ s)])->K x w'):cA .sl Tryz.prog (convert 9 23 (.string s)) w K:=by
 refine⟨⟨some ⟨w.heap.size,0,none⟩,s.size,grownCap w s.size 0 5⟩,Lib.bytesWorld w 5 s,Lib.run_convert_string_bytes w 9 23 5 s UQ Ki adn,hK _ _ ?_⟩;refine h.grow (t:=sM ⟨some ⟨w.heap.size,0,none⟩,s.size,grownCap w s.size 0 5⟩ 1 ky (cJ s)) (O:= [w.heap.size]) ⟨rfl,rfl,rfl,by rw [Lib.bytesWorld_size];omega,fun k hk _=>Lib.bytesWorld_at_old w 5 s k hk⟩ ?_ (by simp) rfl;refine⟨oI s,.inr ⟨⟨w.heap.size,0,none⟩,rfl,rfl,by rw [Lib.bytesWorld_size];exact Nat.lt_succ_self _,fun j u hj=>?_⟩⟩;have e: ∀l:List Int,l.flatMap ky=l.map (fun x=>Value.int .u8 x):=fun l=>by
  induction l with
  | nil=>rfl
  | cons a l ih=>rw [alX,alR,ih];rfl
 rw [e,alc] at hj;obtain⟨x,hx,rfl⟩:=alH.1 hj;have av:j < s.size:=by have:=(ak6.1 hx).1;rwa [oI] at this
 rw [Addr.aU,aml,Lib.bytesWorld_cell w 5 s j av];unfold cJ at hx;rw [alc] at hx;obtain⟨y,hy,rfl⟩:=alH.1 hx;rw [List.getD,hy];rfl
theorem He (h:Hp S w0 w ae) {s:ByteArray} {K:Bool->World->Prop} (hs:s.size<=1000000000000) (hK: ∀w',Hp S w0 w' ae->K (decide (eU (cJ s))) w'):Ss s w K:=by
 refine OB ?_;unfold f148;refine Kj h fun x w1 h=>?_;have fB:=oI s;have ja:=h.ac8 (s:=x) (l:=cJ s) (n:=1) (f:=ky) ae.length (by simp);refine⟨fun t m w'=> ∃k:Nat,t=k /\ k<=x.len /\ m=x.len - k /\ (∀i,(hi:i < (cJ s).length)->i < k->mf i (cJ s)[i]) /\ w'=w1,⟨x.len,0,rfl,by omega,rfl,fun i _ h=>by omega,rfl⟩,?_⟩;rintro t m w2 ⟨k,rfl,hk,rfl,bz,rfl⟩;have h0:=h.front;by_cases av:k < x.len
 ·refine aL (by simp;omega) ?_;have cO:k < (cJ s).length:=by omega
  refine h.XP (k:=.i .u8) (s:=x) (l:=cJ s) (y:=(cJ s)[k]) (x:=(cJ s)[k]) ae.length (by simp) (by omega) (by simp [cO]) cE rfl ?_;by_cases hc:mf k (cJ s)[k]
  ·refine aJ ?_ ⟨x.len - (k+1),by omega,k+1,by rw [aI (by omega) (by omega)];omega,by omega,rfl,fun i hi Ig=>?_,rfl⟩
   ·generalize (cJ s)[k]=c at hc;unfold mf at hc;by_cases h1:c>=97 /\ c<=122
    ·simp [h1.1,h1.2]
    ·by_cases h2:c>=65 /\ c<=90
     ·simp [h2.1,h2.2]
     ·obtain⟨Es,hc⟩:k≠0 /\ (c=95 \/ (48<=c /\ c<=57)):=by omega
      have:(((k:Nat):Int) ==0)=false:=by simpa using Es
      rcases hc with rfl | ⟨h3,h4⟩
      ·simp [this]
      ·have h5: ¬(c < 48):=by omega
       have h6: ¬(c > 57):=by omega
       simp [this,h5,h6]
   ·by_cases Et:i < k
    ·exact bz i hi Et
    ·obtain rfl:i=k:=by omega
     exact hc
  ·refine aL ?_ ?_
   ·generalize (cJ s)[k]=c at hc;unfold mf at hc;have h1: ¬(c>=97 /\ c<=122):=fun h=>hc (.inl (.inl h));have h2: ¬(c>=65 /\ c<=90):=fun h=>hc (.inl (.inr h));have e1:(cond (decide (c>=97)) (decide (c<=122)) false)=false:=by by_cases g:c>=97 <;> simp [g] <;> omega
    have e2:(cond (decide (c>=65)) (decide (c<=90)) false)=false:=by by_cases g:c>=65 <;> simp [g] <;> omega
    rw [e1,e2];by_cases Es:k=0
    ·simp [Es]
    ·have h3: ¬(c=95 \/ (48<=c /\ c<=57)):=fun h=>hc (.inr ⟨Es,h⟩);have:(((k:Nat):Int) ==0)=false:=by simpa using Es
     have h4:(c !=95)=true:=by simp;omega
     by_cases h5:c < 48
     ·simp [this,h4,h5]
     ·have h6:c > 57:=by omega
      simp [this,h4,h5,h6]
   ·have:=hK _ h0;have dz: ¬eU (cJ s):=fun hw=>hc (hw.1 k cO)
    rwa [decide_eq_false dz] at this
 ·refine aJ (by simp;omega) ?_;have:=hK _ h0;have e:(cond (!(s.toList ==(⟨#[]⟩:ByteArray).toList)) (decide ((s.size:Int)<=16)) false)=decide (eU (cJ s)):=by
   rw [FZ];have hz:s=⟨#[]⟩↔cJ s= []:=by
    constructor
    ·rintro rfl;rfl
    ·intro he;exact xx he
   by_cases he:s=⟨#[]⟩
   ·have: ¬eU (cJ s):=fun hw=>hw.2.1 (hz.1 he);simp [he] at this ⊢;exact this
   ·by_cases h16:s.size<=16
    ·have:eU (cJ s):=⟨fun i hi=>bz i hi (by omega),fun e=>he (hz.2 e),by omega⟩;simp [he,this];omega
    ·have: ¬eU (cJ s):=fun hw=>h16 (by have:=hw.2.2;omega);simp [he,this];omega
  rw [e];exact this
theorem yN (h:Hp S w0 w ae) (j:Nat) {u:aa} {s:Sl} {L:List ByteArray} {x:ByteArray} (hj:(ae[j]?).map aa.holds=some u.holds) (hu:Hp.Reads u s 1 sv L) (hl:L.length<=1000000000) {K:Bool->World->Prop} (hK:K (decide (x∈L)) w):Su s x w K:=by
 refine OC ?_;unfold f149;refine ON ?_;unfold f162;have fB:=h.dR j hj hu;refine⟨fun t m w'=> ∃k:Nat,t=k /\ k<=L.length /\ m=L.length - k /\ x ∉ L.take k /\ w'=w,⟨L.length,0,rfl,by omega,rfl,by simp,rfl⟩,?_⟩;rintro t m w2 ⟨k,rfl,hk,rfl,dz,rfl⟩;by_cases av:k < L.length
 ·refine aL (by simp;omega) ?_;refine h.fH (k:=.s) (u:=u) (y:=L[k]) (x:=L[k]) j hj hu (by omega) (by simp [av]) cW rfl ?_;rw [FZ];by_cases he:x=L[k]
  ·refine aL (by simpa using he) ?_;have:x∈L:=by rw [he];exact alz av
   rw [decide_eq_true this] at hK;have e:decide (((k:Nat):Int)>=0)=true:=by simp
   show K (decide (((k:Nat):Int)>=0)) _;rw [e];exact hK
  ·refine aJ (by simpa using he) ⟨L.length - (k+1),by omega,k+1,by rw [aI (by omega) (by omega)];omega,by omega,rfl,?_,rfl⟩;rw [alp av];simp only [alg,ali];rintro(h | h)
   ·exact dz h
   ·exact he h
 ·refine aJ (by simp;omega) ?_;rw [aln (by omega)] at dz;rw [decide_eq_false dz] at hK;exact hK
theorem ni (h:Hp S w0 w ae) (j:Nat) {u:aa} {s:Sl} {L:List ByteArray} (hj:(ae[j]?).map aa.holds=some u.holds) (hu:Hp.Reads u s 1 sv L) (hl:L.length<=1000000000) (eN:s.len<=s.cap) (dL: ∀x∈L,x.size<=1000000000000) {K:Bool->World->Prop}
  (hK: ∀w',Hp S w0 w' ae->K (decide (bB L)) w'):Na s w K:=by
 refine NX ?_;unfold f109;have fB:=h.dR j hj hu;refine⟨fun t m w'=> ∃k:Nat,t=k /\ k<=L.length /\ m=L.length - k /\ (∀i,(hi:i < L.length)->i < k->eU (cJ L[i]) /\ L[i] ∉ L.take i) /\ Hp S w0 w' ae,⟨L.length,0,rfl,by omega,rfl,fun i _ h=>by omega,h⟩,?_⟩;clear h;rintro t m w2 ⟨k,rfl,hk,rfl,bz,h⟩;by_cases av:k < L.length
 ·refine aL (by simp;omega) ?_;refine h.fH (k:=.s) (u:=u) (y:=L[k]) (x:=L[k]) j hj hu (by omega) (by simp [av]) cW rfl ?_;refine He h (dL _ (alz av)) fun w3 h=>?_;by_cases hw:eU (cJ L[k])
  ·refine aJ (by simpa using hw) ?_;refine Hp.nU (s:=s) hu fB cW (by omega) (by omega) (by omega) (al4 _) (by omega) fun s2 pM _ _=>?_;have e:(L.take ((k:Nat):Int).toNat).drop (0:Int).toNat=L.take k:=by rw [ak7];rfl
   rw [e] at pM;refine yN h j hj pM (by rw [alv];omega) ?_;by_cases hc:L[k]∈L.take k
   ·refine aL (by simpa using hc) ?_;have:=hK _ h;have dz: ¬bB L:=fun hw=>(hw k av).2 hc
    rwa [decide_eq_false dz] at this
   ·refine aJ (by simpa using hc) ⟨L.length - (k+1),by omega,k+1,by rw [aI (by omega) (by omega)];omega,by omega,rfl,fun i hi Ig=>?_,h⟩;by_cases Et:i < k
    ·exact bz i hi Et
    ·obtain rfl:i=k:=by omega
     exact⟨hw,hc⟩
  ·refine aL (by simpa using hw) ?_;have:=hK _ h;have dz: ¬bB L:=fun h=>hw (h k av).1
   rwa [decide_eq_false dz] at this
 ·refine aJ (by simp;omega) ?_;have:=hK _ h;have tK:bB L:=fun i hi=>bz i hi (by omega)
  rwa [decide_eq_true tK] at this
abbrev KS:=ByteArray×Sl×List ByteArray
abbrev df (x:KS):List Value:= [.string x.1,.slice x.2.1.a x.2.1.len x.2.1.cap]
theorem bn (x:KS):(df x).length=2:=rfl
def tF (x:KS):aa:=aj x.2.1 9 1 sv x.2.2
def cY (xs:List (ByteArray×List ByteArray)):Prop:=(∀x∈xs,x.2.length<=4 /\ bB x.2) /\ 1<=xs.length /\ xs.length<=12 /\ bB (xs.map (·.1))
noncomputable instance (xs:List (ByteArray×List ByteArray)):Decidable (cY xs):=Classical.propDecidable _
def kinds (xs:List KS):List (ByteArray×List ByteArray):=xs.map fun x=>(x.1,x.2.2)
theorem B6 {xs:List KS} {k:Nat} {x:KS} (hx:xs[k]? =some x):Hp.Reads (ak (xs.map tF)) x.2.1 1 sv x.2.2:=⟨fun{w O} hO=>by
 obtain⟨O1,O2,g,_⟩:=dk (k:=k) (t:=tF x) (by rw [alc,hx];rfl) hO;exact⟨O1,cq.toR g⟩⟩
theorem Eu (h:Hp S w0 w ae) (j:Nat) {xs:List KS} {k:Nat} {x:KS} (hj:(ae[j]?).map aa.holds=some (ak (xs.map tF)).holds) (hx:xs[k]? =some x):x.2.1.len<=x.2.1.cap /\ x.2.2.length=x.2.1.len:=by
 obtain⟨O,hO⟩:=h.de hj;obtain⟨O1,O2,g,_⟩:=dk (k:=k) (t:=tF x) (by rw [alc,hx];rfl) hO;have g:cq w x.2.1 9 1 sv x.2.2 O1:=g;refine⟨?_,g.1⟩
 rcases g.2 with ⟨_,h1,h2,_⟩ | ⟨b,off,c,_,_,_,h3,_⟩
 ·omega
 ·exact h3
set_option maxHeartbeats 2000000 in
theorem Kk (h:Hp S w0 w ae) (i j:Nat) {s:Sl} {xs:List KS} (hi:(ae[i]?).map aa.holds=some (aj s 107 2 df xs).holds) (hj:(ae[j]?).map aa.holds=some (ak (xs.map tF)).holds) (hl:xs.length<=1000000000) (dL: ∀x∈xs,x.1.size<=1000000000000 /\ ∀y∈x.2.2,y.size<=1000000000000) {K:Bool->World->Prop}
  (hK: ∀w',Hp S w0 w' ae->K (decide (cY (kinds xs))) w'):c52 s w K:=by
 refine JF ?_;unfold f52;obtain⟨inf,q1,q2,q3,q4⟩:=xy;have fB:=h.len i hi;have hn: ∀{w},Hp S w0 w ae->Hp S w0 w (ae++ [aj ⟨none,0,0⟩ 9 1 sv ([]:List ByteArray)]):=fun h=>h.nil 9 1 sv;refine⟨fun names t m w'=> ∃k:Nat,t=k /\ k<=xs.length /\ m=xs.length - k /\ (∀q,(hq:q < xs.length)->q < k->(xs[q]).2.2.length<=4 /\ bB (xs[q]).2.2) /\ Hp S w0 w' (ae++ [aj names 9 1 sv ((xs.take k).map (·.1))]),⟨xs.length,0,rfl,by omega,rfl,fun q _ h=>by omega,by simpa using hn h⟩,?_⟩;clear h;rintro names t m w2 ⟨k,rfl,hk,rfl,bz,h⟩;have Wa: ∀{r:Nat} {t:aa} {more:List aa},(ae[r]?).map aa.holds=some t.holds->((ae++more)[r]?).map aa.holds=some t.holds:=fun{r t more} hr=>by
  have av:r < ae.length:=by
   rcases anA r ae.length with h | h
   ·exact h
   ·rw [alE h] at hr;cases hr
  rw [ak9 av];exact hr
 by_cases av:k < xs.length
 ·refine aL (by simp;omega) ?_;have hx:xs[k]? =some xs[k]:=by simp [av]
  have Pd:=dL xs[k] (alz av);have dU:xs.take (k+1)=xs.take k++ [xs[k]]:=alp av;have dF:xs[k]∈xs:=alz av;have uU: ∀q,(hq:q < xs.length)->q=k->((xs[k]).2.2.length<=4 /\ bB (xs[k]).2.2)->(xs[q]).2.2.length<=4 /\ bB (xs[q]).2.2:=fun q hq e h=>by subst e;exact h
  have eN:=Eu h j (Wa hj) hx;generalize xs[k]=x at hx Pd dU dF uU eN;have no: ¬(x.2.2.length<=4 /\ bB x.2.2)-> ¬cY (kinds xs):=fun dz hm=>dz (hm.1 (x.1,x.2.2) (alu.2 ⟨x,dF,rfl⟩));refine h.rf i (Wa hi) (by omega) (by rw [ak7];exact hx) bn fun a hc=>?_;refine dG (k:=.s) (x:=x.1) (hc 0 (by omega)) rfl ?_;refine jB (k:=.sl) (x:=x.2.1) (hc 1 (by omega)) rfl ?_;refine h.nw (c:= [_,_]) fun kb w3 h=>?_;have gk: ∀{c:List Value} {t:aa},((ae++ [t])++ [af kb 107 c])[ae.length+1]? =some (af kb 107 c):=fun{c t}=>by rw [ak8 (by simp)];simp
  have sk: ∀{c c':List Value} {t:aa},((ae++ [t])++ [af kb 107 c]).set (ae.length+1) (af kb 107 c')=(ae++ [t])++ [af kb 107 c']:=fun{c c' t}=>by rw [alj _ _ (by simp)];simp
  refine h.gz (ae.length+1) gk (by simp) rfl fun w4 h=>?_;rw [sk] at h;refine h.st (n:=1) (ae.length+1) gk (by simp) rfl fun w5 h=>?_;rw [sk] at h;have h:Hp S w0 w5 ((ae++ [aj names 9 1 sv ((xs.take k).map (·.1))])++ [af kb 107 [.string x.1,.slice x.2.1.a x.2.1.len x.2.1.cap]]):=h;refine⟨fun w'=>(x.2.2.length<=4 /\ bB x.2.2) /\ Hp S w0 w' ((ae++ [aj names 9 1 sv ((xs.take k).map (·.1))])++ [af kb 107 [.string x.1,.slice x.2.1.a x.2.1.len x.2.1.cap]]),?_,?_⟩
  ·refine h.ld (n:=1) (k:=.sl) (x:=x.2.1) (ae.length+1) (by rw [gk];rfl) rfl ?_;by_cases h4:x.2.1.len > 4
   ·refine aL (by simp;omega) ?_;have:=hK _ h.front.front
    rwa [decide_eq_false (no fun hh=>by omega)] at this
   refine aJ (by simp;omega) ?_;refine h.ld (n:=1) (k:=.sl) (x:=x.2.1) (ae.length+1) (by rw [gk];rfl) rfl ?_;refine ni h j (u:=ak (xs.map tF)) (by rw [ale];exact Wa hj) (B6 hx) (by omega) eN.1 Pd.2 fun w6 h=>?_;by_cases hw:bB x.2.2
   ·exact aJ (by simpa using hw) ⟨⟨by omega,hw⟩,h⟩
   ·refine aL (by simpa using hw) ?_;have:=hK _ h.front.front
    rwa [decide_eq_false (no fun hh=>hw hh.2)] at this
  clear h;rintro w6 ⟨oJ,h⟩;refine h.bE (k:=.s) (x:=x.1) (ae.length+1) (by rw [gk];rfl) rfl ?_;have gn: ∀{t:aa} {more:List aa},((ae++ [t])++more)[ae.length]? =some t:=fun{t more}=>by rw [ale,ak8 (alA _)];simp
  have lL:=h.len (s:=names) (e:=9) (n:=1) (f:=sv) (l:=(xs.take k).map (·.1)) ae.length (by rw [gn];rfl);rw [alr,alv] at lL;refine h.cj (c:= [_]) ae.length x.1 gn cW ql q1 q3 q2 rfl rfl (by simp [sv,Value.oneCell']) (by rw [q4];omega) (by omega) fun oD w7 h _ _=>?_;rw [ale,alj _ _ (alA _),alK] at h;have h:Hp S w0 w7 ((ae++ [aj oD 9 1 sv ((xs.take k).map (·.1)++ [x.1])])++ [af kb 107 [.string x.1,.slice x.2.1.a x.2.1.len x.2.1.cap]]):=by
   rw [ale];exact h
  refine⟨xs.length - (k+1),by omega,k+1,by rw [aI (by omega) (by omega)];omega,by omega,rfl,fun q hq Wb=>?_,?_⟩
  ·by_cases OT:q < k
   ·exact bz q hq OT
   ·exact uU q hq (by omega) oJ
  ·rw [dU,alW];exact h.front
 ·refine aJ (by simp;omega) ?_;rw [aln (by omega)] at h;have cO:(kinds xs).length=xs.length:=by simp [kinds]
  have yF:(kinds xs).map (·.1)=xs.map (·.1):=by simp [kinds]
  have gl:(ae++ [aj names 9 1 sv (xs.map (·.1))])[ae.length]? =some (aj names 9 1 sv (xs.map (·.1))):=by simp
  by_cases h1:1<=xs.length
  ·refine aL (by simp;omega) ?_;by_cases uV:xs.length<=12
   ·refine aL (by simp;omega) ?_;have eN:=h.cap ae.length (s:=names) (e:=9) (n:=1) (f:=sv) (l:=xs.map (·.1)) (by rw [gl];rfl);refine ni h ae.length (u:=aj names 9 1 sv (xs.map (·.1))) (by rw [gl];rfl) Hp.bZ (by simp;omega) eN (fun y hy=>by
     obtain⟨x,hx,rfl⟩:=alu.1 hy;exact(dL x hx).1) fun w3 h=>?_
    have:=hK _ h.front;have e:cY (kinds xs)↔bB (xs.map (·.1)):=by
     constructor
     ·intro hm;rw [<-yF];exact hm.2.2.2
     ·intro hw;refine⟨fun y hy=>?_,by omega,by omega,by rw [yF];exact hw⟩;obtain⟨x,hx,rfl⟩:=alu.1 hy;obtain⟨q,hq,rfl⟩:=amd.1 hx;exact bz q hq (by omega)
    have e2:decide (bB (xs.map (·.1)))=decide (cY (kinds xs)):=by
     by_cases hw:bB (xs.map (·.1))
     ·rw [decide_eq_true hw,decide_eq_true (e.2 hw)]
     ·rw [decide_eq_false hw,decide_eq_false (fun hm=>hw (e.1 hm))]
    rw [e2];exact this
   ·refine aJ (by simp;omega) ?_;have:=hK _ h.front
    rwa [decide_eq_false (fun hm=>uV (by have:=hm.2.2.1;omega))] at this
  ·refine aJ (by simp;omega) ?_;have:=hK _ h.front
   rwa [decide_eq_false (fun hm=>h1 (by have:=hm.2.1;omega))] at this
theorem cM {t u:aa}:(ae++ [t]).set ae.length u=ae++ [u]:=by
 rw [alj _ _ (alA _)];simp
theorem B7 (h:Hp S w0 w ae) (i:Nat) {s:Sl} {xs:List KS} (hi:ae[i]? =some (aj s 107 2 df xs)) (hl:xs.length<=1000000) {K:Sl->World->Prop} (hK: ∀r w',Hp S w0 w' (ae++ [aj r 107 2 df xs])->K r w'):Nb s w K:=by
 refine FD ?_;unfold f110;obtain⟨inf,q1,q2,q3,q4⟩:=zv;have av:=(ak6.1 hi).1;have fB:=h.len (s:=s) i (by rw [hi];rfl);by_cases hn:s.a.isNone=true
 ·refine aL hn (hK _ _ ?_);have:xs= []:=by
   obtain⟨O,hO⟩:=h.kY hi;exact(cq.toR hO).isNil (by simpa using hn)
  rw [this];exact h.nil 107 2 df
 ·refine aJ hn ?_;refine h.nw (c:= []) fun b w1 h=>?_;have h:=h.nI (i:=ae.length) (m:=0) (l:=([]:List KS)) (f:=df) (n:=2) alw rfl rfl bn;rw [cM] at h;refine h.gq ae.length i (s:=⟨some ⟨b,0,none⟩,0,0⟩) (s2:=s) alw (by rw [ak9 av];exact hi) Hp.bZ bn eM q1 q3 q2 rfl (by simp [df,Value.oneCell']) (by rw [q4];show (0+s.len)*40<=_;omega) (by show 0+s.len<=_;omega) fun r w2 h _ _=>?_;rw [cM] at h;exact hK r w2 h
theorem uW (h:Hp S w0 w ae) (i:Nat) {u:aa} {s:Sl} {L:List ByteArray} (hi:ae[i]? =some u) (hu:Hp.Reads u s 1 sv L) (hl:L.length<=1000000) {K:Sl->World->Prop} (hK: ∀r w',Hp S w0 w' (ae++ [aj r 9 1 sv L])->K r w'):Sa s w K:=by
 refine NY ?_;unfold f111;obtain⟨inf,q1,q2,q3,q4⟩:=xy;have av:=(ak6.1 hi).1;have fB:=h.dR i (by rw [hi];rfl) hu;by_cases hn:s.a.isNone=true
 ·refine aL hn (hK _ _ ?_);have:L= []:=by
   obtain⟨O,hO⟩:=h.kY hi;obtain⟨o,hR⟩:=hu.rd hO;exact hR.isNil (by simpa using hn)
  rw [this];exact h.nil 9 1 sv
 ·refine aJ hn ?_;refine h.nw (c:= []) fun b w1 h=>?_;have h:=h.nI (i:=ae.length) (m:=0) (l:=([]:List ByteArray)) (f:=sv) (n:=1) alw rfl rfl cW;rw [cM] at h;refine h.gq ae.length i (s:=⟨some ⟨b,0,none⟩,0,0⟩) (s2:=s) alw (by rw [ak9 av];exact hi) hu cW ql q1 q3 q2 rfl (by simp [sv,Value.oneCell']) (by rw [q4];show (0+s.len)*16<=_;omega) (by show 0+s.len<=_;omega) fun r w2 h _ _=>?_;rw [cM] at h;exact hK r w2 h
theorem zw (h:Hp S w0 w ae) {i j:Nat} (aW:i≠j) {ys:List KS} {y:KS} (hi:ae[i]? =some (ak (ys.map tF))) (hj:ae[j]? =some (tF y)):Hp S w0 w ((ae.set i (ak ((ys++ [y]).map tF))).set j ao):=
 h.join (c:=ak ((ys++ [y]).map tF)) aW hi hj (aM _) rfl (aM _) (fun w O1 O2 g1 g2 g3=>by
  rw [alW];exact fX g1 (us:= [tF y]) (O2:=O2) ⟨O2,[],g2,rfl,by simp,by simp⟩ g3)
theorem oK (h:Hp S w0 w ae) (i j:Nat) {s:Sl} {xs:List KS} (hi:ae[i]? =some (aj s 107 2 df xs)) (hj:ae[j]? =some (ak (xs.map tF))) (hl:xs.length<=1000) (hlf: ∀x∈xs,x.2.2.length<=1000) {K:Sl->World->Prop}
  (hK: ∀r ys w',kinds ys=kinds xs->Hp S w0 w' (ae++ [aj r 107 2 df ys,ak (ys.map tF)])->K r w'):V2 s w K:=by
 refine JH ?_;unfold f54;have gQ:=(ak6.1 hj).1;refine B7 h i hi (by omega) fun r w1 h=>?_;have h:=h.grow (Fr.refl _ _) (t:=ak (([]:List KS).map tF)) (O:= []) rfl (by simp) rfl;have eT:=h.len (s:=r) (e:=107) (n:=2) (f:=df) (l:=xs) ae.length (by simp);refine⟨fun t m w'=> ∃(k:Nat) (ys:List KS),t=k /\ k<=xs.length /\ m=xs.length - k /\ ys.length=k /\ kinds ys=(kinds xs).take k /\ Hp S w0 w' (ae++ [aj r 107 2 df (ys++xs.drop k),ak (ys.map tF)]),⟨xs.length,0,[],rfl,by omega,rfl,rfl,by simp [kinds],by simpa using h⟩,?_⟩;clear h;rintro t m w2 ⟨k,ys,rfl,hk,rfl,vA,yO,h⟩;have g0: ∀{a b:aa} {more:List aa},(ae++ [a,b]++more)[ae.length]? =some a:=fun{a b more}=>by rw [ale,ak8 (alA _)];simp
 have g0': ∀{a b:aa},(ae++ [a,b])[ae.length]? =some a:=fun{a b}=>by rw [ak8 (alA _)];simp
 have g1: ∀{a b c:aa},(ae++ [a,b]++ [c])[ae.length+1]? =some b:=fun{a b c}=>by rw [ale,ak8 (by omega)];simp
 have g2: ∀{a b c:aa},(ae++ [a,b]++ [c])[ae.length+2]? =some c:=fun{a b c}=>by rw [ale,ak8 (by omega)];simp
 by_cases av:k < xs.length
 ·refine aL (by simp;omega) ?_;have hx:xs[k]? =some xs[k]:=by simp [av]
  have ed:xs.drop k=xs[k] :: xs.drop (k+1):=al0 av;have hlx:=hlf xs[k] (alz av);have uX:(kinds xs).take (k+1)=(kinds xs).take k++ [(xs[k].1,xs[k].2.2)]:=by
   rw [alp (by simpa [kinds] using av)];simp [kinds]
  generalize xs[k]=x at hx ed hlx uX;have QK:(ys++xs.drop k)[((k:Nat):Int).toNat]? =some x:=by rw [ak7,ed,ak8 (by omega),vA,alK];rfl
  refine h.rf ae.length (by rw [g0'];rfl) (by omega) QK bn fun a hc=>?_;refine jB (k:=.sl) (x:=x.2.1) (hc 1 (by omega)) rfl ?_;refine uW h j (u:=ak (xs.map tF)) (by rw [ak9 gQ];exact hj) (B6 hx) (by omega) fun fs w3 h=>?_;refine h.zt ae.length (y:=x) (y':=(x.1,fs,x.2.2)) (m:=1) g0 (by omega) QK bn (by omega) rfl rfl fun w4 h=>?_;have e1:(ys++xs.drop k).set ((k:Nat):Int).toNat (x.1,fs,x.2.2)=ys++ [(x.1,fs,x.2.2)]++xs.drop (k+1):=by
   rw [ak7,ed,alj _ _ (by omega),vA,alK,alq];simp
  rw [e1,ale ae,alj _ _ (alA _),alK] at h;have h:Hp S w0 w4 (ae++ [aj r 107 2 df (ys++ [(x.1,fs,x.2.2)]++xs.drop (k+1)),ak (ys.map tF)]++ [tF (x.1,fs,x.2.2)]):=by rw [ale];exact h
  have h:=zw h (i:=ae.length+1) (j:=ae.length+2) (by omega) g1 g2;have e2:((ae++ [aj r 107 2 df (ys++ [(x.1,fs,x.2.2)]++xs.drop (k+1)),ak (ys.map tF)]++ [tF (x.1,fs,x.2.2)]).set (ae.length+1) (ak ((ys++ [(x.1,fs,x.2.2)]).map tF))).set (ae.length+2) ao=ae++ [aj r 107 2 df (ys++ [(x.1,fs,x.2.2)]++xs.drop (k+1)),ak ((ys++ [(x.1,fs,x.2.2)]).map tF)]++ [ao]:=by
   rw [ale,alj _ _ (by omega),alj _ _ (by omega)];simp
  rw [e2] at h;refine⟨xs.length - (k+1),by omega,k+1,ys++ [(x.1,fs,x.2.2)],by rw [aI (by omega) (by omega)];omega,by omega,rfl,by simp [vA],?_,h.front⟩;rw [uX,<-yO];simp [kinds]
 ·refine aJ (by simp;omega) ?_;rw [amb (by omega),alh] at h;refine hK r ys _ ?_ h;rw [yO,aln (by simp [kinds];omega)]
end
end Go.Proofs.YtcccjgmekakabaaGreat.FW
end
