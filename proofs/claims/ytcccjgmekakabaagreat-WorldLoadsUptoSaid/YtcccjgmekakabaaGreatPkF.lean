/-
  Part 6 of the proof:WorldLoads of layer 6 is true of the given program for every input that its guards let in (of bulk at most 1048576).
-/
import Derived.Test.YtcccjgmekakabaaGreatPkE
import Derived.Lib.SliceRun
import Derived.Laws.IdiomRangeMap
set_option linter.unusedSimpArgs false
set_option linter.unusedVariables false
set_option maxRecDepth 100000
section
namespace Go.Proofs.YtcccjgmekakabaaGreat.FP
open F
open Go Go.Den Go.Proofs
def Acc (bs:List Int) (aA:Int) (l:List Int):Prop:=0<=aA /\ (l.length:Int)<=aA /\ l.length<=100000 /\ dX l /\ ∃rest,bs=bS l++rest
def cT (bs:List Int) (aA:Int) (X:List Int) (size:Int):Prop:=
 (size=0->X= []) /\ (size≠0->Acc bs aA X /\ size=((bS X).length:Int)) /\ ∀l,Acc bs aA l->X=l /\ size=((bS l).length:Int)
theorem o8 (l:List Int): ∃f:Int,(f=0 \/ f=1 \/ f=2) /\ gO l=f :: bd f l:=by
 unfold gO
 have hs: ∀a b:List Int,dT a b=a \/ dT a b=b:=fun a b=>by unfold dT;split <;> simp
 rcases hs (dT (0 :: bd 0 l) (1 :: bd 1 l)) (2 :: bd 2 l) with h | h
 ·rcases hs (0 :: bd 0 l) (1 :: bd 1 l) with h2 | h2
  ·exact⟨0,.inl rfl,by rw [h,h2]⟩
  ·exact⟨1,.inr (.inl rfl),by rw [h,h2]⟩
 ·exact⟨2,.inr (.inr rfl),h⟩
theorem fS {n:Int} (h:0<=n):Bytes (aV n):=xu 10 n h
theorem Ch (n:Int):0<=eI n:=by unfold eI;split <;> omega
theorem nX {a b:List Int} (ha:Bytes a) (hb:Bytes b):Bytes (a++b):=fun x hx=>(afB.1 hx).elim (ha x) (hb x)
theorem u0 (l:List Int):Bytes (bI l):=by
 intro x hx
 obtain⟨y,_,hy⟩:=ag0.1 hx
 exact fS (Ch y) x hy
theorem u5: ∀(last:Int) (l:List Int),Bytes (iB last l)
 | _,[]=>by intro x hx;cases hx
 | last,x :: r=>nX (fS (Ch _)) (u5 x r)
theorem Ci (l:List Int):Bytes (yE l):=by
 refine nX (fS (by omega)) ?_
 intro x hx
 obtain⟨y,hm,hy⟩:=ag0.1 hx
 have:=(jK none l y hm).1
 exact nX (fS (by omega)) (fS (Ch _)) x hy
theorem Aq (f:Int) (l:List Int):Bytes (bd f l):=by
 unfold bd
 split
 ·exact u0 l
 ·split
  ·exact u5 0 l
  ·exact Ci l
theorem nh (l:List Int):Bytes (gO l):=by
 obtain⟨f,hf,e⟩:=o8 l
 rw [e]
 intro x hx
 rcases af1.1 hx with rfl | hx
 ·omega
 ·exact Aq f l x hx
theorem o9 (l:List Int):Bytes (bS l):=by
 unfold bS
 refine nX (fS (by omega)) ?_
 split
 ·intro x hx;cases hx
 ·exact nh l
theorem Acc.head {bs:List Int} {aA:Int} {l:List Int} (h:Acc bs aA l):ax bs=((l.length:Int),((aV l.length).length:Int)) /\ ∃rest,bs=bS l++rest /\ bs.drop (aV (l.length:Int)).length=(if l= [] then [] else gO l)++rest:=by
 obtain⟨_,_,h1,_,rest,rfl⟩:=h
 have e:bS l++rest=aV (l.length:Int)++((if l= [] then [] else gO l)++rest):=by unfold bS;rw [afA]
 exact⟨by rw [e];exact iC (by omega) (by omega) _,rest,rfl,by rw [e,ahJ]⟩
theorem Cj {bs:List Int} {aA:Int} (h: ∀l,¬Acc bs aA l):cT bs aA [] 0:=
 ⟨fun _=>rfl,fun h=>(h rfl).elim,fun l hl=>absurd hl (h l)⟩
theorem Ar (l:List Int):1<=(bS l).length:=by
 have:=cM l.length
 unfold bS;rw [afw];omega
section
variable {S:List Nat} {w0 w:World} {ae:List aa}
theorem YZ {aA:Int} (h:0<=aA):IntKind.u64.wrap (if 100000 < aA then 100000 else aA)=(if 100000 < aA then 100000 else aA):=by
 rw [kH];split <;> omega
set_option maxHeartbeats 2000000 in
theorem As (h:Hp S w0 w ae) (j:Nat) {u:aa} {b:Sl} {bs:List Int} {aA:Int} (hj:(ae[j]?).map aa.holds=some u.holds) (hu:Hp.Reads u b 1 eC bs) (hb:Bytes bs) (hl:bs.length<=9000000000000000) (dF:b.len<=b.cap) {K:Sl->Int->World->Prop}
  (hK: ∀s X size w',cT bs aA X size->Hp S w0 w' (ae++ [aj s 2 1 iv X])->K s size w'):NB b aA w K:=by
 refine J5 ?_
 unfold f120
 have qB:=h.df j hj hu
 have h1:=h.IY hj
 have pn:Hp.Reads u.ro b 1 eC bs:=⟨hu.rd⟩
 obtain⟨r0,r1,r2,r3,r4,r5⟩:=bz hb
 have none_:(∀l,¬Acc bs aA l)-> ∀{w':World},Fr [] w w'->K ⟨none,0,0⟩ 0 w':=fun hn w' hf=>hK _ _ _ _ (Cj hn) ((h.cB hf).nil 2 1 iv)
 refine h1.nw (c:= [_,_]) fun r w1 h1=>?_
 refine iE (S:= []) (w0:=w) (R:= []) h1 pn hb hl dF fun s2 w2 yX jE h1=>?_
 have ff:(cond false true ((ax bs).2 ==0))=((ax bs).2 ==0):=rfl
 rw [ff] at h1
 refine⟨fun w'=>w'=w2 /\ (ax bs).2≠0 /\ 0<=aA /\ (ax bs).1<=(if 100000 < aA then 100000 else aA),?_,?_⟩
 ·refine h1.ld (k:=.b) (x:=((ax bs).2 ==0)) 1 rfl rfl ?_
  by_cases hz:(ax bs).2=0
  ·refine aE (by simpa using hz) (none_ ?_ h1.fr)
   intro l cW
   have:=cW.head.1
   rw [this] at hz
   have:=cM l.length
   dsimp only at hz
   omega
  refine aF (by simpa using hz) ?_
  by_cases hm:aA < 0
  ·refine aE (by simpa using hm) (none_ ?_ h1.fr)
   intro l cW
   have:=cW.1
   omega
  refine aF (by simpa using hm) ?_
  rw [YZ (by omega)]
  by_cases hn:(ax bs).1 >(if 100000 < aA then 100000 else aA)
  ·refine aE (by simpa using hn) (none_ ?_ h1.fr)
   intro l cW
   have h2:=cW.head.1
   rw [h2] at hn
   obtain⟨_,a1,a2,_⟩:=cW
   dsimp only at hn
   split at hn <;> omega
  ·exact aF (by simpa using hn) ⟨rfl,hz,by omega,by omega⟩
 rintro w3 ⟨rfl,hz,hm,hn⟩
 have Rh:(ax bs).1<=aA /\ (ax bs).1<=100000:=by split at hn <;> omega
 have ni:=k8 hb hz
 by_cases xz:(ax bs).1=0
 ·refine aE (by simpa using xz) ?_
  rw [xz] at ni
  have e0:aV 0= [0]:=by decide
  rw [e0] at ni
  refine hK _ [] 1 _ ⟨fun h=>by omega,fun _=>⟨⟨hm,by simpa using hm,by simp,(by intro x hx;cases hx),bs.drop (ax bs).2.toNat,?_⟩,?_⟩,?_⟩ ((h.cB h1.fr).nil 2 1 iv)
  ·have e1:bS []= [0]:=by decide
   rw [e1,ni,agp]
  ·decide
  ·intro l cW
   have h2:=cW.head.1
   rw [h2] at xz
   have:l= []:=af7 (by dsimp only at xz;omega)
   subst this
   exact⟨rfl,by decide⟩
 refine aF (by simpa using xz) ?_
 have uZ:(bs.drop (ax bs).2.toNat).length=bs.length - (ax bs).2.toNat:=af4
 have EA:=h1.df 0 rfl yX
 -- whoever is accepted stands behind the head
 have EB: ∀l,Acc bs aA l->(l.length:Int)=(ax bs).1 /\ l≠ [] /\ ∃rest,bs=bS l++rest /\ bs.drop (ax bs).2.toNat=gO l++rest:=by
  intro l cW
  obtain⟨g1,rest,g2,g3⟩:=cW.head
  have oM:l≠ []:=by
   rintro rfl
   rw [g1] at xz
   exact xz rfl
  rw [if_neg oM] at g3
  refine⟨by rw [g1],oM,rest,g2,?_⟩
  rw [g1]
  exact g3
 refine h1.cx (k:=.sl) (x:=s2) 1 rfl rfl ?_
 by_cases he:s2.len=0
 ·refine aE (by simpa using he) (none_ ?_ h1.fr)
  intro l cW
  obtain⟨_,_,rest,_,g⟩:=EB l cW
  have hp:=xx l
  have:=congrArg List.length g
  simp only [afw] at this
  omega
 refine aF (by simpa using he) ?_
 refine h1.cx (k:=.sl) (x:=s2) 1 rfl rfl ?_
 obtain⟨form,cur,rq⟩: ∃form cur,bs.drop (ax bs).2.toNat=form :: cur:=by
  cases hc:bs.drop (ax bs).2.toNat with
  | nil=>rw [hc] at EA;simp at EA;omega
  | cons x y=>exact⟨x,y,rfl⟩
 rw [rq] at yX EA
 simp only [af6] at EA
 have yW:Bytes (form :: cur):=by rw [<-rq];exact lV hb _
 have hf:=yW form (by simp)
 refine h1.dd (k:=.i .u8) (u:=u.ro) (y:=form) (x:=form) 0 rfl yX (by omega) rfl bx rfl ?_
 refine h1.cx (k:=.sl) (x:=s2) 1 rfl rfl ?_
 refine Hp.jT (s:=s2) yX (by simp;omega) bx (by omega) (by omega) (by omega) (agr _) (by omega) fun s3 I1 VH VG=>?_
 have e3:(((form :: cur).take ((s2.len:Int)).toNat).drop (1:Int).toNat)=cur:=by
  rw [afE (by simp;omega)];rfl
 rw [e3] at I1
 refine h1.iR 1 rfl (by simp) rfl fun w4 h1=>?_
 simp only [afN,afZ] at h1
 have xp:((ax bs).2 ==0)=false:=by simpa using hz
 rw [xp] at h1
 have qA:cur.length<=bs.length:=by
  have:=congrArg List.length rq
  simp only [af6] at this
  omega
 refine Ez h1 I1 (fun x hx=>yW x (by simp [hx])) (by omega) (by omega) hf.1 (by omega) (by omega) fun out s' X g8 o6 w5 Sf MY qg hX HG yV wA h1=>?_
 refine h1.cx (k:=.sl) (x:=s') 1 rfl rfl ?_
 refine h1.dr fun w6 h1=>?_
 refine h1.ld (k:=.b) (x:=o6) 1 rfl rfl ?_
 have kA:=h1.len (s:=out) 2 rfl
 have acW:=h1.df 0 rfl Sf
 -- what a canonical text was read as
 have At: ∀l,Acc bs aA l->X=l /\ o6=false /\ bs=bS l++g8:=by
  intro l cW
  obtain⟨g0,g1,rest,g2,g3⟩:=EB l cW
  obtain⟨f,wK,VI⟩:=o8 l
  rw [rq,VI] at g3
  injection g3 with g4 g5
  subst g4
  obtain⟨e1,e2,e3⟩:=wA wK l rest g5 g0 cW.2.2.2.1
  exact⟨e1,e3,by rw [g2,e2]⟩
 cases iV:o6 with
 | true=>
  refine aE rfl (none_ ?_ h1.fr)
  intro l cW
  obtain⟨_,g,_⟩:=At l cW
  rw [iV] at g;cases g
 | false=>
 refine aF (by simp) ?_
 have ewo:IntKind.u64.wrap (out.len:Int)=(X.length:Int):=by rw [kH];omega
 rw [ewo]
 by_cases Mv:(X.length:Int)=(ax bs).1
 ·refine aF (by simpa using Mv) ?_
  obtain⟨p,hp⟩:=qg
  have TH:=congrArg List.length rq
  simp only [af6] at TH
  have acY:cur.length=p.length+g8.length:=by rw [hp];simp
  have ews:IntKind.i64.wrap ((b.len:Int) - (s'.len:Int))=(bs.length:Int) - g8.length:=by rw [aB (by omega) (by omega)];omega
  rw [ews]
  refine Hp.jT (s:=b) pn (by omega) bx (by omega) (by omega) (by omega) (agr _) (by omega) fun s4 A9 _ _=>?_
  have wC:(bs.take ((bs.length:Int) - g8.length).toNat).drop (0:Int).toNat=bs.take (bs.length - g8.length):=by
   rw [show ((bs.length:Int) - g8.length).toNat=bs.length - g8.length by omega];rfl
  rw [wC] at A9
  have Qy:bs=bs.take (bs.length - g8.length)++g8:=by
   have e1:bs=bs.take (ax bs).2.toNat++(form :: (p++g8)):=by rw [<-hp,<-rq,agp]
   have e2:bs.drop (bs.length - g8.length)=g8:=by
    conv=>lhs;rw [e1]
    rw [show bs.take (ax bs).2.toNat++(form :: (p++g8))=(bs.take (ax bs).2.toNat++(form :: p))++g8 by simp]
    rw [afw,Nat.add_sub_cancel,ahJ]
   conv=>lhs;rw [<-agp (bs.length - g8.length) bs]
   rw [e2]
  have yx:Bytes (bs.take (bs.length - g8.length)):=uV hb _
  refine h1.Ef 0 (u:=u.ro) rfl A9 _ (fN yx) ?_
  refine Ao h1 2 rfl Hp.bX hX (by omega) fun r2 w7 h1=>⟨h1.bat 0 (u:=u.ro) rfl A9 _ (fN yx),?_⟩
  have hrb:=o9 X
  refine h1.Ef 3 rfl Hp.bX _ (fN hrb) ?_
  rw [yy,fN hrb,fN yx]
  by_cases heq:bS X=bs.take (bs.length - g8.length)
  ·refine aF (by simpa using heq) ?_
   have hlen:((bs.length:Int) - g8.length)=((bS X).length:Int):=by
    rw [heq,afM];omega
   rw [hlen]
   have kx:=Ar X
   refine hK out X _ w7 ⟨fun h=>by omega,fun _=>⟨⟨hm,by omega,by omega,hX,g8,by rw [heq];exact Qy⟩,rfl⟩,?_⟩ (h.r0 rfl (h1.oV 2 rfl))
   intro l cW
   obtain⟨g,_,_⟩:=At l cW
   rw [g];exact⟨rfl,rfl⟩
  ·refine aE (by simpa using heq) (none_ ?_ h1.fr)
   intro l cW
   obtain⟨g,_,g2⟩:=At l cW
   apply heq
   rw [g]
   conv=>rhs;rw [g2]
   simp
 ·refine aE (by simpa using Mv) (none_ ?_ h1.fr)
  intro l cW
  obtain⟨g,_,_⟩:=At l cW
  have:=(EB l cW).1
  rw [g] at Mv
  exact Mv this
end
end Go.Proofs.YtcccjgmekakabaaGreat.FP
end

section
namespace Go.Den
open Go
def gD {X α:Type} (e:TypeId) (n:Nat) (cells:X->List Value) (sub:X->aa) (vis:X->α) (s:Sl) (l:List α):aa:=
 KK fun xs:List X=>kz (xs.map vis=l) (aX (aj s e n cells xs) (an (xs.map sub)))
namespace Hp
section
variable {S:List Nat} {w0 w:World} {ae:List aa}
theorem HJ {A B C:List aa} (h:Hp S w0 w (A++B++C)):Hp S w0 w (B++A++C):=by
 obtain⟨f,hf⟩: ∃f:Nat->Nat,f=fun n=>if n < B.length then A.length+n else if n < A.length+B.length then n - B.length else n:=⟨_,rfl⟩
 have Lo: ∀x y,f x=f y->x=y:=by
  intro x y
  rw [hf]
  dsimp only
  repeat' split
  all_goals omega
 refine h.GB ((List.range (A.length+B.length+C.length)).map f) ?_ (by simp;omega) fun n j hn=>?_
 ·rw [agE,ahV]
  exact ahX (fun{a b} aR he=>aR (Lo a b he)) (agE.1 aii)
 ·rw [afC] at hn
  obtain⟨m,hm,rfl⟩:=af2.1 hn
  have Fh:=(aft.1 hm).1
  rw [agV (by simpa using Fh)] at hm
  obtain rfl:=afK hm
  rw [hf]
  dsimp only
  simp only [aht] at Fh
  by_cases h1:n < B.length
  ·rw [if_pos h1,afx (by simp;omega),afv (by omega),afx (by simp;omega),afx h1]
   congr 1;omega
  ·rw [if_neg h1]
   by_cases h2:n < A.length+B.length
   ·rw [if_pos h2,afx (by simp;omega),afx (by omega),afx (by simp;omega),afv (by omega)]
   ·rw [if_neg h2,afv (by simp;omega),afv (by simp;omega)]
    congr 1;simp;omega
theorem up {A B:List aa} {t:aa} (h:Hp S w0 w (A++B++ [t])):Hp S w0 w (A++t :: B):=by
 have h:Hp S w0 w (A++B++ [t]++ []):=by rw [afH];exact h
 rw [afA A] at h
 have h:=h.HJ (A:=A) (B:=B++ [t]) (C:= [])
 rw [afH] at h
 have h:=h.HJ (A:=B) (B:= [t]) (C:=A)
 have h:Hp S w0 w (([t]++B)++A++ []):=by rw [afH];exact h
 have h:=h.HJ (A:= [t]++B) (B:=A) (C:= [])
 rw [afH] at h
 exact h
theorem Li {A B C D:List aa} (h:Hp S w0 w (A++B++C++D)):Hp S w0 w (A++C++B++D):=by
 have h:Hp S w0 w (A++(B++C)++D):=by simpa using h
 have h:=h.HJ
 have h:Hp S w0 w (B++C++(A++D)):=by simpa using h
 have h:=h.HJ
 have h:Hp S w0 w ((C++B)++A++D):=by simpa using h
 have h:=h.HJ
 simpa using h
theorem comm {A B:List aa} (h:Hp S w0 w (A++B)):Hp S w0 w (B++A):=by
 have h:Hp S w0 w (A++B++ []):=by rw [afH];exact h
 have:=h.HJ
 rwa [afH] at this
theorem EC (h:Hp S w0 w ae):Hp S w0 w (ao :: ae):=
 (h.grow (Fr.refl _ _) (t:=ao) (O:= []) rfl (by simp) rfl).comm
theorem dY {A B C:List aa} (h:Hp S w0 w (A++B++C)):Hp S w0 w (A++C):=by
 have h:=h.HJ
 rw [afA] at h
 exact h.comm.front
theorem down {A B:List aa} {t:aa} (h:Hp S w0 w (A++t :: B)):Hp S w0 w (A++B++ [t]):=by
 have h:Hp S w0 w (A++ [t]++B):=by simpa using h
 have h:=h.HJ
 rw [afA] at h
 exact h.comm
theorem ru {α:Type} {l:List α} {i:Nat} {x:α} (h:l[i]? =some x):l.set i x=l:=by
 apply agd
 intro j
 rw [agm]
 split
 ·rename_i hj
  subst hj
  rw [if_pos (aft.1 h).1,h]
 ·rfl
theorem Mw {A B C:List aa} (h:Hp S w0 w (A++B++C)):Hp S w0 w (A++C++B):=by
 have h:Hp S w0 w (A++B++C++ []):=by rw [afH];exact h
 have h:=h.Li
 rwa [afH] at h
theorem HK {α:Type} {f:α->List Value} {n m:Nat} {e:TypeId} {c:List Value} (h:Hp S w0 w ae) {l:List α} (hc:c=l.flatMap f) (hm:l.length=m) (hf: ∀x,(f x).length=n) {K:Addr->World->Prop}
  (hK: ∀b w',Hp S w0 w' (ae++ [aj ⟨some ⟨b,0,none⟩,m,m⟩ e n f l])->K ⟨b,0,none⟩ w'):Nw (.cells c.toArray e) w K:=by
 refine h.nw fun b w' h=>?_
 have h:=h.sr (i:=ae.length) (m:=m) (l:=l) (f:=f) (n:=n) afU hc hm hf
 rw [afI _ _ (afV _),af9,afN] at h
 exact hK b w' h
theorem HL: ∀(ts:List aa) {A:List aa},owns ts=true->Hp S w0 w (A++ts)->Hp S w0 w (A++ [an ts])
 | [],A,_,h=>by
  rw [afH] at h
  exact h.grow (Fr.refl _ _) (t:=ao) (O:= []) rfl (by simp) rfl
 | t :: ts,A,ho,h=>by
  have Tk:t.own=true /\ owns ts=true:=by simpa [owns] using ho
  have h:Hp S w0 w ((A++ [t])++ts):=by simpa using h
  have h:=HL ts Tk.2 h
  have h:Hp S w0 w (A++ [t,an ts]):=by simpa using h
  have h:=h.aL (i:=A.length) (j:=A.length+1) (a:=t) (b:=an ts) (by omega) (by simp) (by rw [afv (by omega)];simp) Tk.1 (aK _)
  rw [afI _ _ (afV _),afI _ _ (by omega)] at h
  have h:Hp S w0 w (A++ [aX t (an ts)]++ [ao]):=by simpa using h
  exact h.front
section
variable {X α:Type} {e:TypeId} {n:Nat} {cells:X->List Value} {sub:X->aa} {vis:X->α} {s:Sl} {l:List α}
theorem dy (h:Hp S w0 w ae) {i:Nat} (hi:ae[i]? =some (gD e n cells sub vis s l)): ∃xs:List X,xs.map vis=l /\ Hp S w0 w (ae.set i (aj s e n cells xs)++ [an (xs.map sub)]):=by
 have hl:=(aft.1 hi).1
 obtain⟨xs,h⟩:=h.oX hi (fun _=>rfl)
 obtain⟨hx,h⟩:=h.nO (i:=i) (by rw [afX hl]) rfl
 rw [agz] at h
 have h:=h.split (i:=i) (by rw [afX hl]) rfl (aK _)
 rw [agz] at h
 exact⟨xs,hx,h⟩
theorem dE (h:Hp S w0 w ae) {i j:Nat} (aR:i≠j) {xs:List X} (hi:ae[i]? =some (aj s e n cells xs)) (hj:ae[j]? =some (an (xs.map sub))) (hx:xs.map vis=l):
  Hp S w0 w ((ae.set i (gD e n cells sub vis s l)).set j ao):=by
 have hl:=(aft.1 hi).1
 have h:=h.aL aR hi hj rfl (aK _)
 have h:=h.jA (i:=i) hx (by rw [afY (fun e=>aR e.symm),afX hl]) rfl
 have e1:((ae.set i (aX (aj s e n cells xs) (an (xs.map sub)))).set j ao).set i (kz (xs.map vis=l) (aX (aj s e n cells xs) (an (xs.map sub))))=(ae.set i (kz (xs.map vis=l) (aX (aj s e n cells xs) (an (xs.map sub))))).set j ao:=by
  rw [aie _ _ (fun e=>aR e.symm),agz]
 rw [e1] at h
 have h:=h.mg (i:=i) (f:=fun xs:List X=>kz (xs.map vis=l) (aX (aj s e n cells xs) (an (xs.map sub)))) xs (by rw [afY (fun e=>aR e.symm),afX hl]) rfl
 rw [aie _ _ (fun e=>aR e.symm),agz] at h
 exact h
theorem gE (h:Hp S w0 w ae) (e:TypeId) (n:Nat) (cells:X->List Value) (sub:X->aa) (vis:X->α):Hp S w0 w (ae++ [gD e n cells sub vis ⟨none,0,0⟩ []]):=
 h.grow (Fr.refl _ _) (O:= []) ⟨[],rfl,[],[],cA.nil,rfl,by simp,by simp⟩ (by simp) rfl
theorem gF (h:Hp S w0 w ae) (i:Nat) (hi:(ae[i]?).map aa.holds=some (gD e n cells sub vis s l).holds):l.length=s.len /\ s.len<=s.cap:=by
 obtain⟨O,xs,hx,O1,O2,h1,_⟩:=h.dQ hi
 refine⟨by rw [<-hx,afP];exact h1.1,?_⟩
 rcases h1.2 with ⟨_,a,b,_⟩ | ⟨b,off,c,_,_,_,a,_⟩
 ·omega
 ·exact a
theorem xA {A:List aa} {xs:List X} (ho:owns (xs.map sub)=true) (h:Hp S w0 w (A++(aj s e n cells xs :: xs.map sub))):Hp S w0 w (A++ [gD e n cells sub vis s (xs.map vis)]):=by
 have h:Hp S w0 w ((A++ [aj s e n cells xs])++xs.map sub):=by simpa using h
 have h:=HL _ ho h
 have h:Hp S w0 w (A++ [aj s e n cells xs,an (xs.map sub)]):=by simpa using h
 have h:=h.dE (i:=A.length) (j:=A.length+1) (e:=e) (n:=n) (cells:=cells) (sub:=sub) (vis:=vis) (s:=s) (xs:=xs) (l:=xs.map vis) (by omega) (by simp) (by rw [afv (by omega)];simp) rfl
 rw [afI _ _ (afV _),afI _ _ (by omega)] at h
 have h:Hp S w0 w (A++ [gD e n cells sub vis s (xs.map vis)]++ [ao]):=by simpa using h
 exact h.front
theorem jL (h:Hp S w0 w ae) (i j:Nat) (aR:i≠j) (x:X) {P:Program} {t ty e':TypeId} {inf:TypeInfo} {z:Value} {c':Nat} {c:List Value} {K:Sl->World->Prop} (hi:ae[i]? =some (gD e n cells sub vis s l)) (hj:ae[j]? =some (sub x)) (ho:(sub x).own=true) (hf: ∀x,(cells x).length=n)
  (ht:P.underlying t=some (.slice e)) (ic:P.info? e=some inf) (dw:inf.size=n) (hz:inf.zero=some z) (yU:z.cells.size=n) (hc:c=cells x) (h1: ∀u∈cells x,u.oneCell'=true)
  (hb:(s.len+1)*inf.bytes<=140737488355328) (hn:s.len+1<=140737488355328)
  (hK: ∀s' w',Hp S w0 w' ((ae.set i (gD e n cells sub vis s' (l++ [vis x]))).set j ao)->s'.len=s.len+1->K s' w'):
  Nw (.cells c.toArray e') w fun b w=>bZ .sl P (Builtin.append_ #[t,t] ty #[.slice s.a s.len s.cap,.slice (some b) 1 c']) w K:=by
 have ky:=(aft.1 hi).1
 have gN:=(aft.1 hj).1
 obtain⟨xs,hx,h⟩:=h.dy hi
 refine h.bL i x (by rw [afx (by simpa using ky),afX ky]) hf ht ic dw hz yU hc h1 hb hn fun s' w' h h2 _=>hK s' w' ?_ h2
 have e1:(ae.set i (aj s e n cells xs)++ [an (xs.map sub)]).set i (aj s' e n cells (xs++ [x]))=ae.set i (aj s' e n cells (xs++ [x]))++ [an (xs.map sub)]:=by
  rw [agx _ _ (by simpa using ky),agz]
 rw [e1] at h
 have gA:(ae.set i (aj s' e n cells (xs++ [x]))++ [an (xs.map sub)])[ae.length]? =some (an (xs.map sub)):=by
  rw [afv (by simp)];simp
 have h:=h.join (i:=ae.length) (j:=j) (a:=an (xs.map sub)) (b:=sub x) (c:=an ((xs++ [x]).map sub)) (by omega) gA (by rw [afx (by simpa using gN),afY aR];exact hj) (aK _) ho (aK _) (fun w O1 O2 g1 g2 g3=>by
  rw [agh]
  exact iy g1 (us:= [sub x]) (O2:=O2) ⟨O2,[],g2,rfl,by simp,by simp⟩ g3)
 have e2:((ae.set i (aj s' e n cells (xs++ [x]))++ [an (xs.map sub)]).set ae.length (an ((xs++ [x]).map sub))).set j ao=(ae.set i (aj s' e n cells (xs++ [x]))).set j ao++ [an ((xs++ [x]).map sub)]:=by
  rw [afI _ _ (by simp),agi,af9,agx _ _ (by simpa using gN)];rfl
 rw [e2] at h
 have h:=h.dE (i:=i) (j:=ae.length) (s:=s') (xs:=xs++ [x]) (e:=e) (n:=n) (cells:=cells) (sub:=sub) (vis:=vis) (l:=l++ [vis x]) (by omega)
  (by rw [afx (by simpa using ky),afY (fun e=>aR e.symm),afX ky]) (by rw [afv (by simp)];simp) (by rw [agh,hx];rfl)
 have e3:(((ae.set i (aj s' e n cells (xs++ [x]))).set j ao++ [an ((xs++ [x]).map sub)]).set i (gD e n cells sub vis s' (l++ [vis x]))).set ae.length ao=(ae.set i (gD e n cells sub vis s' (l++ [vis x]))).set j ao++ [ao]:=by
  rw [agx _ _ (by simpa using ky),aie _ _ (fun e=>aR e.symm),agz,afI _ _ (by simp)]
  simp
 rw [e3] at h
 exact h.front
end
end
end Hp
end Go.Den
end

section
namespace Go.Proofs.YtcccjgmekakabaaGreat.FW
open F
open Go Go.Den Go.Proofs
open FI (af ay)
open FT (az di bM cc dz gm bD iv)
structure WA where
 ks:KD
 au:af
 row:bM->Option PL
structure WA.Ok (a:WA):Prop where
 Ck:a.au.Hl
 aA:a.au.aA=200
 may:cC a.ks
 Dq: ∀e:bM,(a.row e).isSome=a.au.is e.1 e.2
 RB: ∀(e:bM) (p:PL),a.row e=some p->FP.dX (flat p)
def WA.m (a:WA):WM:=⟨a.ks,a.au,fun e=>(a.row e).map aG,[]⟩
def WH.cD (q:WH):List (Int×az):=q.T.map fun x=>(x.1,x.2.2)
def tW (b:Nat) (a:WA):aa:=KK fun T:List (Int×az)=>kz (a.Ok /\ eD a.ks a.row a.m.aJ T) (jH b ⟨a.ks,a.au,a.m.aJ,T⟩)
theorem WA.Ok.u6 {a:WA} (h:a.Ok):a.au.Ok:=h.Ck.toOk
theorem WA.Ok.len {a:WA} (h:a.Ok):1<=a.ks.length /\ a.ks.length<=12:=⟨h.may.2.1,h.may.2.2.1⟩
theorem WA.Ok.four {a:WA} (h:a.Ok): ∀x∈a.ks,x.2.length<=4:=fun x hx=>(h.may.1 x hx).1
theorem u7 {m:af} (hm:m.Ok) {L:List bM} (bE:L.Nodup) (h: ∀x∈L,m.is x.1 x.2=true):L.length<=200:=by
 have uR: ∀x∈L,0<=x.1 /\ x.1 < m.ah.length /\ m.gen x.1=x.2:=fun x hx=>by
  obtain⟨h1,h2⟩:=af.jG.1 (h x hx)
  have:=FI.ji hm h1
  exact⟨this.1,this.2,h2⟩
 have:=Ac m.ah.length (L.map fun x=>x.1.toNat) (by
  rw [agE,ahV]
  refine List.Pairwise.imp_of_mem (fun{a b} ha hb aR he=>aR ?_) (agE.1 bE)
  have h1:=uR a ha
  have h2:=uR b hb
  have:a.1=b.1:=by omega
  exact ahg this (by rw [<-h1.2.2,<-h2.2.2,this])) (fun x hx=>by
  obtain⟨y,hy,rfl⟩:=afQ.1 hx
  have:=uR y hy
  omega)
 rw [afP] at this
 have:=hm.fe
 omega
section
variable {S:List Nat} {w0 w:World} {ae:List aa}
theorem kC {b:Nat} {a:WA} {rest:List aa} (h:Hp S w0 w (tW b a :: rest)):
  ∃q:WH,a.Ok /\ eD a.ks a.row a.m.aJ q.cD /\ kinds q.xs=a.ks /\ Hp S w0 w (q.all b a.m ao++rest):=by
 obtain⟨T,h⟩:=h.oX (i:=0) rfl (fun _=>rfl)
 obtain⟨⟨bK,ht⟩,h⟩:=h.nO (i:=0) rfl rfl
 obtain⟨q,hq,h⟩:=Ql h (i:=0) rfl
 refine⟨q,bK,?_,hq.1,?_⟩
 ·have:q.cD=T:=hq.2
  rw [this];exact ht
 have h:Hp S w0 w ((q.v7 b :: rest)++q.rest ⟨a.ks,a.au,a.m.aJ,T⟩):=h
 have h:=h.comm
 have h:Hp S w0 w (q.rest ⟨a.ks,a.au,a.m.aJ,T⟩++ [q.v7 b]++rest):=by rw [afA];exact h
 have h:=h.HJ.EC
 have h:Hp S w0 w ([ao]++ [q.v7 b]++(q.rest ⟨a.ks,a.au,a.m.aJ,T⟩++rest)):=by
  simp only [af3,aga,afA] at h ⊢
  exact h
 exact h.HJ
theorem jM {b:Nat} {a:WA} {m:WM} {q:WH} {u:aa} {rest:List aa} (bK:a.Ok) (ht:eD a.ks a.row a.m.aJ q.cD) (hk:kinds q.xs=a.ks) (hp:m.au=a.au) (hs:m.aJ=a.m.aJ) (h:Hp S w0 w (q.all b m u++rest)):Hp S w0 w (tW b a :: rest):=by
 have h:Hp S w0 w (q.v7 b :: u :: (q.rest m++rest)):=h
 have h:=h.fc
 have e:q.rest m=q.rest ⟨a.ks,a.au,a.m.aJ,q.cD⟩:=by
  unfold WH.rest
  rw [hp,hs]
 rw [e] at h
 have h:=Lj (m:=⟨a.ks,a.au,a.m.aJ,q.cD⟩) ⟨hk,rfl⟩ h
 have h:=h.jA (i:=0) (p:=a.Ok /\ eD a.ks a.row a.m.aJ q.cD) ⟨bK,ht⟩ rfl rfl
 exact h.mg (i:=0) (f:=fun T:List (Int×az)=>kz (a.Ok /\ eD a.ks a.row a.m.aJ T) (jH b ⟨a.ks,a.au,a.m.aJ,T⟩)) q.cD rfl rfl
theorem TI (h:Hp S w0 w ae) (i:Nat) {b:Nat} {a:WA} (hi:(ae[i]?).map aa.holds=some (tW b a).holds):a.Ok /\ ∀e p,a.row e=some p->p.fit a.ks:=by
 obtain⟨O,T,hx,_⟩:=h.dQ hi
 exact⟨hx.1,hx.2.fit⟩
theorem Ds {b:Nat} {m:WM} {q:WH} {u:aa} {more:List aa} (h:Hp S w0 w (q.all b m u++more)) {row:bM->Option PL} {e:bM} {p:PL} (ht:eD (kinds q.xs) row m.aJ q.cD) (hr:row e=some p) {K:Sl->World->Prop}
  (hK: ∀s T' w',eD (kinds q.xs) (aH row e none) (aH m.aJ e none) ({ q with T:=T'}:WH).cD->Hp S w0 w' (({ q with T:=T'}:WH).all b { m with aJ:=aH m.aJ e none} u++more++ [aj s 2 1 iv (flat p)])->K s w'):So (some ⟨b,0,none⟩) e.1 e.2 w K:=by
 obtain⟨k,r,t,hk,tk,wi,xo⟩:=ht.find hr
 unfold WH.cD at hk
 rw [afC] at hk
 obtain⟨⟨s0,tb,t0⟩,Mx,he⟩:=af2.1 hk
 obtain⟨rfl,rfl⟩:=agK he
 have mw:m.aJ e=some (aG p):=by rw [ht.aJ];show (row e).map aG=_;rw [hr];rfl
 refine Cb h (e:=e) (set:=aG p) (k:=k) (tb:=tb) (row:=r) (t:=t0) (vals:=flat p) mw (by have:=ht.nd;unfold WH.cD at this;rw [ahy] at this;exact this) Mx tk wi xo fun s T' w' hT h=>hK s T' w' ?_ h
 refine ht.leave hr (k:=k) (r:=r) (t:=t0) (by unfold WH.cD;rw [afC,Mx];rfl) xo ?_
 rcases hT with ⟨hz,rfl⟩ | ⟨hz,rfl⟩
 ·exact .inl ⟨hz,by unfold WH.cD;rw [agR]⟩
 ·exact .inr ⟨hz,by unfold WH.cD;rw [dV]⟩
theorem tx {b:Nat} {m:WM} {q:WH} {u:aa} {more:List aa} (h:Hp S w0 w (q.all b m u++more)) {row:bM->Option PL} {e:bM} {p:PL} (ht:eD (kinds q.xs) row m.aJ q.cD) (hm:cC (kinds q.xs)) (hr:row e=none) (hp:p.fit (kinds q.xs))
  (hb: ∀L:List bM,L.Nodup->(∀x∈L,(row x).isSome=true)->L.length < 200) {vs:Sl} (hu:Hp.Reads u vs 1 iv (flat p)) {K:World->Prop}
  (hK: ∀T' w',eD (kinds q.xs) (aH row e (some p)) (aH m.aJ e (some (aG p))) ({ q with T:=T'}:WH).cD->Hp S w0 w' (({ q with T:=T'}:WH).all b { m with aJ:=aH m.aJ e (some (aG p))} u++more)->K w'):Ro (some ⟨b,0,none⟩) e.1 e.2 (aG p) vs w K:=by
 have cU:(kinds q.xs).length=q.xs.length:=by simp [kinds]
 have wo:q.xs.length<=12:=by have:=hm.2.2.1;omega
 have pa: ∀x∈kinds q.xs,x.2.length<=4:=fun x hx=>(hm.1 x hx).1
 have h4: ∀x∈q.xs,x.2.2.length<=4:=fun x hx=>pa (x.1,x.2.2) (afQ.2 ⟨x,hx,rfl⟩)
 have yG:p.length<=12:=by rw [hp.1];omega
 have Ba:=hY yG
 refine B9 h wo h4 (fun x hx=>(ht.tok (x.1,x.2.2) (afQ.2 ⟨x,hx,rfl⟩)).1) (hU p) (by omega) hu fun T1 k tb t w' hT hk h=>?_
 have hT1:T1.map (fun x=>(x.1,x.2.2))=q.cD \/ (T1.map (fun x=>(x.1,x.2.2))=q.cD++ [(aG p,⟨eL (kinds q.xs) (aG p) (kinds q.xs).length,[]⟩)] /\ ∀x∈q.cD,x.1≠aG p):=by
  rcases hT with rfl | ⟨rfl,da⟩
  ·exact .inl rfl
  ·refine .inr ⟨by unfold WH.cD;rw [agh,cU];rfl,fun x hx=>?_⟩
   obtain⟨y,hy,rfl⟩:=afQ.1 hx
   exact da y hy
 obtain⟨e1,e2⟩:=ht.enter hr hp hb pa (by omega) hT1 (k:=k) (t:=t) (by rw [afC,hk];rfl)
 rw [e1] at h
 refine hK _ w' ?_ h
 unfold WH.cD
 rw [agR]
 exact e2
def WA.cI (a:WA) (e:bM):WA×Int:=if a.au.is e.1 e.2=true then (⟨a.ks,a.au.dj e.1 e.2,aH a.row e none⟩,0) else (a,41)
theorem gG (row:bM->Option PL) (e:bM) (o:Option PL):(fun x=>(aH row e o x).map aG)=aH (fun x=>(row x).map aG) e (o.map aG):=by
 funext x
 unfold aH
 split <;> rfl
theorem HM {m:af} (hm:m.Ok) {e x:bM} (he:m.is e.1 e.2=true):(m.dj e.1 e.2).is x.1 x.2=if x=e then false else m.is x.1 x.2:=by
 obtain⟨h1,h2⟩:=af.jG.1 he
 obtain⟨a1,a2⟩:=FI.ji hm h1
 have hl:=hm.len
 unfold af.is
 rw [af.lR m a1 (by omega),af.uM]
 by_cases hx:x=e
 ·subst hx;simp
 ·rw [if_neg hx]
  by_cases h0:x.1=e.1
  ·rw [if_pos h0]
   have:m.gen x.1≠x.2:=fun hg=>hx (ahg h0 (by rw [<-hg,h0,h2]))
   simp [this]
  ·rw [if_neg h0]
theorem Au {p:PL} (h:FP.dX (flat p)) (i:Nat) {v:List Int} (hv:FP.dX v):FP.dX (flat (p.set i (some v))):=by
 intro x hx
 obtain⟨o,ho,hx⟩:=ag0.1 hx
 rcases ah5 ho with ho | rfl
 ·exact h x (ag0.2 ⟨o,ho,hx⟩)
 ·exact hv x hx
theorem WA.u9 {a:WA} (h:a.Ok) (e:bM):(a.cI e).1.Ok:=by
 unfold WA.cI
 split
 ·rename_i he
  refine⟨by have:=(FI.Hw h.Ck e.1 e.2).1;unfold af.kZ at this;rw [if_pos he] at this;exact this,h.aA,h.may,fun x=>?_,fun x p hx=>?_⟩
  ·show (aH a.row e none x).isSome=_
   rw [HM h.u6 he]
   unfold aH
   split
   ·rfl
   ·exact h.Dq x
  ·have hx:aH a.row e none x=some p:=hx
   unfold aH at hx
   split at hx
   ·cases hx
   ·exact h.RB x p hx
 ·exact h
set_option maxHeartbeats 1000000 in
theorem xB (h:Hp S w0 w ae) (i:Nat) {b:Nat} {a:WA} (hi:ae[i]? =some (tW b a)) {e:bM} {K:Int->World->Prop} (hK: ∀w',Hp S w0 w' (ae.set i (tW b (a.cI e).1))->K (a.cI e).2 w'):U3 (some ⟨b,0,none⟩) e.1 e.2 w K:=by
 refine Og ?_
 unfold f17
 obtain⟨O,h1,back⟩:=h.f1 hi rfl
 clear h
 obtain⟨q,bK,ht,hk,h⟩:=kC h1
 have kD:=WA.u9 bK e
 refine h.nw (c:= [_,_]) fun eb w1 h=>?_
 rw [afH] at h
 have h:Hp O w w1 (q.all b a.m ao++ [ai eb 33 [.int .i64 e.1,.int .i64 e.2]]):=h
 refine h.dr fun w2 h=>?_
 refine bg ?_
 refine h.ld (n:=1) (k:=.p) (x:=some ⟨q.pb,0,none⟩) 0 rfl rfl ?_
 refine h.cx (k:=.i .i64) (x:=e.1) 8 rfl rfl ?_
 refine h.ld (n:=1) (k:=.i .i64) (x:=e.2) 8 rfl rfl ?_
 refine FI.Qj h 4 (m:=a.au) bK.u6 rfl fun w3 h=>?_
 have hl:=bK.Dq e
 have fin: ∀{w':World} {a':WA},Hp O w w' [tW b a']->Hp S w0 w' (ae.set i (tW b a')):=fun{w' a'} h=>by
  have:=back (rest:= []) rfl rfl h
  rwa [afH] at this
 unfold af.kZ at h ⊢
 by_cases he:a.au.is e.1 e.2=true
 ·simp only [if_pos he] at h ⊢
  have e0:a.cI e=(⟨a.ks,a.au.dj e.1 e.2,aH a.row e none⟩,0):=by unfold WA.cI;rw [if_pos he]
  rw [e0] at hK kD
  refine aF (by simp) ?_
  have h:Hp O w w3 (q.all b { a.m with au:=a.au.dj e.1 e.2} ao++ [ai eb 33 [.int .i64 e.1,.int .i64 e.2]]):=h
  refine h.cx (k:=.i .i64) (x:=e.1) 8 rfl rfl ?_
  refine h.ld (n:=1) (k:=.i .i64) (x:=e.2) 8 rfl rfl ?_
  rw [he] at hl
  obtain⟨p,hr⟩:=agL.1 hl
  refine Ds h (row:=a.row) (p:=p) (by rw [hk];exact ht) hr fun s T' w4 D3 h=>hK w4 (fin ?_)
  refine jM (rest:= []) (u:=ao) (m:={ a.m with au:=a.au.dj e.1 e.2,aJ:=aH a.m.aJ e none}) (q:={ q with T:=T'}) kD ?_ hk rfl ?_ ?_
  ·show eD a.ks (aH a.row e none) (fun x=>(aH a.row e none x).map aG) _
   rw [gG,<-hk]
   exact D3
  ·exact(gG a.row e none).symm
  ·have h:=h.front.front
   rw [afH];exact h
 ·simp only [if_neg he] at h ⊢
  have e0:a.cI e=(a,41):=by unfold WA.cI;rw [if_neg he]
  rw [e0] at hK
  refine aE rfl (hK w3 (fin ?_))
  refine jM (rest:= []) (u:=ao) (m:=a.m) (q:=q) bK ht hk rfl rfl ?_
  have h:Hp O w w3 (q.all b a.m ao++ [ai eb 33 [.int .i64 e.1,.int .i64 e.2]]):=h
  rw [afH];exact h.front
end
end Go.Proofs.YtcccjgmekakabaaGreat.FW
end

section
namespace Go.Proofs.YtcccjgmekakabaaGreat.FW
open F
open Go Go.Den Go.Proofs
open FI (af ay)
open FT (az di bM cc dz gm bD iv aq)
section
variable {S:List Nat} {w0 w:World} {ae:List aa}
theorem Cl (h:Hp S w0 w ae) (i:Nat) {T:List TT} {k tb:Nat} {set:Int} {t:az} (hi:(ae[i]?).map aa.holds=some (an (T.map tT)).holds) (hk:T[k]? =some (set,tb,t)):Hp [] w w [(di tb t).ro]:=by
 have h1:=h.IY hi
 obtain⟨O,hO,put⟩:=h1.Ma (i:=0) rfl
 obtain⟨O1,O2,g1,g2,g3,g4⟩:=dx (k:=k) (t:=tT (set,tb,t)) (by rw [afC,hk];rfl) hO
 exact(put g1 (fun x hx=>(g4 x).2 (.inl hx))).oV 1 rfl
theorem TJ (h:Hp S w0 w ae) (i:Nat) {T:List TT} {k tb:Nat} {set:Int} {t:az} (hi:(ae[i]?).map aa.holds=some (an (T.map tT)).holds) (hk:T[k]? =some (set,tb,t)) {e:bM} {r:Nat} (wi:gm t e=some (r:Int)) {K:Int->World->Prop}
  (hK: ∀w',Hp S w0 w' ae->K r w'):DZ (some ⟨tb,0,none⟩) e.1 e.2 w K:=
 FT.q8 (Cl h i hi hk) 0 rfl fun w' h'=>by
  rw [wi]
  exact hK w' (by have:=h.r0 (rest:= []) rfl (h'.trim 0);rwa [afH] at this)
theorem Y0 (h:Hp S w0 w ae) (i:Nat) {T:List TT} {k tb:Nat} {set:Int} {t:az} (bK:t.Ok) (hi:(ae[i]?).map aa.holds=some (an (T.map tT)).holds) (hk:T[k]? =some (set,tb,t)) {e:bM} {vals:List Int} {r:Nat} (xo:t.rows[r]? =some (e,vals)) {K:Int->Int->Sl->Int->World->Prop}
  (hK: ∀s w',Hp S w0 w' (ae++ [aj s 2 1 iv vals])->K e.1 e.2 s 0 w'):F2 (some ⟨tb,0,none⟩) (r:Int) w K:=
 FT.zJ (Cl h i hi hk) 0 bK rfl fun s w'=>⟨fun x Bf hx h'=>by
  have hx:t.rows[r]? =some x:=hx
  rw [xo] at hx
  obtain rfl:=afK hx
  exact hK s w' (h.r0 (rest:= [aj s 2 1 iv vals]) rfl (h'.oV 1 rfl)),fun da=>absurd ⟨by omega,by have:=(aft.1 xo).1;omega⟩ da⟩
theorem Av (h:Hp S w0 w ae) (i:Nat) {u:aa} {s:Sl} {L:List Int} (hi:ae[i]? =some u) (hu:Hp.Reads u s 1 iv L) (hl:L.length<=1000000) {K:Sl->World->Prop} (hK: ∀r w',Hp S w0 w' (ae++ [aj r 2 1 iv L])->K r w'):NP s w K:=by
 refine Kn ?_
 unfold f141
 obtain⟨inf,q1,q2,q3,q4⟩:=FT.jC
 have ar:=(aft.1 hi).1
 have eQ:=h.df i (by rw [hi];rfl) hu
 by_cases hn:s.a.isNone=true
 ·refine aE hn (hK _ _ ?_)
  have:L= []:=by
   obtain⟨O,hO⟩:=h.n9 hi
   obtain⟨o,hR⟩:=hu.rd hO
   exact hR.isNil (by simpa using hn)
  rw [this];exact h.nil 2 1 iv
 ·refine aF hn ?_
  refine h.nw (c:= []) fun b w1 h=>?_
  have h:=h.sr (i:=ae.length) (m:=0) (l:=([]:List Int)) (f:=iv) (n:=1) afU rfl rfl aq
  rw [ch] at h
  refine h.gY ae.length i (s:=⟨some ⟨b,0,none⟩,0,0⟩) (s2:=s) afU (by rw [afx ar];exact hi) hu aq FT.eO q1 q3 q2 rfl (by simp [iv,Value.oneCell']) (by rw [q4];show (0+s.len)*8<=_;omega) (by show 0+s.len<=_;omega) fun r w2 h _ _=>?_
  rw [ch] at h
  exact hK r w2 h
theorem TK (h:Hp S w0 w ae) (i:Nat) {s:Sl} {l:List Int} (hi:ae[i]? =some (aj s 2 1 iv l)):l.length=s.len /\ s.len<=s.cap:=⟨h.len i (by rw [hi];rfl),h.cap i (by rw [hi];rfl)⟩
set_option maxHeartbeats 1000000 in
theorem Qz {b:Nat} {m:WM} {q:WH} {u:aa} {more:List aa} (h:Hp S w0 w (q.all b m u++more)) {row:bM->Option PL} {e:bM} {p:PL} (ht:eD (kinds q.xs) row m.aJ q.cD) (hm:cC (kinds q.xs)) (hr:row e=some p) {i:Nat} {v:List Int} (hp:p[i]? =some (some v)) {K:Int->Sl->World->Prop}
  (hK: ∀s w',Hp S w0 w' (q.all b m u++more++ [aj s 2 1 iv v])->K ((i+1:Nat):Int) s w'):NM (some ⟨b,0,none⟩) e.1 e.2 (aG p) ((i+1:Nat):Int) w K:=by
 refine Kl ?_
 unfold f136
 obtain⟨Hr,r1,r2,r3,r4⟩:=B8
 have cU:(kinds q.xs).length=q.xs.length:=by simp [kinds]
 have wo:q.xs.length<=12:=by have:=hm.2.2.1;omega
 have pa: ∀x∈kinds q.xs,x.2.length<=4:=fun x hx=>(hm.1 x hx).1
 have h4: ∀x∈q.xs,x.2.2.length<=4:=fun x hx=>pa (x.1,x.2.2) (afQ.2 ⟨x,hx,rfl⟩)
 have bW:=ht.fit e p hr
 have ky:=(aft.1 hp).1
 have Ba:=hY (show p.length<=12 by rw [bW.1];omega)
 obtain⟨k,r,t,hk,tk,wi,xo⟩:=ht.find hr
 unfold WH.cD at hk
 rw [afC] at hk
 obtain⟨⟨s0,tb,t0⟩,Mx,he⟩:=af2.1 hk
 obtain⟨rfl,rfl⟩:=agK he
 have bE:(q.T.map (·.1)).Nodup:=by have:=ht.nd;unfold WH.cD at this;rw [ahy] at this;exact this
 have Cm:(kinds q.xs)[i]? =some ((kinds q.xs)[i]'(by rw [<-bW.1];exact ky)):=afD _
 have gi:=bW.2 i v _ hp Cm
 refine h.nw (c:= [_,_]) fun eb w1 h=>?_
 have h:=h.up
 refine h.nw (c:= [_,_]) fun ab w2 h=>?_
 have h:=h.up
 refine bg ?_
 refine h.ld (n:=3) (k:=.m) (x:=some q.mt) 0 rfl rfl ?_
 refine h.lS (kd:=.p) (vk:=fun tb=>some ⟨tb,0,none⟩) (z:=(none:Option Addr)) (ek:=Value.int .i64) (ev:=pv) (g:=db q.T) (k:=aG p) 6 rfl rfl xl wv r1 r2 (fun _=>rfl) ?_
 rw [Di bE Mx]
 refine h.cx (k:=.i .i64) (x:=e.1) 9 rfl rfl ?_
 refine h.ld (n:=1) (k:=.i .i64) (x:=e.2) 9 rfl rfl ?_
 refine TJ h 7 rfl Mx wi fun w3 h=>?_
 refine Y0 h 7 tk rfl Mx xo fun s w4 h=>?_
 have h:=h.up
 refine h.nw (c:= [_,_]) fun xb w5 h=>?_
 have h:=h.up
 refine h.iR 8 rfl (by simp) rfl fun w6 h=>?_
 refine h.st (n:=1) 8 rfl (by simp) rfl fun w7 h=>?_
 have h:Hp S w0 w7 (q.all b m u++(ai xb 33 [.int .i64 e.1,.int .i64 e.2] :: aj s 2 1 iv (flat p) :: ai ab 36 [.int .i64 0,.slice none 0 0] :: ai eb 33 [.int .i64 e.1,.int .i64 e.2] :: more)):=h
 refine nS h 0 2 3 (cells:= [_,_,_]) rfl rfl rfl wo h4 (hU p) (by omega) (q:=i) (by rw [bW.1,cU] at ky;omega) ?_
 have aaE:i < 12:=by rw [bW.1] at ky;omega
 refine kc h 0 2 3 (cells:= [_,_,_]) rfl rfl rfl (by omega) (by omega) (by omega) ?_
 have ee:fl (kinds q.xs) ((i+1:Nat):Int)=some v.length:=by
  unfold fl
  rw [if_pos (by omega),show (((i+1:Nat):Int) - 1).toNat=i by omega,Cm,gi];rfl
 rw [ee]
 dsimp only
 have eQ:=TK h 9 rfl
 have bF:=bW.all
 have hle:=bW.at (q:=i) (by omega)
 have Wj:=bW.get hp
 have ac1:eL (kinds q.xs) (aG p) i+v.length<=s.len:=by
  rw [<-eQ.1,fh hp,hle];simp
 have ac2:=fR pa (aG p) i
 have QA:=pa _ (afz Cm)
 rw [aB (n:=(eL (kinds q.xs) (aG p) i:Int)+(v.length:Int)) (by omega) (by omega)]
 refine Hp.jT (s:=s) (u:=aj s 2 1 iv (flat p)) (l:=flat p) Hp.bX eQ.1 aq (by omega) (by omega) (by omega) (agr _) (by omega) fun s2 jO _ _=>?_
 have e1:((flat p).take ((eL (kinds q.xs) (aG p) i:Int)+(v.length:Int)).toNat).drop ((eL (kinds q.xs) (aG p) i:Nat):Int).toNat=v:=by
  rw [afu,show ((eL (kinds q.xs) (aG p) i:Int)+(v.length:Int)).toNat=eL (kinds q.xs) (aG p) i+v.length by omega]
  exact Wj
 rw [e1] at jO
 refine Av h 9 rfl jO (by omega) fun s3 w8 h=>?_
 refine h.iR 10 rfl (by simp) rfl fun w9 h=>?_
 refine h.st (n:=1) 10 rfl (by simp) rfl fun pj h=>?_
 have h:Hp S w0 pj (q.all b m u++ [ai xb 33 [.int .i64 e.1,.int .i64 e.2],aj s 2 1 iv (flat p),ai ab 36 [.int .i64 ((i+1:Nat):Int),.slice s3.a s3.len s3.cap],ai eb 33 [.int .i64 e.1,.int .i64 e.2]]++(more++ [aj s3 2 1 iv v])):=h
 refine h.cx (k:=.i .i64) (x:=((i+1:Nat):Int)) 10 rfl rfl ?_
 refine h.ld (n:=1) (k:=.sl) (x:=s3) 10 rfl rfl ?_
 have h:=h.dY
 rw [<-afA] at h
 exact hK s3 pj h
theorem Aw {ks:KD} {kind:Int} {n:Nat} (hf:fl ks kind=some n): ∃(i:Nat) (k:ByteArray×List ByteArray),kind=((i+1:Nat):Int) /\ ks[i]? =some k /\ k.2.length=n:=by
 unfold fl at hf
 by_cases h1:1<=kind
 ·rw [if_pos h1] at hf
  obtain⟨k,hk,rfl⟩:=af2.1 hf
  exact⟨(kind - 1).toNat,k,by omega,hk,rfl⟩
 ·rw [if_neg h1] at hf;cases hf
theorem Lp {b:Nat} {a:WA} {q:WH} {u:aa} {more:List aa} (h:Hp S w0 w (q.all b a.m u++more)) (bK:a.Ok) (ht:eD a.ks a.row a.m.aJ q.cD) (hk:kinds q.xs=a.ks) {e:bM} {kind:Int} (k1: -9223372036854775808<=kind) (k2:kind<=9223372036854775807) {K:Int->Bool->Int->Int->World->Prop}
  (hK: ∀w',Hp S w0 w' (q.all b a.m u++more)->(a.row e=none->K 0 false 0 41 w') /\ (∀p,a.row e=some p->fl a.ks kind=none->K 0 false 0 60 w') /\ (∀p i k,a.row e=some p->kind=((i+1:Nat):Int)->a.ks[i]? =some k->K (aG p) (p.getD i none).isSome (k.2.length:Nat) 0 w')):
  Ve (some ⟨b,0,none⟩) e.1 e.2 kind w K:=by
 have cU:(kinds q.xs).length=q.xs.length:=by simp [kinds]
 have hl:=bK.len
 have gK:=bK.Dq e
 refine Ca h bK.u6 (by rw [<-cU,hk];omega) (fun s hs=>?_) k1 k2 fun w' h=>⟨fun da=>?_,fun vW hf=>?_,fun n vW hf=>?_⟩
 ·obtain⟨p,hp,rfl⟩:=af2.1 hs
  have:=hY (show p.length<=12 by rw [(ht.fit e p hp).1];omega)
  exact⟨hU p,by omega⟩
 ·refine(hK w' h).1 ?_
  have da:a.au.is e.1 e.2=false:=da
  rw [da] at gK
  cases hr:a.row e with
  | none=>rfl
  | some p=>rw [hr] at gK;cases gK
 ·have vW:a.au.is e.1 e.2=true:=vW
  rw [vW] at gK
  obtain⟨p,hp⟩:=agL.1 gK
  exact(hK w' h).2.1 p hp (by rw [<-hk];exact hf)
 ·have vW:a.au.is e.1 e.2=true:=vW
  rw [vW] at gK
  obtain⟨p,hp⟩:=agL.1 gK
  rw [hk] at hf
  obtain⟨i,k,rfl,Fb,rfl⟩:=Aw hf
  have:=(hK w' h).2.2 p i k hp rfl Fb
  have e1:(a.m.aJ e).getD 0=aG p:=by show ((a.row e).map aG).getD 0=_;rw [hp];rfl
  rw [e1,afu,nc]
  have e2:(((if (p.getD i none).isSome=true then 1 else 0):Int) ==1)=(p.getD i none).isSome:=by
   cases (p.getD i none).isSome <;> rfl
  rw [e2]
  exact this
def WA.get (a:WA) (e:bM) (kind:Int):List Int×Int:=match a.row e with
 | none=>([],41)
 | some p=>match fl a.ks kind with
  | none=>([],60)
  | some _=>match p.getD (kind - 1).toNat none with
   | none=>([],62)
   | some v=>(v,0)
theorem Dt {O:List Nat} {b:Nat} {a:WA} {w':World} {rest:List aa} {i:Nat} (hi:ae[i]? =some (tW b a)) (back: ∀{w':World} {t':aa} {rest:List aa},t'.own=true->Hp.owns rest=true->Hp O w w' (t' :: rest)->Hp S w0 w' (ae.set i t'++rest)) (ho:Hp.owns rest=true) (h:Hp O w w' (tW b a :: rest)):Hp S w0 w' (ae++rest):=by
 have:=back rfl ho h
 rwa [Hp.cK hi] at this
end
end Go.Proofs.YtcccjgmekakabaaGreat.FW
end

section
namespace Go.Proofs.YtcccjgmekakabaaGreat.FW
open F
open Go Go.Den Go.Proofs
open FI (af ay)
open FT (az di bM cc dz aP gm bD iv aq)
theorem qj:Tryz.prog.underlying 37=some (.slice 36):=by kernel_rfl
theorem qk:Tryz.prog.underlying 71=some (.slice 75):=by kernel_rfl
theorem xC: ∃inf:TypeInfo,Tryz.prog.info? 36=some inf /\ inf.zero=some (.agg #[.int .i64 0,.slice none 0 0]) /\ inf.size=2 /\ inf.bytes=32:=fE (by kernel_rfl)
theorem vc: ∃inf:TypeInfo,Tryz.prog.info? 75=some inf /\ inf.zero=some (.agg #[.int .i64 0,.int .i64 0,.slice none 0 0]) /\ inf.size=3 /\ inf.bytes=40:=fE (by kernel_rfl)
abbrev Part:=Int×List Int
abbrev PV:=Int×Sl×List Int
abbrev cY (x:PV):List Value:= [.int .i64 x.1,.slice x.2.1.a x.2.1.len x.2.1.cap]
theorem aW (x:PV):(cY x).length=2:=rfl
def tV (x:PV):aa:=aj x.2.1 2 1 iv x.2.2
def bN (x:PV):Part:=(x.1,x.2.2)
def bn (s:Sl) (l:List Part):aa:=gD 36 2 cY tV bN s l
abbrev gL:=bM×List Part
abbrev RV:=bM×Sl×List Part
abbrev rdv (x:RV):List Value:= [.int .i64 x.1.1,.int .i64 x.1.2,.slice x.2.1.a x.2.1.len x.2.1.cap]
theorem cd (x:RV):(rdv x).length=3:=rfl
def gJ (x:RV):aa:=bn x.2.1 x.2.2
def fj (x:RV):gL:=(x.1,x.2.2)
def aZ (s:Sl) (l:List gL):aa:=gD 75 3 rdv gJ fj s l
def aY (p:PL):Nat->List Part
 | 0=> []
 | k+1=>aY p k++match p.getD k none with
  | some v=> [(((k+1:Nat):Int),v)]
  | none=> []
def partsOf (p:PL):List Part:=aY p p.length
theorem g9 (p:PL): ∀k,(aY p k).length<=k
 | 0=>by simp [aY]
 | k+1=>by
  have:=g9 p k
  rw [aY,afw]
  split <;> simp <;> omega
def WA.all (a:WA):List bM:=a.au.eA a.au.ah.length
def WA.k9 (a:WA) (e:bM):gL:=(e,partsOf ((a.row e).getD []))
def WA.rows (a:WA):List gL:=a.all.map a.k9
theorem getD_some {p:PL} {j:Nat} {v:List Int} (hp:p.getD j none=some v):p[j]? =some (some v):=by
 rw [afO] at hp
 cases hx:p[j]? with
 | none=>rw [hx] at hp;cases hp
 | some o=>rw [hx] at hp;simpa using hp
section
variable {S:List Nat} {w0 w:World} {ae:List aa}
set_option maxHeartbeats 2000000 in
theorem TL {b:Nat} {m:WM} {q:WH} {u:aa} {more:List aa} (h:Hp S w0 w (q.all b m u++more)) {row:bM->Option PL} {e:bM} {p:PL} (ht:eD (kinds q.xs) row m.aJ q.cD) (hm:cC (kinds q.xs)) (hr:row e=some p) {K:Int->Int->Sl->World->Prop}
  (hK: ∀s w',Hp S w0 w' (q.all b m u++more++ [bn s (partsOf p)])->K e.1 e.2 s w'):Nu (some ⟨b,0,none⟩) e.1 e.2 w K:=by
 refine JP ?_
 unfold f100
 obtain⟨Hr,r1,r2,r3,r4⟩:=FT.lN
 obtain⟨inf,q1,q2,q3,q4⟩:=xC
 have cU:(kinds q.xs).length=q.xs.length:=by simp [kinds]
 have wo:q.xs.length<=12:=by have:=hm.2.2.1;omega
 have bW:=ht.fit e p hr
 have yG:p.length=q.xs.length:=by rw [bW.1,cU]
 have Ba:=hY (show p.length<=12 by omega)
 have qH:=hU p
 have mw:m.aJ e=some (aG p):=by rw [ht.aJ];show (row e).map aG=_;rw [hr];rfl
 refine h.nw (c:= [_,_]) fun eb w1 h=>?_
 have h:=h.up
 refine h.nw (c:= [_,_,_]) fun ab w2 h=>?_
 have h:=h.up
 refine h.cx (k:=.i .i64) (x:=e.1) 9 rfl rfl ?_
 refine h.ld (n:=1) (k:=.i .i64) (x:=e.2) 9 rfl rfl ?_
 refine h.nw (c:= [_,_,_]) fun rb w3 h=>?_
 have h:=h.up
 refine h.iR 8 rfl (by simp) rfl fun w4 h=>?_
 refine h.st (n:=1) 8 rfl (by simp) rfl fun w5 h=>?_
 refine h.st (n:=2) 8 rfl (by simp) rfl fun w6 h=>?_
 have h:Hp S w0 w6 (q.all b m u++(ai rb 75 [.int .i64 e.1,.int .i64 e.2,.slice none 0 0] :: ai ab 75 [.int .i64 0,.int .i64 0,.slice none 0 0] :: ai eb 33 [.int .i64 e.1,.int .i64 e.2] :: more)):=h
 refine h.dr fun w7 h=>?_
 refine bg ?_
 refine h.ld (n:=2) (k:=.m) (x:=some q.ms) 0 rfl rfl ?_
 refine h.cx (k:=.i .i64) (x:=e.1) 10 rfl rfl ?_
 refine h.ld (n:=1) (k:=.i .i64) (x:=e.2) 10 rfl rfl ?_
 refine h.lS (kd:=.i .i64) (vk:=id) (z:=(0:Int)) (ek:=cc) (ev:=Value.int .i64) (g:=m.aJ) (k:=e) 5 rfl rfl xk bD r1 r2 (fun _=>rfl) ?_
 rw [mw]
 dsimp only [id_eq]
 refine bg ?_
 refine h.cx (k:=.sl) (x:=q.sk) 0 rfl rfl ?_
 have hsk:=h.len (s:=q.sk) 2 rfl
 have h:=(h.gE 36 2 cY tV bN).up
 refine⟨fun t21 mm w'=> ∃(k:Nat) (s:Sl),t21=k /\ k<=p.length /\ mm=p.length - k /\ Hp S w0 w' (q.all b m u++(bn s (aY p k) :: ai rb 75 [.int .i64 e.1,.int .i64 e.2,.slice s.a s.len s.cap] :: ai ab 75 [.int .i64 0,.int .i64 0,.slice none 0 0] :: ai eb 33 [.int .i64 e.1,.int .i64 e.2] :: more)),⟨p.length,0,⟨none,0,0⟩,rfl,by omega,rfl,h⟩,?_⟩
 clear h
 rintro t21 mm w8 ⟨k,s,rfl,hk,rfl,h⟩
 have My:=h.gF (s:=s) (l:=aY p k) (e:=36) (n:=2) (cells:=cY) (sub:=tV) (vis:=bN) 8 rfl
 have hpu:=g9 p k
 by_cases ar:k < p.length
 ·refine aE (by simp;omega) ?_
  rw [show IntKind.i64.wrap ((k:Int)+1)=((k+1:Nat):Int) by rw [aB (by omega) (by omega)];omega]
  refine⟨by omega,?_⟩
  have kp:=(uN (set:=aG p) (k:=k+1) qH (by omega) (by omega)).trans (nc p k)
  cases hp:p.getD k none with
  | some v=>
   refine aE (by rw [kp,hp];rfl) ?_
   refine h.dr fun w9 h=>?_
   refine h.ld (n:=2) (k:=.sl) (x:=s) 9 rfl rfl ?_
   refine h.cx (k:=.i .i64) (x:=e.1) 11 rfl rfl ?_
   refine h.ld (n:=1) (k:=.i .i64) (x:=e.2) 11 rfl rfl ?_
   refine Qz h ht hm hr (getD_some hp) fun sv pj h=>?_
   have h:=h.up
   refine⟨h.IZ (n:=2) 10 rfl rfl,?_⟩
   refine h.jL 9 8 (by omega) ((((k+1:Nat):Int),sv,v):PV) rfl rfl rfl aW qj q1 q3 q2 rfl rfl (by simp [cY,Value.oneCell']) (by rw [q4];omega) (by omega) fun s' wx h cW=>?_
   have h:Hp S w0 wx (q.all b m u++ [ao]++(bn s' (aY p k++ [(((k+1:Nat):Int),v)]) :: ai rb 75 [.int .i64 e.1,.int .i64 e.2,.slice s.a s.len s.cap] :: ai ab 75 [.int .i64 0,.int .i64 0,.slice none 0 0] :: ai eb 33 [.int .i64 e.1,.int .i64 e.2] :: more)):=h
   have h:=h.dY
   refine h.st (n:=2) 9 rfl (by simp) rfl fun z9 h=>?_
   refine⟨p.length - (k+1),by omega,k+1,s',rfl,by omega,rfl,?_⟩
   have e1:aY p (k+1)=aY p k++ [(((k+1:Nat):Int),v)]:=by rw [aY,hp]
   rw [e1]
   exact h
  | none=>
   refine aF (by rw [kp,hp];decide) ?_
   refine⟨p.length - (k+1),by omega,k+1,s,rfl,by omega,rfl,?_⟩
   have e1:aY p (k+1)=aY p k:=by rw [aY,hp];simp
   rw [e1]
   exact h
 ·refine aF (by simp;omega) ?_
  obtain rfl:k=p.length:=by omega
  refine h.cx (k:=.i .i64) (x:=e.1) 9 rfl rfl ?_
  refine h.ld (n:=1) (k:=.i .i64) (x:=e.2) 9 rfl rfl ?_
  refine h.ld (n:=2) (k:=.sl) (x:=s) 9 rfl rfl ?_
  refine h.iR 10 rfl (by simp) rfl fun w9 h=>?_
  refine h.st (n:=1) 10 rfl (by simp) rfl fun pj h=>?_
  refine h.st (n:=2) 10 rfl (by simp) rfl fun wx h=>?_
  have h:Hp S w0 wx (q.all b m u++(bn s (partsOf p) :: ([ai rb 75 [.int .i64 e.1,.int .i64 e.2,.slice s.a s.len s.cap],ai ab 75 [.int .i64 e.1,.int .i64 e.2,.slice s.a s.len s.cap],ai eb 33 [.int .i64 e.1,.int .i64 e.2]]++more))):=h
  refine h.cx (k:=.i .i64) (x:=e.1) 10 rfl rfl ?_
  refine h.ld (n:=1) (k:=.i .i64) (x:=e.2) 10 rfl rfl ?_
  refine h.ld (n:=2) (k:=.sl) (x:=s) 10 rfl rfl ?_
  have h:=h.down
  have h:Hp S w0 wx (q.all b m u++ [ai rb 75 [.int .i64 e.1,.int .i64 e.2,.slice s.a s.len s.cap],ai ab 75 [.int .i64 e.1,.int .i64 e.2,.slice s.a s.len s.cap],ai eb 33 [.int .i64 e.1,.int .i64 e.2]]++(more++ [bn s (partsOf p)])):=by
   simpa using h
  have h:=h.dY
  rw [<-afA] at h
  exact hK s wx h
theorem hH {a:WA} (bK:a.Ok) {e:bM} (he:e∈a.all): ∃p,a.row e=some p:=by
 obtain⟨h1,_⟩:=FI.iA a.au a.au.ah.length
 obtain⟨_,_,h2,h3⟩:=h1 e he
 have:=bK.Dq e
 rw [af.jG.2 ⟨h2,h3⟩] at this
 exact agL.1 this
set_option maxHeartbeats 2000000 in
theorem HN {b:Nat} {a:WA} {q:WH} {u:aa} {more:List aa} (h:Hp S w0 w (q.all b a.m u++more)) (bK:a.Ok) (ht:eD a.ks a.row a.m.aJ q.cD) (hk:kinds q.xs=a.ks) {K:Sl->World->Prop}
  (hK: ∀s w',Hp S w0 w' (q.all b a.m u++more++ [aZ s a.rows])->K s w'):Rj (some ⟨b,0,none⟩) w K:=by
 refine OB ?_
 unfold f39
 obtain⟨inf,q1,q2,q3,q4⟩:=vc
 have gI:a.all.length<=200:=by
  have h1:=af.gB a.au a.au.ah.length
  have h2:=bK.u6.fe
  show (a.au.eA a.au.ah.length).length<=200
  omega
 refine bg ?_
 refine h.ld (n:=1) (k:=.p) (x:=some ⟨q.pb,0,none⟩) 0 rfl rfl ?_
 refine FI.Mr h 4 (m:=a.au) bK.u6 rfl fun r w1 h=>?_
 have h:=h.up
 have h:Hp S w0 w1 (q.all b a.m u++(aj r 33 2 dz a.all :: more)):=h
 have fv:=h.len (s:=r) 8 rfl
 have h:=(h.gE 75 3 rdv gJ fj).up
 refine⟨fun out t12 mm w'=> ∃k:Nat,t12=k /\ k<=a.all.length /\ mm=a.all.length - k /\ Hp S w0 w' (q.all b a.m u++(aZ out ((a.all.take k).map a.k9) :: aj r 33 2 dz a.all :: more)),⟨a.all.length,0,rfl,by omega,rfl,h⟩,?_⟩
 clear h
 rintro out t12 mm w2 ⟨k,rfl,Ei,rfl,h⟩
 have My:=h.gF (s:=out) (l:=(a.all.take k).map a.k9) (e:=75) (n:=3) (cells:=rdv) (sub:=gJ) (vis:=fj) 8 rfl
 rw [afP,afM] at My
 by_cases ar:k < a.all.length
 ·refine aE (by simp;omega) ?_
  have hx:a.all[k]? =some a.all[k]:=by simp [ar]
  obtain⟨p,hr⟩:=hH bK (afR ar)
  have cX:(a.all.take (k+1)).map a.k9=(a.all.take k).map a.k9++ [(a.all[k],partsOf p)]:=by
   rw [afG ar,agh]
   show _++ [a.k9 a.all[k]]=_
   unfold WA.k9
   rw [hr];rfl
  generalize a.all[k]=e at hx hr cX
  refine h.sq (s:=r) (l:=a.all) (f:=dz) (n:=2) (e:=33) 9 rfl (by omega) (by rw [afu];exact hx) aP fun ad hc=>?_
  refine ep (k:=.i .i64) (x:=e.1) (hc 0 (by omega)) rfl ?_
  refine j8 (k:=.i .i64) (x:=e.2) (hc 1 (by omega)) rfl ?_
  refine h.nw (c:= [_,_]) fun eb w3 h=>?_
  have h:=h.up
  refine h.iR 8 rfl (by simp) rfl fun w4 h=>?_
  refine h.st (n:=1) 8 rfl (by simp) rfl fun w5 h=>?_
  have h:Hp S w0 w5 (q.all b a.m u++(ai eb 33 [.int .i64 e.1,.int .i64 e.2] :: aZ out ((a.all.take k).map a.k9) :: aj r 33 2 dz a.all :: more)):=h
  refine h.cx (k:=.i .i64) (x:=e.1) 8 rfl rfl ?_
  refine h.ld (n:=1) (k:=.i .i64) (x:=e.2) 8 rfl rfl ?_
  refine TL h (row:=a.row) (by rw [hk];exact ht) (by rw [hk];exact bK.may) hr fun s w6 h=>?_
  have h:=h.up
  refine h.jL 10 8 (by omega) ((e,s,partsOf p):RV) rfl rfl rfl cd qk q1 q3 q2 rfl rfl (by simp [rdv,Value.oneCell']) (by rw [q4];omega) (by omega) fun s' w7 h cW=>?_
  have h:Hp S w0 w7 (q.all b a.m u++ [ao,ai eb 33 [.int .i64 e.1,.int .i64 e.2]]++(aZ s' ((a.all.take k).map a.k9++ [(e,partsOf p)]) :: aj r 33 2 dz a.all :: more)):=h
  have h:=h.dY
  refine⟨a.all.length - (k+1),by omega,k+1,by rw [aB (by omega) (by omega)];omega,by omega,rfl,?_⟩
  rw [cX]
  exact h
 ·refine aF (by simp;omega) ?_
  rw [afE (by omega)] at h
  have h:=h.down
  have h:Hp S w0 w2 (q.all b a.m u++ [aj r 33 2 dz a.all]++(more++ [aZ out (a.all.map a.k9)])):=by
   simpa using h
  have h:=h.dY
  rw [<-afA] at h
  exact hK out w2 h
theorem HO (h:Hp S w0 w ae) (i:Nat) {b:Nat} {a:WA} (hi:ae[i]? =some (tW b a)) {K:Sl->World->Prop}
  (hK: ∀s w',Hp S w0 w' (ae++ [aZ s a.rows])->K s w'):Rj (some ⟨b,0,none⟩) w K:=by
 obtain⟨O,h1,back⟩:=h.f1 hi rfl
 clear h
 obtain⟨q,bK,ht,hk,h⟩:=kC h1
 refine HN h bK ht hk fun s w' h=>?_
 have h:Hp O w w' (q.all b a.m ao++ [aZ s a.rows]):=h
 exact hK s w' (Dt hi back rfl (jM (rest:= [_]) (m:=a.m) bK ht hk rfl rfl h))
end
end Go.Proofs.YtcccjgmekakabaaGreat.FW
end

section
namespace Go.Proofs.YtcccjgmekakabaaGreat.FW
open F
open Go Go.Den Go.Proofs
open FI (af ay)
open FT (az di bM cc dz aP gm bD iv aq)
def aO (ks:KD):List Part->PL->PL×Int
 | [],p=>(p,0)
 | x :: ps,p=>match fl ks x.1 with
  | none=>(p,60)
  | some n=>if (p.getD (x.1 - 1).toNat none).isSome=true then (p,61) else if x.2.length≠n then (p,63) else aO ks ps (p.set (x.1 - 1).toNat (some x.2))
def WA.emp (a:WA):PL:=List.replicate a.ks.length none
def WA.spawn (a:WA) (ps:List Part):WA×bM×Int:=
 if (aO a.ks ps a.emp).2≠0 then (a,(0,0),(aO a.ks ps a.emp).2) else
 if a.au.bu.2.2≠0 then (a,(0,0),a.au.bu.2.2) else (⟨a.ks,a.au.bu.1,aH a.row a.au.bu.2.1 (some (aO a.ks ps a.emp).1)⟩,a.au.bu.2.1,0)
theorem nj {m:af} (hm:m.Ok):(m.bu.2.2≠0->m.bu=(m,(0,0),40)) /\ (m.bu.2.2=0->m.bu.1.Ok /\ m.is m.bu.2.1.1 m.bu.2.1.2=false /\ ∀x:bM,m.bu.1.is x.1 x.2=if x=m.bu.2.1 then true else m.is x.1 x.2):=by
 have Lq: ∀(q:af) (x:bM),x.1 < 0->q.is x.1 x.2=false:=fun q x hx=>by
  unfold af.is af.bt
  rw [decide_eq_false (by omega)];rfl
 unfold af.bu
 cases hf:m.free with
 | cons i rest=>
  dsimp only
  refine⟨fun h=>absurd rfl h,fun _=>⟨hm.cu hf,?_,fun x=>?_⟩⟩
  ·obtain⟨a1,a2,a3,a4⟩:=hm.free i (by rw [hf];simp)
   unfold af.is;rw [a3];rfl
  ·obtain⟨a1,a2,a3,a4⟩:=hm.free i (by rw [hf];simp)
   have hl:=hm.len
   by_cases Bf:x.1 < 0
   ·rw [Lq _ x Bf,Lq _ x Bf,if_neg (fun e=>by rw [e] at Bf;dsimp only at Bf;omega)]
   ·unfold af.is
    rw [af.jF m a1 (by omega),af.lQ m a1 (by omega) (by omega)]
    by_cases hx:x.1=i
    ·rw [if_pos hx,if_pos hx,hx,a3]
     by_cases vJ:x=(i,m.gen i+1)
     ·rw [if_pos vJ,vJ];simp
     ·rw [if_neg vJ]
      have:m.gen i+1≠x.2:=fun e=>vJ (ahg hx e.symm)
      simp [this]
    ·rw [if_neg hx,if_neg hx,if_neg (fun e=>hx (by rw [e]))]
 | nil=>
  by_cases hl:(m.ah.length:Int) < m.aA
  ·simp only [if_pos hl]
   refine⟨fun h=>absurd rfl h,fun _=>⟨hm.cV hf hl,?_,fun x=>?_⟩⟩
   ·unfold af.is af.bt
    have:=hm.len
    rw [afO,af0 (by simp;omega)];simp
   ·have hl:=hm.len
    have TM:m.bt (m.ah.length:Int)=false:=by
     unfold af.bt
     rw [afO,af0 (by simp;omega)];simp
    by_cases Bf:x.1 < 0
    ·rw [Lq _ x Bf,Lq _ x Bf,if_neg (fun e=>by rw [e] at Bf;dsimp only at Bf;omega)]
    ·unfold af.is
     rw [af.oy m hl,af.sC m (by omega)]
     by_cases hx:x.1=m.ah.length
     ·rw [if_pos hx,if_pos hx,hx,TM]
      by_cases vJ:x=((m.ah.length:Int),1)
      ·rw [if_pos vJ,vJ];simp
      ·rw [if_neg vJ]
       have:(1:Int)≠x.2:=fun e=>vJ (ahg hx e.symm)
       simp [this]
     ·rw [if_neg hx,if_neg hx,if_neg (fun e=>hx (by rw [e]))]
  ·simp only [if_neg hl]
   exact⟨fun _=>trivial,fun h=>absurd h (by decide)⟩
theorem ql {ks:KD}: ∀(ps:List Part) {p:PL},p.fit ks->(PL.fit ks (aO ks ps p).1)
 | [],p,h=>h
 | x :: ps,p,h=>by
  unfold aO
  cases hf:fl ks x.1 with
  | none=>exact h
  | some n=>
   dsimp only
   split
   ·exact h
   ·split
    ·exact h
    ·rename_i hn
     obtain⟨i,k,Fb,hk,zK⟩:=Aw hf
     have e:(x.1 - 1).toNat=i:=by omega
     rw [e]
     exact ql ps (h.set hk (by rw [zK];simpa using hn))
theorem qm {ks:KD}: ∀(ps:List Part) {p:PL},(∀x∈ps,FP.dX x.2)->FP.dX (flat p)->FP.dX (flat (aO ks ps p).1)
 | [],p,_,h=>h
 | x :: ps,p,hp,h=>by
  unfold aO
  cases hf:fl ks x.1 with
  | none=>exact h
  | some n=>
   dsimp only
   split
   ·exact h
   ·split
    ·exact h
    ·exact qm ps (fun y hy=>hp y (ahc _ hy)) (Au h _ (hp x (by simp)))
theorem WA.vd {a:WA} (h:a.Ok) (ps:List Part) (Fm: ∀x∈ps,FP.dX x.2):(a.spawn ps).1.Ok:=by
 unfold WA.spawn
 split
 ·exact h
 ·split
  ·exact h
  ·rename_i ht
   obtain⟨t1,t2,t3⟩:=(nj h.u6).2 (by simpa using ht)
   refine⟨(FI.Ag h.Ck).1,(FI.Ag h.Ck).2.trans h.aA,h.may,fun x=>?_,fun x p hx=>?_⟩
   ·show (aH a.row a.au.bu.2.1 _ x).isSome=_
    rw [t3 x]
    unfold aH
    split
    ·rfl
    ·exact h.Dq x
   ·have hx:aH a.row a.au.bu.2.1 _ x=some p:=hx
    unfold aH at hx
    split at hx
    ·obtain rfl:=afK hx
     exact qm ps Fm (by unfold WA.emp;rw [uQ];intro x hx;cases hx)
    ·exact h.RB x p hx
theorem ry {a:WA} (h:a.Ok) (ht:a.au.bu.2.2=0):a.row a.au.bu.2.1=none /\ ∀L:List bM,L.Nodup->(∀x∈L,(a.row x).isSome=true)->L.length < 200:=by
 obtain⟨t1,t2,t3⟩:=(nj h.u6).2 ht
 have aR:a.row a.au.bu.2.1=none:=by
  have:=h.Dq a.au.bu.2.1
  rw [t2] at this
  cases hr:a.row a.au.bu.2.1 with
  | none=>rfl
  | some p=>rw [hr] at this;cases this
 refine⟨aR,fun L bE hL=>?_⟩
 have:=u7 t1 (L:=a.au.bu.2.1 :: L) (by
  rw [ags]
  exact⟨fun hm=>(by have:=hL _ hm;rw [aR] at this;cases this),bE⟩) (fun x hx=>by
  rw [t3 x]
  split
  ·rfl
  ·rcases af1.1 hx with rfl | hx
   ·rename_i h;exact absurd rfl h
   ·rw [<-h.Dq x];exact hL x hx)
 simp only [af6] at this
 omega
section
variable {S:List Nat} {w0 w:World} {ae:List aa}
theorem nk {b:Nat} {m:WM} {q:WH} {u v:aa} {more:List aa} (h:Hp S w0 w (q.all b m u++(v :: more))):Hp S w0 w (q.all b m v++(u :: more)):=by
 have h:Hp S w0 w ([q.v7 b]++(u :: q.rest m)++ [v]++more):=by simpa [WH.all,WH.rest] using h
 have h:=h.Li
 have h:Hp S w0 w ([q.v7 b,v]++ [u]++q.rest m++more):=by simpa using h
 have h:=h.Li
 simpa [WH.all,WH.rest] using h
theorem pc {b:Nat} {a:WA} {m:WM} {q:WH} {u:aa} {B:List aa} {s:Sl} {xs:List PV} (bK:a.Ok) (ht:eD a.ks a.row a.m.aJ q.cD) (hk:kinds q.xs=a.ks) (hp:m.au=a.au) (hs:m.aJ=a.m.aJ)
  (h:Hp S w0 w (q.all b m u++B++ [aj s 36 2 cY xs,an (xs.map tV)])):Hp S w0 w [tW b a,bn s (xs.map bN)]:=by
 have h:=jM (rest:= [_,_]) bK ht hk hp hs h.dY
 have h:=h.dE (i:=1) (j:=2) (e:=36) (n:=2) (cells:=cY) (sub:=tV) (vis:=bN) (s:=s) (xs:=xs) (l:=xs.map bN) (by decide) rfl rfl rfl
 have h:Hp S w0 w ([tW b a,bn s (xs.map bN)]++ [ao]):=h
 exact h.front
set_option maxHeartbeats 4000000 in
theorem Du (h:Hp S w0 w ae) (i j:Nat) (mJ:i≠j) {b:Nat} {a:WA} {s:Sl} {ps:List Part} (hi:ae[i]? =some (tW b a)) (hj:ae[j]? =some (bn s ps)) (Fm: ∀x∈ps,-9223372036854775808<=x.1 /\ x.1<=9223372036854775807) (qD: ∀x∈ps,FP.dX x.2) (yG:ps.length<=1000000) {K:Int->Int->Int->World->Prop}
  (hK: ∀w',Hp S w0 w' (ae.set i (tW b (a.spawn ps).1))->K (a.spawn ps).2.1.1 (a.spawn ps).2.1.2 (a.spawn ps).2.2 w'):Ri (some ⟨b,0,none⟩) s w K:=by
 refine Gh ?_
 unfold f15
 obtain⟨O,h1,back⟩:=h.f2 mJ hi hj rfl rfl
 clear h
 obtain⟨q,bK,ht,hk,h⟩:=kC h1
 obtain⟨xs,iF,h⟩:=h.dy (i:=8) rfl
 have kD:=WA.vd bK ps qD
 have h:Hp O w w (q.all b a.m ao++ [aj s 36 2 cY xs,an (xs.map tV)]):=h
 have cU:(kinds q.xs).length=q.xs.length:=by simp [kinds]
 have gI:=bK.len
 have wo:q.xs.length<=12:=by rw [hk] at cU;omega
 have pa:=bK.four
 have h4: ∀x∈q.xs,x.2.2.length<=4:=fun x hx=>pa (x.1,x.2.2) (by rw [<-hk];exact afQ.2 ⟨x,hx,rfl⟩)
 have kS:xs.length=ps.length:=by rw [<-iF,afP]
 have fin: ∀{w':World} {a':WA},Hp O w w' [tW b a',bn s (xs.map bN)]->Hp S w0 w' (ae.set i (tW b a')):=fun{w' a'} h=>by
  rw [iF] at h
  have:=back (rest:= []) rfl rfl rfl h
  rw [afH] at this
  have e:(ae.set i (tW b a')).set j (bn s ps)=ae.set i (tW b a'):=Hp.cK (by rw [afY mJ];exact hj)
  rwa [e] at this
 have eQ:=h.len (s:=s) 8 rfl
 refine h.nw (c:= [_,_]) fun ab w1 h=>?_
 have h:=h.up
 have h:=(h.nil 2 1 iv).up
 refine⟨fun sset values t16 mm w'=> ∃(k:Nat) (p:PL),sset=aG p /\ t16=k /\ k<=xs.length /\ mm=xs.length - k /\ p.fit a.ks /\ aO a.ks (ps.drop k) p=aO a.ks ps a.emp /\ Hp O w w' (q.all b a.m ao++ [aj values 2 1 iv (flat p),ai ab 33 [.int .i64 0,.int .i64 0]]++ [aj s 36 2 cY xs,an (xs.map tV)]),⟨xs.length,0,a.emp,by unfold WA.emp;rw [Ab],rfl,by omega,rfl,tv _,rfl,by unfold WA.emp;rw [uQ];exact h⟩,?_⟩
 clear h
 rintro sset values t16 mm w2 ⟨k,p,rfl,rfl,Ei,rfl,bW,dh,h⟩
 have Ba:=hY (show p.length<=12 by rw [bW.1];omega)
 have qH:=hU p
 by_cases ar:k < xs.length
 ·refine aE (by simp;omega) ?_
  have hx:xs[k]? =some xs[k]:=by simp [ar]
  have vZ:ps[k]? =some (bN xs[k]):=by rw [<-iF,afC,hx];rfl
  generalize xs[k]=x at hx vZ
  obtain⟨kd,sv,v⟩:=x
  have vZ:ps[k]? =some (kd,v):=vZ
  have Cm:=Fm _ (afz vZ)
  dsimp only at Cm
  have xi:ps.drop k=(kd,v) :: ps.drop (k+1):=by
   have hl:=(aft.1 vZ).1
   have he:=(aft.1 vZ).2
   rw [<-he];exact agf hl
  rw [xi] at dh
  refine h.sq (s:=s) (l:=xs) (f:=cY) (n:=2) (e:=36) 10 rfl (by omega) (by rw [afu];exact hx) aW fun ad hc=>?_
  refine ep (k:=.i .i64) (x:=kd) (hc 0 (by omega)) rfl ?_
  refine j8 (k:=.sl) (x:=sv) (hc 1 (by omega)) rfl ?_
  refine h.nw (c:= [_,_]) fun pb w3 h=>?_
  have h:Hp O w w3 (q.all b a.m ao++ [aj values 2 1 iv (flat p),ai ab 33 [.int .i64 0,.int .i64 0],aj s 36 2 cY xs,an (xs.map tV)]++ [ai pb 36 [.int .i64 0,.slice none 0 0]]):=h
  have h:=h.up
  refine h.iR 8 rfl (by simp) rfl fun w4 h=>?_
  refine h.st (n:=1) 8 rfl (by simp) rfl fun w5 h=>?_
  have h:Hp O w w5 (q.all b a.m ao++ [ai pb 36 [.int .i64 kd,.slice sv.a sv.len sv.cap],aj values 2 1 iv (flat p),ai ab 33 [.int .i64 0,.int .i64 0]]++ [aj s 36 2 cY xs,an (xs.map tV)]):=h
  -- a refusal
  have bad: ∀{w6:World} {err:Int},err≠0->(aO a.ks ps a.emp).2=err->Hp O w w6 (q.all b a.m ao++ [ai pb 36 [.int .i64 kd,.slice sv.a sv.len sv.cap],aj values 2 1 iv (flat p),ai ab 33 [.int .i64 0,.int .i64 0]]++ [aj s 36 2 cY xs,an (xs.map tV)])->
    (St ⟨ab,0,none⟩ (.int .i64 0) w6 fun w=>St ((⟨ab,0,none⟩:Addr).add 1) (.int .i64 0) w fun w=>Ld (.i .i64) w ⟨ab,0,none⟩ fun(dc:Int)=>Ld (.i .i64) w ((⟨ab,0,none⟩:Addr).add 1) fun(fV:Int)=>K dc fV err w):=by
   intro w6 err aR Mz h
   refine h.iR 10 rfl (by simp) rfl fun w7 h=>?_
   refine h.st (n:=1) 10 rfl (by simp) rfl fun w8 h=>?_
   refine h.cx (k:=.i .i64) (x:=(0:Int)) 10 rfl rfl ?_
   refine h.ld (n:=1) (k:=.i .i64) (x:=(0:Int)) 10 rfl rfl ?_
   have yI:a.spawn ps=(a,(0,0),err):=by unfold WA.spawn;rw [if_pos (by rw [Mz];exact aR),Mz]
   rw [yI] at hK
   have h:Hp O w w8 (q.all b a.m ao++ [ai pb 36 [.int .i64 kd,.slice sv.a sv.len sv.cap],aj values 2 1 iv (flat p),ai ab 33 [.int .i64 0,.int .i64 0]]++ [aj s 36 2 cY xs,an (xs.map tV)]):=h
   exact hK w8 (fin (pc bK ht hk rfl rfl h))
  refine h.cx (k:=.i .i64) (x:=kd) 8 rfl rfl ?_
  refine kc h 0 2 3 (cells:= [_,_,_]) rfl rfl rfl (by omega) Cm.1 Cm.2 ?_
  rw [hk]
  cases hf:fl a.ks kd with
  | none=>
   dsimp only
   refine aE rfl (bad (by decide) ?_ h)
   rw [<-dh];unfold aO;dsimp only;rw [hf]
  | some n=>
   dsimp only
   refine aF (by simp) ?_
   refine h.cx (k:=.i .i64) (x:=kd) 8 rfl rfl ?_
   obtain⟨r,kk,rfl,Bg,zK⟩:=Aw hf
   have fv:r < p.length:=by rw [bW.1];exact(aft.1 Bg).1
   have Ax:p.length<=12:=by rw [bW.1];omega
   have er:((((r+1:Nat):Int)) - 1).toNat=r:=by omega
   have kp:=(uN (set:=aG p) (k:=r+1) qH (by omega) (by omega)).trans (nc p r)
   refine⟨by omega,?_⟩
   by_cases hh:(p.getD r none).isSome=true
   ·refine aE (by rw [kp,hh];rfl) (bad (by decide) ?_ h)
    rw [<-dh];unfold aO;dsimp only;rw [hf];dsimp only;rw [er,if_pos hh]
   ·refine aF (by rw [kp,if_neg hh];decide) ?_
    refine h.ld (n:=1) (k:=.sl) (x:=sv) 8 rfl rfl ?_
    have gi:v.length=sv.len:=by
     have:=h.n9 (i:=12) rfl
     obtain⟨O',mv⟩:=this
     obtain⟨O1,O2,g1,_⟩:=dx (k:=k) (t:=tV (((r+1:Nat):Int),sv,v)) (by rw [afC,hx];rfl) mv
     exact g1.1
    by_cases hn:v.length=n
    ·refine aF (by simp;omega) ?_
     refine h.dr fun w6 h=>?_
     refine h.cx (k:=.i .i64) (x:=((r+1:Nat):Int)) 8 rfl rfl ?_
     refine h.ld (n:=1) (k:=.sl) (x:=sv) 8 rfl rfl ?_
     refine nS h 0 2 3 (cells:= [_,_,_]) rfl rfl rfl wo h4 qH (by omega) (q:=r) (by rw [bW.1,<-hk,cU] at fv;omega) ?_
     refine⟨h.IZ (n:=1) 8 rfl rfl,?_⟩
     rw [hk]
     have da:p.getD r none=none:=by simpa using hh
     have wi:=bW.at (q:=r) (by omega)
     have Y1:=fR pa (aG p) r
     have bF:=bW.all
     have MA:=fR pa (aG p) a.ks.length
     have QA:=pa _ (afz Bg)
     have hle:eL a.ks (aG p) r<=(flat p).length:=by
      have qD:p[r]? =some none:=by
       have:p[r]? =some p[r]:=by simp [fv]
       rw [this];rw [afO,this] at da;simpa using da
      rw [wi,fh qD];simp
     have h:=h.pick (i:=12) (k:=k) (t:=tV (((r+1:Nat):Int),sv,v)) rfl (by rw [afC,hx];rfl) rfl
     refine sw h 9 13 (by decide) (s:=values) (v:=sv) (l:=flat p) (xs:=v) rfl rfl hle (by omega) fun s' w7 h=>?_
     rw [<-bW.ins fv da v] at h
     have Lr:k < (xs.map tV).length:=by simpa using ar
     have h:=h.mT (i:=12) (j:=13) (k:=k) (ts:=(xs.map tV).set k ao) (t:=tV (((r+1:Nat):Int),sv,v)) (by decide) rfl rfl (by rw [afX Lr]) rfl
     rw [agz] at h
     have eb:(xs.map tV).set k (tV (((r+1:Nat):Int),sv,v))=xs.map tV:=Hp.cK (by rw [afC,hx];rfl)
     rw [eb] at h
     have h:Hp O w w7 (q.all b a.m ao++ [ai pb 36 [.int .i64 ((r+1:Nat):Int),.slice sv.a sv.len sv.cap],aj s' 2 1 iv (flat (p.set r (some v))),ai ab 33 [.int .i64 0,.int .i64 0],aj s 36 2 cY xs,an (xs.map tV)]++ [ao]):=h
     have h:=h.front
     refine h.cx (k:=.i .i64) (x:=((r+1:Nat):Int)) 8 rfl rfl ?_
     refine⟨by omega,xs.length - (k+1),by omega,k+1,p.set r (some v),uP Ax fv v,by rw [aB (by omega) (by omega)];omega,by omega,rfl,bW.set Bg (by rw [zK];exact hn),?_,?_⟩
     ·rw [<-dh]
      conv=>rhs;unfold aO
      dsimp only
      rw [hf]
      dsimp only
      rw [er,if_neg hh,if_neg (by simpa using hn)]
     ·have h:Hp O w w7 (q.all b a.m ao++ [ai pb 36 [.int .i64 ((r+1:Nat):Int),.slice sv.a sv.len sv.cap]]++ [aj s' 2 1 iv (flat (p.set r (some v))),ai ab 33 [.int .i64 0,.int .i64 0],aj s 36 2 cY xs,an (xs.map tV)]):=h
      exact h.dY
    ·refine aE (by simp;omega) (bad (by decide) ?_ h)
     rw [<-dh];unfold aO;dsimp only;rw [hf];dsimp only;rw [er,if_neg hh,if_pos hn]
 ·refine aF (by simp;omega) ?_
  have dh:(p,(0:Int))=aO a.ks ps a.emp:=by
   rw [agq (by omega)] at dh
   exact dh
  refine bg ?_
  refine h.ld (n:=1) (k:=.p) (x:=some ⟨q.pb,0,none⟩) 0 rfl rfl ?_
  refine FI.Hm h 4 (m:=a.au) bK.u6 rfl fun w3 h=>?_
  have h:Hp O w w3 (q.all b { a.m with au:=a.au.bu.1} ao++ [aj values 2 1 iv (flat p),ai ab 33 [.int .i64 0,.int .i64 0],aj s 36 2 cY xs,an (xs.map tV)]):=h
  have HP:(aO a.ks ps a.emp).2=0:=by rw [<-dh]
  have HQ:(aO a.ks ps a.emp).1=p:=by rw [<-dh]
  refine h.nw (c:= [_,_]) fun eb w4 h=>?_
  have h:=h.up
  refine h.iR 8 rfl (by simp) rfl fun w5 h=>?_
  refine h.st (n:=1) 8 rfl (by simp) rfl fun w6 h=>?_
  have yI:a.spawn ps=if a.au.bu.2.2≠0 then (a,(0,0),a.au.bu.2.2) else (⟨a.ks,a.au.bu.1,aH a.row a.au.bu.2.1 (some p)⟩,a.au.bu.2.1,0):=by
   unfold WA.spawn;rw [if_neg (by rw [HP];simp),HQ]
  by_cases hb:a.au.bu.2.2=0
  ·rw [if_neg (by simpa using hb)] at yI
   rw [yI] at hK kD
   dsimp only at hK kD
   obtain⟨HR,HS⟩:=ry bK hb
   generalize a.au.bu.2.1=e at hK HR kD h ⊢
   generalize a.au.bu.1=mj at hK kD h ⊢
   refine aF (by rw [hb];simp) ?_
   have h:Hp O w w6 (q.all b { a.m with au:=mj} ao++ [ai eb 33 [.int .i64 e.1,.int .i64 e.2]]++ [aj values 2 1 iv (flat p)]++ [ai ab 33 [.int .i64 0,.int .i64 0],aj s 36 2 cY xs,an (xs.map tV)]):=h
   have h:=h.Li
   refine h.cx (k:=.i .i64) (x:=e.1) 9 rfl rfl ?_
   refine h.ld (n:=1) (k:=.i .i64) (x:=e.2) 9 rfl rfl ?_
   have h:Hp O w w6 (q.all b { a.m with au:=mj} ao++(aj values 2 1 iv (flat p) :: [ai eb 33 [.int .i64 e.1,.int .i64 e.2],ai ab 33 [.int .i64 0,.int .i64 0],aj s 36 2 cY xs,an (xs.map tV)])):=h
   have h:=nk h
   refine tx h (row:=a.row) (e:=e) (p:=p) (by rw [hk];exact ht) (by rw [hk];exact bK.may) HR (by rw [hk];exact bW) HS Hp.bX fun T' w7 D3 h=>?_
   refine h.cx (k:=.i .i64) (x:=e.1) 9 rfl rfl ?_
   refine h.ld (n:=1) (k:=.i .i64) (x:=e.2) 9 rfl rfl ?_
   refine h.iR 10 rfl (by simp) rfl fun w8 h=>?_
   refine h.st (n:=1) 10 rfl (by simp) rfl fun w9 h=>?_
   refine h.cx (k:=.i .i64) (x:=e.1) 10 rfl rfl ?_
   refine h.ld (n:=1) (k:=.i .i64) (x:=e.2) 10 rfl rfl ?_
   refine hK w9 (fin ?_)
   refine pc (B:= [ao,ai eb 33 [.int .i64 e.1,.int .i64 e.2],ai ab 33 [.int .i64 e.1,.int .i64 e.2]]) (m:={ a.m with au:=mj,aJ:=aH a.m.aJ e (some (aG p))}) (q:={ q with T:=T'}) (u:=aj values 2 1 iv (flat p)) kD ?_ hk rfl ?_ h
   ·show eD a.ks (aH a.row e (some p)) (fun x=>(aH a.row e (some p) x).map aG) _
    rw [gG,<-hk]
    exact D3
   ·exact(gG a.row e (some p)).symm
  ·rw [if_pos hb] at yI
   have cX:=(nj bK.u6).1 hb
   rw [yI] at hK
   rw [cX] at hK h ⊢
   refine aE (by simp) ?_
   refine h.iR 10 rfl (by simp) rfl fun w8 h=>?_
   refine h.st (n:=1) 10 rfl (by simp) rfl fun w9 h=>?_
   refine h.cx (k:=.i .i64) (x:=(0:Int)) 10 rfl rfl ?_
   refine h.ld (n:=1) (k:=.i .i64) (x:=(0:Int)) 10 rfl rfl ?_
   have h:Hp O w w9 (q.all b a.m ao++ [ai eb 33 [.int .i64 0,.int .i64 0],aj values 2 1 iv (flat p),ai ab 33 [.int .i64 0,.int .i64 0]]++ [aj s 36 2 cY xs,an (xs.map tV)]):=h
   exact hK w9 (fin (pc bK ht hk rfl rfl h))
end
end Go.Proofs.YtcccjgmekakabaaGreat.FW
end

section
namespace Go.Proofs.YtcccjgmekakabaaGreat.FW
open F
open Go Go.Den Go.Proofs
open FI (af ay)
open FT (az di bM cc dz aP gm bD iv aq)
def WA.put (a:WA) (e:bM) (p:PL):WA:=⟨a.ks,a.au,aH a.row e (some p)⟩
def WA.ask (a:WA) (e:bM) (kind:Int):(PL×Nat×Nat)×Int:=match a.row e with
 | none=>(([],0,0),41)
 | some p=>match fl a.ks kind with
  | none=>(([],0,0),60)
  | some n=>((p,(kind - 1).toNat,n),0)
def WA.add (a:WA) (e:bM) (x:Part):WA×Int:=
 if (a.ask e x.1).2≠0 then (a,(a.ask e x.1).2) else
 if ((a.ask e x.1).1.1.getD (a.ask e x.1).1.2.1 none).isSome=true then (a,61) else
 if x.2.length≠(a.ask e x.1).1.2.2 then (a,63) else (a.put e ((a.ask e x.1).1.1.set (a.ask e x.1).1.2.1 (some x.2)),0)
theorem HT {a:WA} {e:bM} {kind:Int} (h:a.row e=none):a.ask e kind=(([],0,0),41):=by unfold WA.ask;rw [h]
theorem HU {a:WA} {e:bM} {kind:Int} {p:PL} (h:a.row e=some p) (hf:fl a.ks kind=none):a.ask e kind=(([],0,0),60):=by
 unfold WA.ask;rw [h];dsimp only;rw [hf]
theorem HV {a:WA} {e:bM} {p:PL} {i:Nat} {k:ByteArray×List ByteArray} (h:a.row e=some p) (hk:a.ks[i]? =some k):a.ask e ((i+1:Nat):Int)=((p,i,k.2.length),0):=by
 have ee:fl a.ks ((i+1:Nat):Int)=some k.2.length:=by
  unfold fl
  rw [if_pos (by omega),show (((i+1:Nat):Int) - 1).toNat=i by omega,hk];rfl
 unfold WA.ask;rw [h];dsimp only;rw [ee,show (((i+1:Nat):Int) - 1).toNat=i by omega]
theorem WA.QB {a:WA} (h:a.Ok) {e:bM} (he:(a.row e).isSome=true) {p:PL} (hp:FP.dX (flat p)):(a.put e p).Ok:=by
 refine⟨h.Ck,h.aA,h.may,fun x=>?_,fun x p' hx=>?_⟩
 ·show (aH a.row e (some p) x).isSome=a.au.is x.1 x.2
  rw [<-h.Dq x]
  unfold aH
  split
  ·rename_i hx;rw [hx,he];rfl
  ·rfl
 ·have hx:aH a.row e (some p) x=some p':=hx
  unfold aH at hx
  split at hx
  ·obtain rfl:=afK hx;exact hp
  ·exact h.RB x p' hx
theorem Ls (row:bM->Option PL) (e:bM) (o o':Option PL):aH (aH row e o) e o'=aH row e o':=by
 funext x
 unfold aH
 split <;> rfl
theorem Ay (aJ:bM->Option Int) (e:bM) (o o':Option Int):aH (aH aJ e o) e o'=aH aJ e o':=by
 funext x
 unfold aH
 split <;> rfl
theorem HW {a:WA} (h:a.Ok) {e:bM} (he:(a.row e).isSome=true): ∀L:List bM,L.Nodup->(∀x∈L,(aH a.row e none x).isSome=true)->L.length < 200:=by
 intro L bE hL
 have uR: ∀x∈L,x≠e /\ (a.row x).isSome=true:=fun x hx=>by
  have:=hL x hx
  unfold aH at this
  split at this
  ·cases this
  ·rename_i aR;exact⟨aR,this⟩
 have:=u7 h.u6 (L:=e :: L) (by
  rw [ags]
  exact⟨fun hm=>(uR e hm).1 rfl,bE⟩) (fun x hx=>by
  rw [<-h.Dq x]
  rcases af1.1 hx with rfl | hx
  ·exact he
  ·exact(uR x hx).2)
 simp only [af6] at this
 omega
section
variable {S:List Nat} {w0 w:World} {ae:List aa}
set_option maxHeartbeats 4000000 in
theorem MB (h:Hp S w0 w ae) (i j:Nat) (mJ:i≠j) {b:Nat} {a:WA} {e:bM} {kind:Int} {sv:Sl} {v:List Int} (hi:ae[i]? =some (tW b a)) (hj:ae[j]? =some (aj sv 2 1 iv v)) (k1: -9223372036854775808<=kind) (k2:kind<=9223372036854775807) (xD:FP.dX v) {K:Int->World->Prop}
  (hK: ∀w',Hp S w0 w' (ae.set i (tW b (a.add e (kind,v)).1))->K (a.add e (kind,v)).2 w'):U2 (some ⟨b,0,none⟩) e.1 e.2 kind sv w K:=by
 refine Of ?_
 unfold f16
 obtain⟨O,h1,back⟩:=h.f2 mJ hi hj rfl rfl
 clear h
 obtain⟨q,bK,ht,hk,h⟩:=kC h1
 have cU:(kinds q.xs).length=q.xs.length:=by simp [kinds]
 have gI:=bK.len
 have wo:q.xs.length<=12:=by rw [hk] at cU;omega
 have pa:=bK.four
 have h4: ∀x∈q.xs,x.2.2.length<=4:=fun x hx=>pa (x.1,x.2.2) (by rw [<-hk];exact afQ.2 ⟨x,hx,rfl⟩)
 have fin: ∀{w':World} {a':WA},Hp O w w' [tW b a',aj sv 2 1 iv v]->Hp S w0 w' (ae.set i (tW b a')):=fun{w' a'} h=>by
  have:=back (rest:= []) rfl rfl rfl h
  rw [afH] at this
  have e:(ae.set i (tW b a')).set j (aj sv 2 1 iv v)=ae.set i (tW b a'):=Hp.cK (by rw [afY mJ];exact hj)
  rwa [e] at this
 have gi:=h.len (s:=sv) 8 rfl
 refine h.nw (c:= [_,_]) fun eb w1 h=>?_
 have h:=h.up
 refine h.nw (c:= [_,_]) fun pb w2 h=>?_
 have h:=h.up
 refine h.cx (k:=.i .i64) (x:=e.1) 9 rfl rfl ?_
 refine h.ld (n:=1) (k:=.i .i64) (x:=e.2) 9 rfl rfl ?_
 refine h.cx (k:=.i .i64) (x:=kind) 8 rfl rfl ?_
 have same: ∀{w3:World},Hp O w w3 (q.all b a.m ao++(ai pb 36 [.int .i64 kind,.slice sv.a sv.len sv.cap] :: ai eb 33 [.int .i64 e.1,.int .i64 e.2] :: [aj sv 2 1 iv v]))->Hp S w0 w3 (ae.set i (tW b a)):=fun{w3} h=>by
  have h:Hp O w w3 (q.all b a.m ao++ [ai pb 36 [.int .i64 kind,.slice sv.a sv.len sv.cap],ai eb 33 [.int .i64 e.1,.int .i64 e.2]]++ [aj sv 2 1 iv v]):=h
  exact fin (jM (rest:= [_]) bK ht hk rfl rfl h.dY)
 refine Lp h bK ht hk k1 k2 fun w3 h=>⟨fun hr=>?_,fun p hr hf=>?_,fun p r k hr TN Bg=>?_⟩
 ·have hg:a.add e (kind,v)=(a,41):=by unfold WA.add;rw [HT hr,if_pos (by decide)]
  rw [hg] at hK
  exact aE rfl (hK w3 (same h))
 ·have hg:a.add e (kind,v)=(a,60):=by unfold WA.add;rw [HU hr hf,if_pos (by decide)]
  rw [hg] at hK
  exact aE rfl (hK w3 (same h))
 ·subst TN
  have QC:=HV (a:=a) (e:=e) hr Bg
  refine aF (by simp) ?_
  have bW:=ht.fit e p hr
  have fv:r < p.length:=by rw [bW.1];exact(aft.1 Bg).1
  have Ax:p.length<=12:=by rw [bW.1];omega
  have Ba:=hY Ax
  have qH:=hU p
  by_cases hh:(p.getD r none).isSome=true
  ·have hg:a.add e (((r+1:Nat):Int),v)=(a,61):=by unfold WA.add;dsimp only;rw [QC,if_neg (by simp),if_pos hh]
   rw [hg] at hK
   exact aE hh (hK w3 (same h))
  ·refine aF hh ?_
   refine h.ld (n:=1) (k:=.sl) (x:=sv) 8 rfl rfl ?_
   by_cases hn:v.length=k.2.length
   ·refine aF (by simp;omega) ?_
    have hg:a.add e (((r+1:Nat):Int),v)=(a.put e (p.set r (some v)),0):=by
     unfold WA.add;dsimp only;rw [QC,if_neg (by simp),if_neg hh,if_neg (by simpa using hn)]
    rw [hg] at hK
    have vW:(a.row e).isSome=true:=by rw [hr];rfl
    have kD:=WA.QB bK vW (Au (bK.RB e p hr) r xD)
    refine h.dr fun w4 h=>?_
    refine h.cx (k:=.i .i64) (x:=e.1) 9 rfl rfl ?_
    refine h.ld (n:=1) (k:=.i .i64) (x:=e.2) 9 rfl rfl ?_
    refine h.cx (k:=.i .i64) (x:=((r+1:Nat):Int)) 8 rfl rfl ?_
    refine h.ld (n:=1) (k:=.sl) (x:=sv) 8 rfl rfl ?_
    refine Ds h (row:=a.row) (p:=p) (by rw [hk];exact ht) hr fun s T' w5 D3 h=>?_
    have h:=h.up
    refine⟨h.IZ (n:=1) 9 rfl rfl,h.GJ 9 rfl rfl,?_⟩
    refine nS h 0 2 3 (cells:= [_,_,_]) rfl rfl rfl wo h4 qH (by omega) (q:=r) (by show r<=q.xs.length;rw [bW.1,<-hk,cU] at fv;omega) ?_
    refine⟨h.IZ (n:=1) 9 rfl rfl,?_⟩
    show Rm _ ((eL (kinds q.xs) (aG p) r:Nat):Int) _ _ _
    rw [hk]
    have da:p.getD r none=none:=by simpa using hh
    have wi:=bW.at (q:=r) (by omega)
    have bF:=bW.all
    have MA:=fR pa (aG p) a.ks.length
    have QA:=pa _ (afz Bg)
    have hle:eL a.ks (aG p) r<=(flat p).length:=by
     have qD:p[r]? =some none:=by
      have:p[r]? =some p[r]:=by simp [fv]
      rw [this];rw [afO,this] at da;simpa using da
     rw [wi,fh qD];simp
    refine sw h 8 11 (by decide) (s:=s) (v:=sv) (l:=flat p) (xs:=v) rfl rfl hle (by omega) fun s' w6 h=>?_
    rw [<-bW.ins fv da v] at h
    refine h.dr fun w7 h=>?_
    refine h.cx (k:=.i .i64) (x:=e.1) 10 rfl rfl ?_
    refine h.ld (n:=1) (k:=.i .i64) (x:=e.2) 10 rfl rfl ?_
    refine h.cx (k:=.i .i64) (x:=((r+1:Nat):Int)) 9 rfl rfl ?_
    refine⟨by omega,?_⟩
    rw [uP Ax fv v]
    have h:Hp O w w7 (({ q with T:=T'}:WH).all b { a.m with aJ:=aH a.m.aJ e none} ao++(aj s' 2 1 iv (flat (p.set r (some v))) :: [ai pb 36 [.int .i64 ((r+1:Nat):Int),.slice sv.a sv.len sv.cap],ai eb 33 [.int .i64 e.1,.int .i64 e.2],aj sv 2 1 iv v])):=h
    have h:=nk h
    have lf:PL.fit a.ks (p.set r (some v)):=bW.set Bg hn
    refine tx h (row:=aH a.row e none) (e:=e) (p:=p.set r (some v)) D3 (by show cC (kinds q.xs);rw [hk];exact bK.may) (by unfold aH;rw [if_pos rfl]) (by show PL.fit (kinds q.xs) _;rw [hk];exact lf) (HW bK vW) Hp.bX fun T2 w8 UY h=>?_
    have h:Hp O w w8 (({ q with T:=T2}:WH).all b { a.m with aJ:=aH (aH a.m.aJ e none) e (some (aG (p.set r (some v))))} (aj s' 2 1 iv (flat (p.set r (some v))))++ [ao,ai pb 36 [.int .i64 ((r+1:Nat):Int),.slice sv.a sv.len sv.cap],ai eb 33 [.int .i64 e.1,.int .i64 e.2]]++ [aj sv 2 1 iv v]):=h
    rw [Ls] at UY
    refine hK w8 (fin (jM (rest:= [_]) (m:={ a.m with aJ:=aH (aH a.m.aJ e none) e (some (aG (p.set r (some v))))}) (q:={ q with T:=T2}) kD ?_ hk rfl ?_ h.dY))
    ·show eD a.ks (aH a.row e (some (p.set r (some v)))) (fun x=>(aH a.row e (some (p.set r (some v))) x).map aG) _
     rw [gG,<-hk]
     have:aH (aH a.m.aJ e none) e (some (aG (p.set r (some v))))=aH (fun x=>(a.row x).map aG) e ((some (p.set r (some v))).map aG):=by rw [Ay];rfl
     rw [<-this]
     exact UY
    ·show aH (aH a.m.aJ e none) e _=_
     rw [Ay]
     exact(gG a.row e (some (p.set r (some v)))).symm
   ·have hg:a.add e (((r+1:Nat):Int),v)=(a,63):=by
     unfold WA.add;dsimp only;rw [QC,if_neg (by simp),if_neg hh,if_pos hn]
    rw [hg] at hK
    exact aE (by simp;omega) (hK w3 (same h))
end
end Go.Proofs.YtcccjgmekakabaaGreat.FW
end

section
namespace Go.Proofs.YtcccjgmekakabaaGreat.FW
open F
open Go Go.Den Go.Proofs
open FI (af ay)
open FT (az di bM cc dz aP gm bD iv aq)
def WA.set (a:WA) (e:bM) (x:Part):WA×Int:=
 if (a.ask e x.1).2≠0 then (a,(a.ask e x.1).2) else
 if (a.ask e x.1).1.1.getD (a.ask e x.1).1.2.1 none=none then (a,62) else
 if x.2.length≠(a.ask e x.1).1.2.2 then (a,63) else (a.put e ((a.ask e x.1).1.1.set (a.ask e x.1).1.2.1 (some x.2)),0)
section
variable {S:List Nat} {w0 w:World} {ae:List aa}
end
end Go.Proofs.YtcccjgmekakabaaGreat.FW
end

section
namespace Go.Proofs.YtcccjgmekakabaaGreat.FW
open F
open Go Go.Den Go.Proofs
open FI (af ay)
open FT (az di bM cc dz aP gm bD iv aq)
open FP (aV eI bI bS tB aT cw dX)
def lW (p:PL):List Int:=aV (aG p)++bI (flat p)
def WA.snap (a:WA):List Int:=bS a.au.aM++bS a.au.free++a.all.flatMap fun e=>lW ((a.row e).getD [])
theorem fH (l:List Int):(bS l).length<=21+10*l.length:=by
 have h1:=aT l.length
 have h2:=FP.rm l
 unfold bS
 rw [afw]
 split
 ·simp only [agU];omega
 ·omega
theorem ve (p:PL): ∀k,k<=p.length->(aY p k).flatMap (fun x=>bI x.2)=bI (flat (p.take k))
 | 0,_=>by simp [aY,flat,bI]
 | k+1,hk=>by
  have ih:=ve p k (by omega)
  have hp:p[k]? =some p[k]:=by simp [show k < p.length by omega]
  rw [aY,af5,ih,ri hp]
  have ha: ∀a b:List Int,bI (a++b)=bI a++bI b:=fun a b=>by unfold bI;rw [af5]
  rw [ha]
  congr 1
  have:p.getD k none=p[k]:=by rw [afO,hp];rfl
  rw [this]
  cases p[k] with
  | none=>rfl
  | some v=>simp
theorem xE (p:PL):(partsOf p).flatMap (fun x=>bI x.2)=bI (flat p):=by
 unfold partsOf
 rw [ve p p.length (afV _),agJ]
section
variable {S:List Nat} {w0 w:World} {ae:List aa}
theorem vf (h:Hp S w0 w ae) (j:Nat) {u:aa} {s:Sl} {l:List Int} (hj:ae[j]? =some u) (hu:Hp.Reads u s 1 iv l) (hl:l.length<=1000000000) {K:Sl->World->Prop} (hK: ∀r w',Hp S w0 w' (ae++ [aj r 2 1 iv l])->K r w'):U6 s w K:=by
 refine OA ?_
 unfold f38
 obtain⟨inf,q1,q2,q3,q4⟩:=FT.jC
 have QD:=(aft.1 hj).1
 have eQ:=h.df j (by rw [hj];rfl) hu
 have h:=h.nil 2 1 iv
 refine⟨fun out t8 mm w'=> ∃k:Nat,t8=k /\ k<=l.length /\ mm=l.length - k /\ Hp S w0 w' (ae++ [aj out 2 1 iv (l.take k)]),⟨l.length,0,rfl,by omega,rfl,h⟩,?_⟩
 clear h
 rintro out t8 mm w2 ⟨k,rfl,hk,rfl,h⟩
 have kA:=h.len (s:=out) ae.length (by rw [afU];rfl)
 rw [afM] at kA
 by_cases ar:k < l.length
 ·refine aE (by simp;omega) ?_
  refine h.dd (k:=.i .i64) (u:=u) (y:=l[k]) (x:=l[k]) j (by rw [afx QD,hj];rfl) hu (by omega) (by simp [ar]) aq rfl ?_
  refine h.bL ae.length (l[k]) (c:= [_]) afU aq FT.eO q1 q3 q2 rfl rfl (by simp [iv,Value.oneCell']) (by rw [q4];omega) (by omega) fun bH w3 h _ _=>?_
  rw [ch,<-afG ar] at h
  exact⟨l.length - (k+1),by omega,k+1,by rw [aB (by omega) (by omega)];omega,by omega,rfl,h⟩
 ·refine aF (by simp;omega) ?_
  rw [afE (by omega)] at h
  exact hK out w2 h
theorem lX {m:af} (hm:m.Ok):dX m.aM /\ m.aM.length<=200 /\ dX m.free /\ m.free.length<=200:=by
 have yz:=hm.fe
 refine⟨fun x hx=>?_,by unfold af.aM;rw [List.length_mapIdx];exact yz,fun x hx=>?_,FI.Ok.yB hm⟩
 ·unfold af.aM at hx
  obtain⟨i,hi,rfl⟩:=List.mem_mapIdx.1 hx
  have:=hm.ah _ (afR hi)
  split <;> omega
 ·have:=hm.free x hx
  omega
set_option maxHeartbeats 4000000 in
theorem Cn {b:Nat} {a:WA} {q:WH} {u:aa} (h:Hp S w0 w (q.all b a.m u)) (bK:a.Ok) (ht:eD a.ks a.row a.m.aJ q.cD) (hk:kinds q.xs=a.ks) {K:Sl->World->Prop}
  (hK: ∀s w',Hp S w0 w' (q.all b a.m u++ [tB s a.snap])->K s w'):LZ (some ⟨b,0,none⟩) w K:=by
 refine N8 ?_
 unfold f11
 obtain⟨Hr,z1,z2,z3,z4⟩:=FT.lN
 obtain⟨g1,g2,g3,g4⟩:=lX bK.u6
 have Y2:=bK.len
 have pa:=bK.four
 refine bg ?_
 refine h.ld (n:=1) (k:=.p) (x:=some ⟨q.pb,0,none⟩) 0 rfl rfl ?_
 refine FI.Lh h 4 (m:=a.au) bK.u6 rfl fun gs fs w1 h=>?_
 have h:Hp S w0 w1 (q.all b a.m u++ [aj gs 3 1 iv a.au.aM,aj fs 3 1 iv a.au.free]):=h
 refine vf h 8 (u:=aj gs 3 1 iv a.au.aM) rfl Hp.bX (by omega) fun r w2 h=>?_
 have h:=h.nil 5 1 eC
 have h:Hp S w0 w2 (q.all b a.m u++ [aj gs 3 1 iv a.au.aM,aj fs 3 1 iv a.au.free,aj r 2 1 iv a.au.aM,tB ⟨none,0,0⟩ []]):=by
  simpa using h
 have l1:=fH a.au.aM
 have l2:=fH a.au.free
 refine FP.sF h 11 10 rfl Hp.bX rfl Hp.bX g1 (by omega) (by simp) fun r2 w3 h=>?_
 rw [aga] at h
 have h:Hp S w0 w3 (q.all b a.m u++ [aj gs 3 1 iv a.au.aM,aj fs 3 1 iv a.au.free,aj r 2 1 iv a.au.aM,tB ⟨none,0,0⟩ []]++ [tB r2 (bS a.au.aM)]):=h
 refine vf h 9 (u:=aj fs 3 1 iv a.au.free) rfl Hp.bX (by omega) fun r3 w4 h=>?_
 refine FP.sF h 12 13 rfl Hp.bX rfl Hp.bX g3 (by omega) (by omega) fun b0 w5 h=>?_
 have h:Hp S w0 w5 (q.all b a.m u++ [aj gs 3 1 iv a.au.aM,aj fs 3 1 iv a.au.free,aj r 2 1 iv a.au.aM,tB ⟨none,0,0⟩ [],tB r2 (bS a.au.aM),aj r3 2 1 iv a.au.free]++ [tB b0 (bS a.au.aM++bS a.au.free)]):=h
 have h:=h.dY
 refine HN h bK ht hk fun r4 w6 h=>?_
 obtain⟨xs,iF,h⟩:=h.dy (i:=9) (e:=75) (n:=3) (cells:=rdv) (sub:=gJ) (vis:=fj) (s:=r4) (l:=a.rows) rfl
 obtain⟨pre,wC⟩: ∃pre,pre=bS a.au.aM++bS a.au.free:=⟨_,rfl⟩
 have aaF:pre.length<=5000:=by rw [wC,afw];omega
 have h:Hp S w0 w6 (q.all b a.m u++ [tB b0 (pre++ []),aj r4 75 3 rdv xs,an (xs.map gJ)]):=by
  rw [afH,wC];exact h
 have fv:=h.len (s:=r4) 9 rfl
 have kS:xs.length=a.all.length:=by
  have:=congrArg List.length iF
  unfold WA.rows at this
  simpa using this
 have gI:a.all.length<=200:=by
  have h1:=af.gB a.au a.au.ah.length
  have h2:=bK.u6.fe
  show (a.au.eA a.au.ah.length).length<=200
  omega
 obtain⟨acc,ED⟩: ∃acc:Nat->List Int,acc=fun k=>(a.all.take k).flatMap fun e=>lW ((a.row e).getD []):=⟨_,rfl⟩
 have TO: ∀k,(acc k).length<=490*k:=by
  intro k
  rw [ED]
  induction k with
  | zero=>simp
  | succ k ih=>
   dsimp only at ih ⊢
   by_cases cU:k < a.all.length
   ·rw [afG cU,af5,afw]
    obtain⟨p,hr⟩:=hH bK (afR cU)
    simp only [age,aij,afH,hr]
    unfold lW
    rw [afw]
    have e1:=aT (aG p)
    have e2:=cw (flat p)
    have e3:=(ht.fit _ p hr).all
    have e4:=fR pa (aG p) a.ks.length
    have e5:(aV (aG p)).length+(bI (flat p)).length<=490:=by omega
    have e6:490*(k+1)=490*k+490:=rfl
    rw [e6]
    exact Nat.add_le_add ih e5
   ·rw [afE (by omega)]
    rw [afE (by omega)] at ih
    omega
 refine⟨fun b2 t29 mm w'=> ∃k:Nat,t29=k /\ k<=xs.length /\ mm=xs.length - k /\ Hp S w0 w' (q.all b a.m u++ [tB b2 (pre++acc k),aj r4 75 3 rdv xs,an (xs.map gJ)]),⟨xs.length,0,rfl,by omega,rfl,by rw [ED];exact h⟩,?_⟩
 clear h
 rintro b2 t29 mm w7 ⟨k,rfl,Ei,rfl,h⟩
 by_cases ar:k < xs.length
 ·refine aE (by simp;omega) ?_
  have hx:xs[k]? =some xs[k]:=by simp [ar]
  have hak:a.all[k]? =some (a.all[k]'(by omega)):=by simp [show k < a.all.length by omega]
  have Lt:fj xs[k]=a.k9 (a.all[k]'(by omega)):=by
   have h1:(xs.map fj)[k]? =some (fj xs[k]):=by rw [afC,hx];rfl
   rw [iF] at h1
   unfold WA.rows at h1
   rw [afC,hak] at h1
   exact(afK h1).symm
  obtain⟨p,hr⟩:=hH bK (afR (show k < a.all.length by omega))
  have me:acc (k+1)=acc k++(aV (aG p)++bI (flat p)):=by
   rw [ED]
   dsimp only
   rw [afG (show k < a.all.length by omega),af5]
   simp only [age,aij,afH,hr]
   rfl
  generalize xs[k]=x at hx Lt
  generalize a.all[k]'(by omega)=e0 at hak Lt hr
  obtain⟨e,ps,parts⟩:=x
  unfold fj WA.k9 at Lt
  obtain⟨rfl,mB⟩:=agK Lt
  rw [hr] at mB
  have mB:parts=partsOf p:=mB
  subst mB
  have bW:=ht.fit e p hr
  have Ax:p.length<=12:=by rw [bW.1];omega
  have Ba:=hY Ax
  have qH:=hU p
  have mw:a.m.aJ e=some (aG p):=by show (a.row e).map aG=_;rw [hr];rfl
  have Az:=bK.RB e p hr
  have aaH:(flat p).length<=48:=by
   have:=fR pa (aG p) a.ks.length
   rw [bW.all];omega
  have ac3:=TO k
  refine h.sq (s:=r4) (l:=xs) (f:=rdv) (n:=3) (e:=75) 9 rfl (by omega) (by rw [afu];exact hx) cd fun ad hc=>?_
  refine ep (k:=.i .i64) (x:=e.1) (hc 0 (by omega)) rfl ?_
  refine j8 (k:=.i .i64) (x:=e.2) (hc 1 (by omega)) rfl ?_
  refine j8 (k:=.sl) (x:=ps) (hc 2 (by omega)) rfl ?_
  refine h.nw (c:= [_,_,_]) fun rb w8 h=>?_
  have h:=h.up
  refine h.iR 8 rfl (by simp) rfl fun w9 h=>?_
  refine h.st (n:=1) 8 rfl (by simp) rfl fun pj h=>?_
  refine h.st (n:=2) 8 rfl (by simp) rfl fun wx h=>?_
  have h:Hp S w0 wx (q.all b a.m u++(ai rb 75 [.int .i64 e.1,.int .i64 e.2,.slice ps.a ps.len ps.cap] :: [tB b2 (pre++acc k),aj r4 75 3 rdv xs,an (xs.map gJ)])):=h
  refine h.dr fun z9 h=>?_
  refine bg ?_
  refine h.ld (n:=2) (k:=.m) (x:=some q.ms) 0 rfl rfl ?_
  refine h.cx (k:=.i .i64) (x:=e.1) 8 rfl rfl ?_
  refine h.ld (n:=1) (k:=.i .i64) (x:=e.2) 8 rfl rfl ?_
  refine h.lS (kd:=.i .i64) (vk:=id) (z:=(0:Int)) (ek:=cc) (ev:=Value.int .i64) (g:=a.m.aJ) (k:=e) 5 rfl rfl xk bD z1 z2 (fun _=>rfl) ?_
  rw [mw]
  dsimp only [id_eq]
  rw [FP.kH,Int.emod_eq_of_lt qH (by omega)]
  refine FP.Ak h 9 rfl Hp.bX qH (by omega) (by rw [afw];omega) fun b3 MC h=>?_
  have h:=h.up
  have h:Hp S w0 MC ((q.all b a.m u++ [tB b3 (pre++acc k++aV (aG p)),ai rb 75 [.int .i64 e.1,.int .i64 e.2,.slice ps.a ps.len ps.cap]])++ [tB b2 (pre++acc k)]++ [aj r4 75 3 rdv xs,an (xs.map gJ)]):=h
  have h:=h.dY
  refine h.ld (n:=2) (k:=.sl) (x:=ps) 9 rfl rfl ?_
  have h:=h.pick (i:=11) (k:=k) (t:=gJ (e,ps,partsOf p)) rfl (by rw [afC,hx];rfl) rfl
  obtain⟨ys,wP,h⟩:=h.dy (i:=12) (e:=36) (n:=2) (cells:=cY) (sub:=tV) (vis:=bN) (s:=ps) (l:=partsOf p) rfl
  obtain⟨rz,HX⟩: ∃rz,rz=pre++acc k++aV (aG p):=⟨_,rfl⟩
  have Y3:rz.length<=200000:=by
   have:=aT (aG p)
   rw [HX,afw,afw];omega
  obtain⟨T',Ts⟩: ∃T',T'=an ((xs.map gJ).set k ao):=⟨_,rfl⟩
  have h:Hp S w0 MC (q.all b a.m u++ [tB b3 (rz++ []),ai rb 75 [.int .i64 e.1,.int .i64 e.2,.slice ps.a ps.len ps.cap],aj r4 75 3 rdv xs,T',aj ps 36 2 cY ys,an (ys.map tV)]):=by
   rw [afH,HX,Ts];exact h
  have Y4:=h.len (s:=ps) 12 rfl
  have vI:ys.length=(partsOf p).length:=by rw [<-wP,afP]
  have aaI:(partsOf p).length<=12:=by have:=g9 p p.length;unfold partsOf;omega
  have QE:=xE p
  have RC: ∀y∈partsOf p,y.2.length<=48 /\ dX y.2:=by
   intro y hy
   have: ∀k,∀y∈aY p k,some y.2∈p:=by
    intro k
    induction k with
    | zero=>simp [aY]
    | succ k ih=>
     intro y hy
     rw [aY] at hy
     rcases afB.1 hy with hy | hy
     ·exact ih y hy
     ·split at hy
      ·rename_i v hv
       simp only [afF] at hy
       subst hy
       exact afz (getD_some hv)
      ·cases hy
   have hm:=this _ y hy
   refine⟨?_,fun z hz=>Az z (ag0.2 ⟨some y.2,hm,hz⟩)⟩
   obtain⟨i,hi⟩:=afT hm
   have:=fh hi
   have hl:=congrArg List.length this
   simp only [afw,ag9] at hl
   omega
  obtain⟨fw,Dv⟩: ∃fw:Nat->List Int,fw=fun j=>((partsOf p).take j).flatMap fun x=>bI x.2:=⟨_,rfl⟩
  have QF: ∀j,(fw j).length<=480*j:=by
   intro j
   rw [Dv]
   induction j with
   | zero=>simp
   | succ j ih=>
    dsimp only at ih ⊢
    by_cases gN:j < (partsOf p).length
    ·rw [afG gN,af5,afw]
     simp only [age,aij,afH]
     have e1:=cw ((partsOf p)[j]).2
     have e2:=(RC _ (afR gN)).1
     omega
    ·rw [afE (by omega)]
     rw [afE (by omega)] at ih
     omega
  refine⟨fun b4 t46 mm2 w'=> ∃j:Nat,t46=j /\ j<=ys.length /\ mm2=ys.length - j /\ Hp S w0 w' (q.all b a.m u++ [tB b4 (rz++fw j),ai rb 75 [.int .i64 e.1,.int .i64 e.2,.slice ps.a ps.len ps.cap],aj r4 75 3 rdv xs,T',aj ps 36 2 cY ys,an (ys.map tV)]),⟨ys.length,0,rfl,by omega,rfl,by rw [Dv];exact h⟩,?_⟩
  clear h
  rintro b4 t46 mm2 RD ⟨j,rfl,D4,rfl,h⟩
  by_cases dB:j < ys.length
  ·refine aE (by simp;omega) ?_
   have hy:ys[j]? =some ys[j]:=by simp [dB]
   have RE:(partsOf p)[j]? =some (bN ys[j]):=by rw [<-wP,afC,hy];rfl
   generalize ys[j]=y at hy RE
   obtain⟨kd,sv,v⟩:=y
   have RE:(partsOf p)[j]? =some (kd,v):=RE
   have QG:fw (j+1)=fw j++bI v:=by
    rw [Dv]
    dsimp only
    have gN:=(aft.1 RE).1
    have Mb:=(aft.1 RE).2
    rw [afG gN,af5,Mb]
    simp
   have hv:=RC _ (afz RE)
   have haj:=QF j
   have Z3:v.length<=48:=hv.1
   refine h.sq (s:=ps) (l:=ys) (f:=cY) (n:=2) (e:=36) 12 rfl (by omega) (by rw [afu];exact hy) aW fun Fo jE=>?_
   refine ep (k:=.i .i64) (x:=kd) (jE 0 (by omega)) rfl ?_
   refine j8 (k:=.sl) (x:=sv) (jE 1 (by omega)) rfl ?_
   refine h.nw (c:= [_,_]) fun pb TP h=>?_
   have h:=h.up
   refine h.iR 8 rfl (by simp) rfl fun RF h=>?_
   refine h.st (n:=1) 8 rfl (by simp) rfl fun QH h=>?_
   have h:Hp S w0 QH (q.all b a.m u++ [ai pb 36 [.int .i64 kd,.slice sv.a sv.len sv.cap],tB b4 (rz++fw j++bI (v.take 0)),ai rb 75 [.int .i64 e.1,.int .i64 e.2,.slice ps.a ps.len ps.cap],aj r4 75 3 rdv xs,T',aj ps 36 2 cY ys,an (ys.map tV)]):=by
    have e0:bI (v.take 0)= []:=rfl
    rw [e0,afH];exact h
   have EE:Hp.Reads (an (ys.map tV)) sv 1 iv v:=⟨fun{w O} hO=>by
    obtain⟨O1,O2,g,_⟩:=dx (k:=j) (t:=tV (kd,sv,v)) (by rw [afC,hy];rfl) hO
    exact⟨O1,cA.toR g⟩⟩
   have gi:=h.df 14 (u:=an (ys.map tV)) rfl EE
   refine h.ld (n:=1) (k:=.sl) (x:=sv) 8 rfl rfl ?_
   refine⟨fun b5 t53 mm3 w'=> ∃i:Nat,t53=i /\ i<=v.length /\ mm3=v.length - i /\ Hp S w0 w' (q.all b a.m u++ [ai pb 36 [.int .i64 kd,.slice sv.a sv.len sv.cap],tB b5 (rz++fw j++bI (v.take i)),ai rb 75 [.int .i64 e.1,.int .i64 e.2,.slice ps.a ps.len ps.cap],aj r4 75 3 rdv xs,T',aj ps 36 2 cY ys,an (ys.map tV)]),⟨v.length,0,rfl,by omega,rfl,h⟩,?_⟩
   clear h
   rintro b5 t53 mm3 VJ ⟨i,rfl,YR,rfl,h⟩
   by_cases n8:i < v.length
   ·refine aE (by simp;omega) ?_
    have hvi:v[i]? =some v[i]:=by simp [n8]
    have dw:bI (v.take (i+1))=bI (v.take i)++aV (eI v[i]):=by
     unfold bI
     rw [afG n8,af5];simp
    have xD:=hv.2 v[i] (afR n8)
    have Fc:=cw (v.take i)
    rw [afM] at Fc
    generalize v[i]=z at hvi dw xD
    refine h.dd (k:=.i .i64) (u:=an (ys.map tV)) (y:=z) (x:=z) 14 rfl EE (by omega) (by rw [afu];exact hvi) aq rfl ?_
    refine FP.Al h 9 rfl Hp.bX xD.1 xD.2 (by rw [afw,afw];omega) fun b6 TQ h=>?_
    have h:=h.up
    have h:Hp S w0 TQ ((q.all b a.m u++ [tB b6 (rz++fw j++bI (v.take i)++aV (eI z)),ai pb 36 [.int .i64 kd,.slice sv.a sv.len sv.cap]])++ [tB b5 (rz++fw j++bI (v.take i))]++ [ai rb 75 [.int .i64 e.1,.int .i64 e.2,.slice ps.a ps.len ps.cap],aj r4 75 3 rdv xs,T',aj ps 36 2 cY ys,an (ys.map tV)]):=h
    have h:=h.dY
    have h:Hp S w0 TQ (q.all b a.m u++ [tB b6 (rz++fw j++bI (v.take i)++aV (eI z))]++ [ai pb 36 [.int .i64 kd,.slice sv.a sv.len sv.cap]]++ [ai rb 75 [.int .i64 e.1,.int .i64 e.2,.slice ps.a ps.len ps.cap],aj r4 75 3 rdv xs,T',aj ps 36 2 cY ys,an (ys.map tV)]):=h
    have h:=h.Li
    refine⟨v.length - (i+1),by omega,i+1,by rw [aB (by omega) (by omega)];omega,by omega,rfl,?_⟩
    rw [dw,<-afA]
    exact h
   ·refine aF (by simp;omega) ?_
    rw [afE (by omega)] at h
    have h:Hp S w0 VJ (q.all b a.m u++ [ai pb 36 [.int .i64 kd,.slice sv.a sv.len sv.cap]]++ [tB b5 (rz++fw j++bI v),ai rb 75 [.int .i64 e.1,.int .i64 e.2,.slice ps.a ps.len ps.cap],aj r4 75 3 rdv xs,T',aj ps 36 2 cY ys,an (ys.map tV)]):=h
    have h:=h.dY
    refine⟨ys.length - (j+1),by omega,j+1,by rw [aB (by omega) (by omega)];omega,by omega,rfl,?_⟩
    rw [QG,<-afA]
    exact h
  ·refine aF (by simp;omega) ?_
   have haP:fw j=bI (flat p):=by
    rw [Dv]
    dsimp only
    rw [afE (by omega),QE]
   rw [haP,Ts] at h
   have h:=h.dE (i:=12) (j:=13) (e:=36) (n:=2) (cells:=cY) (sub:=tV) (vis:=bN) (s:=ps) (xs:=ys) (l:=partsOf p) (by decide) rfl rfl wP
   have Lr:k < (xs.map gJ).length:=by simpa using ar
   have h:=h.mT (i:=11) (j:=12) (k:=k) (ts:=(xs.map gJ).set k ao) (t:=gJ (e,ps,partsOf p)) (by decide) rfl rfl (by rw [afX Lr]) rfl
   rw [agz] at h
   have eb:(xs.map gJ).set k (gJ (e,ps,partsOf p))=xs.map gJ:=Hp.ru (by rw [afC,hx];rfl)
   rw [eb] at h
   have h:Hp S w0 RD (q.all b a.m u++ [tB b4 (rz++bI (flat p)),ai rb 75 [.int .i64 e.1,.int .i64 e.2,.slice ps.a ps.len ps.cap],aj r4 75 3 rdv xs,an (xs.map gJ)]++ [ao,ao]):=h
   have h:=h.front
   have h:Hp S w0 RD ((q.all b a.m u++ [tB b4 (rz++bI (flat p))])++ [ai rb 75 [.int .i64 e.1,.int .i64 e.2,.slice ps.a ps.len ps.cap]]++ [aj r4 75 3 rdv xs,an (xs.map gJ)]):=h
   have h:=h.dY
   refine⟨xs.length - (k+1),by omega,k+1,by rw [aB (by omega) (by omega)];omega,by omega,rfl,?_⟩
   rw [me]
   rw [HX] at h
   simp only [afA] at h ⊢
   exact h
 ·refine aF (by simp;omega) ?_
  have Lu:pre++acc k=a.snap:=by
   rw [wC,ED]
   dsimp only
   rw [afE (by omega)]
   rfl
  rw [Lu] at h
  have h:Hp S w0 w7 (q.all b a.m u++ [tB b2 a.snap]++ [aj r4 75 3 rdv xs,an (xs.map gJ)]):=h
  exact hK b2 w7 h.front
theorem lY (h:Hp S w0 w ae) (i:Nat) {b:Nat} {a:WA} (hi:ae[i]? =some (tW b a)) {K:Sl->World->Prop}
  (hK: ∀s w',Hp S w0 w' (ae++ [tB s a.snap])->K s w'):LZ (some ⟨b,0,none⟩) w K:=by
 obtain⟨O,h1,back⟩:=h.f1 hi rfl
 clear h
 obtain⟨q,bK,ht,hk,h⟩:=kC h1
 rw [afH] at h
 refine Cn h bK ht hk fun s w' h=>?_
 exact hK s w' (Dt hi back rfl (jM (rest:= [_]) (m:=a.m) bK ht hk rfl rfl h))
end
end Go.Proofs.YtcccjgmekakabaaGreat.FW
end

section
namespace Go.Proofs.YtcccjgmekakabaaGreat.FW
open F
open Go Go.Den Go.Proofs
open FI (af ay pk)
open FT (az di bM cc dz aP gm bD iv aq)
open FP (aV eI bI bS tB aT cw dX)
def lg (x:KS):ByteArray×List ByteArray:=(x.1,x.2.2)
def aD (s:Sl) (l:KD):aa:=gD 107 2 du tF lg s l
def WA.new (ks:KD):WA:=⟨ks,⟨200,[],[],[]⟩,fun _=>none⟩
theorem WA.HY {ks:KD} (h:cC ks):(WA.new ks).Ok:=by
 refine⟨FI.Lm (by decide) (by decide),rfl,h,fun e=>?_,fun e p hp=>by cases hp⟩
 show false=af.is ⟨200,[],[],[]⟩ e.1 e.2
 unfold af.is af.bt
 simp
def fk:KD:= [(⟨#[80,111,115]⟩,[⟨#[120]⟩,⟨#[121]⟩]),(⟨#[86,101,108]⟩,[⟨#[120]⟩]),(⟨#[68,101,97,100]⟩,[]),(⟨#[66,111,120]⟩,[⟨#[97]⟩,⟨#[98]⟩,⟨#[99]⟩,⟨#[100]⟩])]
theorem nm {L:List ByteArray} (h:(L.all fun x=>decide (ez (bV x)))=true) (hn:L.Nodup):bo L:=fun i hi=>by
 refine⟨of_decide_eq_true (agw.1 h _ (afR hi)),fun hm=>?_⟩
 obtain⟨j,hj,he⟩:=agQ.1 hm
 rw [List.getElem_take] at he
 have:=(agF (i:=j) (j:=i) (by simp at hj;omega) hn).1 (by simp only [afD (show j < L.length by simp at hj;omega),afD hi,he])
 simp at hj;omega
theorem EF:cC fk:=by
 refine⟨fun x hx=>?_,by decide,by decide,nm (by decide) (by decide)⟩
 simp only [fk,af1,aha,or_false] at hx
 rcases hx with rfl | rfl | rfl | rfl
 ·exact⟨by decide,nm (by decide) (by decide)⟩
 ·exact⟨by decide,nm (by decide) (by decide)⟩
 ·exact⟨by decide,nm (by decide) (by decide)⟩
 ·exact⟨by decide,nm (by decide) (by decide)⟩
section
variable {S:List Nat} {w0 w:World} {ae:List aa}
theorem TR (h:Hp S w0 w ae) (i:Nat) {s:Sl} {l:KD} (hi:ae[i]? =some (aD s l)) (hl:l.length<=1000000) (dw: ∀x∈l,x.1.size<=1000000000000 /\ ∀y∈x.2,y.size<=1000000000000) {K:Option Addr->Int->World->Prop}
  (bK:cC l-> ∀b w',Hp S w0 w' (ae++ [tW b (WA.new l)])->K (some ⟨b,0,none⟩) 0 w') (da: ¬cC l-> ∀w',Hp S w0 w' ae->K none 65 w'):Nr s w K:=by
 have ky:=(aft.1 hi).1
 obtain⟨xs,iF,h⟩:=h.dy hi
 have hk:kinds xs=l:=iF
 have kS:xs.length=l.length:=by rw [<-iF,afP]
 have e1:(ae.set i (aj s 107 2 du xs)++ [an (xs.map tF)])[i]? =some (aj s 107 2 du xs):=by
  rw [afx (by simpa using ky),afX ky]
 have e2:(ae.set i (aj s 107 2 du xs)++ [an (xs.map tF)])[ae.length]? =some (an (xs.map tF)):=by
  rw [afv (by simp)];simp
 have back: ∀{w':World} {more:List aa},Hp S w0 w' (ae.set i (aj s 107 2 du xs)++ [an (xs.map tF)]++more)->Hp S w0 w' (ae++more):=fun{w' more} h=>by
  have h:=h.dE (i:=i) (j:=ae.length) (e:=107) (n:=2) (cells:=du) (sub:=tF) (vis:=lg) (s:=s) (xs:=xs) (l:=l) (by omega) (by rw [afx (by simp;omega)];exact e1) (by rw [afx (by simp)];exact e2) iF
  have e3:((ae.set i (aj s 107 2 du xs)++ [an (xs.map tF)]++more).set i (gD 107 2 du tF lg s l)).set ae.length ao=ae++ [ao]++more:=by
   rw [afA,agx _ _ (by simpa using ky),agz,afI _ _ (by simp),Hp.ru (x:=gD 107 2 du tF lg s l) hi]
   simp
  rw [e3] at h
  exact h.dY
 refine uG h i ae.length e1 e2 (by omega) (fun x hx=>?_) (fun hm b w' h=>?_) (fun hm w' h=>?_)
 ·have:=dw (x.1,x.2.2) (by rw [<-hk];exact afQ.2 ⟨x,hx,rfl⟩)
  exact this
 ·rw [hk] at hm h
  refine bK hm b w' ?_
  have h:=back h
  have h:=h.jA (i:=ae.length) (p:=(WA.new l).Ok /\ eD l (fun _=>none) (WA.new l).m.aJ []) ⟨WA.HY hm,eD.new l⟩ afU rfl
  rw [ch] at h
  have h:=h.mg (i:=ae.length) (f:=fun T:List (Int×az)=>kz ((WA.new l).Ok /\ eD (WA.new l).ks (WA.new l).row (WA.new l).m.aJ T) (jH b ⟨(WA.new l).ks,(WA.new l).au,(WA.new l).m.aJ,T⟩)) [] afU rfl
  rw [ch] at h
  exact h
 ·rw [hk] at hm
  refine da hm w' ?_
  have h:Hp S w0 w' (ae.set i (aj s 107 2 du xs)++ [an (xs.map tF)]++ []):=by rw [afH];exact h
  have:=back h
  rwa [afH] at this
theorem Co (h:Hp S w0 w ae) {K:Sl->World->Prop} (hK: ∀s w',Hp S w0 w' (ae++ [aD s fk])->K s w'):WC w K:=by
 refine Oe ?_
 unfold f14
 refine h.HK (l:= [(⟨#[120]⟩:ByteArray),⟨#[121]⟩]) (f:=sv) (n:=1) (c:= [_,_]) rfl rfl cR fun b1 w1 h=>?_
 refine h.HK (l:= [(⟨#[120]⟩:ByteArray)]) (f:=sv) (n:=1) (c:= [_]) rfl rfl cR fun b2 w2 h=>?_
 have h:=h.nil 9 1 sv
 refine h.HK (l:= [(⟨#[97]⟩:ByteArray),⟨#[98]⟩,⟨#[99]⟩,⟨#[100]⟩]) (f:=sv) (n:=1) (c:= [_,_,_,_]) rfl rfl cR fun b3 w3 h=>?_
 refine h.HK (l:= [((⟨#[80,111,115]⟩,⟨some ⟨b1,0,none⟩,2,2⟩,[⟨#[120]⟩,⟨#[121]⟩]):KS),(⟨#[86,101,108]⟩,⟨some ⟨b2,0,none⟩,1,1⟩,[⟨#[120]⟩]),(⟨#[68,101,97,100]⟩,⟨none,0,0⟩,[]),(⟨#[66,111,120]⟩,⟨some ⟨b3,0,none⟩,4,4⟩,[⟨#[97]⟩,⟨#[98]⟩,⟨#[99]⟩,⟨#[100]⟩])]) (f:=du) (n:=2) (c:= [_,_,_,_,_,_,_,_]) rfl rfl aU fun b4 w4 h=>?_
 have h:Hp S w0 w4 (ae++ [aj ⟨some ⟨b1,0,none⟩,2,2⟩ 9 1 sv [⟨#[120]⟩,⟨#[121]⟩],aj ⟨some ⟨b2,0,none⟩,1,1⟩ 9 1 sv [⟨#[120]⟩],aj ⟨none,0,0⟩ 9 1 sv [],aj ⟨some ⟨b3,0,none⟩,4,4⟩ 9 1 sv [⟨#[97]⟩,⟨#[98]⟩,⟨#[99]⟩,⟨#[100]⟩]]++ [aj ⟨some ⟨b4,0,none⟩,4,4⟩ 107 2 du [((⟨#[80,111,115]⟩,⟨some ⟨b1,0,none⟩,2,2⟩,[⟨#[120]⟩,⟨#[121]⟩]):KS),(⟨#[86,101,108]⟩,⟨some ⟨b2,0,none⟩,1,1⟩,[⟨#[120]⟩]),(⟨#[68,101,97,100]⟩,⟨none,0,0⟩,[]),(⟨#[66,111,120]⟩,⟨some ⟨b3,0,none⟩,4,4⟩,[⟨#[97]⟩,⟨#[98]⟩,⟨#[99]⟩,⟨#[100]⟩])]]):=by
  simpa using h
 have h:=h.Mw
 rw [afA] at h
 exact hK _ w4 (h.xA (vis:=lg) (sub:=tF) rfl)
def VK:WA:=((WA.new fk).spawn [(2,[7]),(1,[1,2])]).1
def TS:WA:=(VK.spawn []).1
def VL:WA:=(TS.add (1,1) (3,[])).1
def VM:WA:=(VL.add (1,1) (3,[])).1
def VN:WA:=(VM.cI (0,1)).1
theorem ex1:((WA.new fk).spawn [(2,[7]),(1,[1,2])]).2=((0,1),0):=by decide
theorem ex2:(VK.spawn []).2=((1,1),0):=by decide
theorem ex3:(TS.add (1,1) (3,[])).2=0:=by decide
theorem ex4:(VL.add (1,1) (3,[])).2=61:=by decide
theorem ex5:(VM.cI (0,1)).2=0:=by decide
theorem ex6:VN.snap=bV ⟨#[2,0,2,2,1,0,0,8]⟩:=by decide
end
end Go.Proofs.YtcccjgmekakabaaGreat.FW
end

section
namespace Go.Den
open Go
variable {κ ν:Type} [DecidableEq κ]
theorem rA: ∀(n:Nat) (L:List Nat),L.Nodup->(∀x∈L,x < n)->L.length<=n
 | 0,L,_,h=>by
  cases L with
  | nil=>simp
  | cons x L=>exact absurd (h x (by simp)) (by omega)
 | n+1,L,bE,h=>by
  have h1:=rA n (L.erase n) (bE.erase n) (fun x hx=>by
   have hm:=(bE.mem_erase_iff).1 hx
   have:=h x hm.2
   have:=hm.1
   omega)
  have h2:=List.length_erase (a:=n) (l:=L)
  split at h2 <;> omega
theorem xF: ∀(n:Nat) (L:List Nat),(∀j,j < n->j∈L)->n<=L.length
 | 0,_,_=>Nat.zero_le _
 | n+1,L,h=>by
  have h1:=xF n (L.erase n) (fun j hj=>(List.mem_erase_of_ne (by omega)).2 (h j (by omega)))
  rw [List.length_erase_of_mem (h n (by omega))] at h1
  have:0 < L.length:=aia (h n (by omega))
  omega
def TU (w:World) (b:Nat) (ek:κ->Value) (ev:ν->Value) (g:κ->Option ν) (es:Array MapEntry) (clock:Nat) (l:List (κ×ν)):Prop:=
 w.heap[b]? =some (.map es clock) /\ es.toList.map (fun e=>(e.key,e.val))=l.map (fun p=>(ek p.1,ev p.2)) /\ uA (es.toList.map (·.born)) clock /\ (l.map (·.1)).Nodup /\ ∀k,gh l k=g k
def AA (b r:Nat) (ek:κ->Value) (ev:ν->Value) (g:κ->Option ν) (N:Nat) (done:List κ):aa:=
  { holds:=fun w O=>O= [b,r] /\ b≠r /\ ∃es clock l seen last,TU w b ek ev g es clock l /\ w.heap[r]? =some (.mapIter (some b) clock seen last) /\ clock<=last /\ (done= [] \/ last=clock) /\ l.length=N /\
      done.Nodup /\ ∃js:List Nat,js.length=done.length /\ seen.toList=js.map (fun j=>(es.toList.map (·.born)).getD j 0) /\ (∀n j:Nat,js[n]? =some j-> ∃p,l[j]? =some p /\ done[n]? =some p.1)
    fr:=fun{S w w' O} h hf hn=>by
      obtain⟨rfl,QI,es,clock,l,seen,last,⟨h1,h2⟩,h3,h4⟩:=h
      exact⟨rfl,QI,es,clock,l,seen,last,⟨(hf.block b (afL.1 h1).1 (hn b (by simp))).trans h1,h2⟩,(hf.block r (afL.1 h3).1 (hn r (by simp))).trans h3,h4⟩
    lt:=fun{w O} h k hk=>by
      obtain⟨rfl,QI,es,clock,l,seen,last,⟨h1,h2⟩,h3,h4⟩:=h
      simp only [af1,aha,or_false] at hk
      rcases hk with rfl | rfl
      · exact(afL.1 h1).1
      · exact(afL.1 h3).1}
theorem run_next_at {P:Program} (w:World) (ty:TypeId) (r bm since c0:Nat) (seen:Array Nat) (es:Array MapEntry) (clock:Nat) (hr:w.heap[r]? =some (.mapIter (some bm) since seen c0)) (hb:w.heap[bm]? =some (.map es clock)) (hold: ∀x∈es.toList,x.born < since) (Ff:since<=c0):
  ((leftOf es seen).size=0 /\ (Instr.next (.pointer (some ⟨r,0,none⟩)) false ty).run P w=.ok (.tuple #[.bool false]) w) \/
  ∃e∈(leftOf es seen).toList,∃w1:World,(w1=w \/ w1=w.drew) /\ (Instr.next (.pointer (some ⟨r,0,none⟩)) false ty).run P w=.ok (.tuple #[.bool true,e.key,e.val]) ({ w1 with heap:=w1.heap.setIfInBounds r (.mapIter (some bm) since (seen.push e.born) clock)}):=by
 simp only [Instr.next,getObj,Sem.run_bind,Sem.run,hr,hb,Result.andThen,next_test_false seen es since c0 hold Ff,agD,if_false]
 unfold leftOf
 have cP: ∀x∈(Array.filter (fun e=> !seen.contains e.born) es).toList,x.born < since:=fun x hx=>hold x (by simp at hx ⊢;exact hx.1)
 generalize Array.filter (fun e=> !seen.contains e.born) es=L at cP ⊢
 have e1:L.filter (fun x=>decide (x.born < since))=L:=Array.filter_eq_self.2 (fun x hx=>by simpa using cP x (by simpa using hx))
 have e2:L.filter (fun x=>decide (x.born>=since))=#[]:=by
  rw [Array.filter_eq_empty_iff]
  intro x hx
  have:=cP x (by simpa using hx)
  simp
  omega
 simp only [e1,e2,Array.append_empty]
 by_cases h0:L.size=0
 ·left
  have:L=#[]:=Array.eq_empty_of_size_eq_zero h0
  subst this
  refine⟨rfl,?_⟩
  simp [choose,Sem.run,Question.forced]
 ·right
  have aR:L.isEmpty=false:=by simp [Array.isEmpty,h0]
  simp only [aR,agD,if_false,Array.empty_append,Array.size_map]
  have hch: ∃(j:Nat) (w1:World),j < L.size /\ (w1=w \/ w1=w.drew) /\ (choose (Question.mapNext L.size)).run P w=.ok j w1:=by
   by_cases hf:L.size<=1
   ·exact⟨0,w,by omega,.inl rfl,by simp [choose,Sem.run,Question.forced,hf]⟩
   ·exact⟨_,w.drew,Nat.mod_lt _ (by omega),.inr rfl,by
     simp only [choose,Sem.run,Question.forced,decide_eq_true_eq,hf,if_false,Question.cut]
     rfl⟩
  obtain⟨j,w1,hj,gI,Bo⟩:=hch
  refine⟨L[j],by simp,w1,gI,?_⟩
  have v5:w1.heap[r]? =some (.mapIter (some bm) since seen c0):=by rcases gI with rfl | rfl <;> exact hr
  have mw: ∀o':Obj,(setObj r o').run P w1=.ok () { w1 with heap:=w1.heap.setIfInBounds r o'}:=fun o'=>by
   simp only [setObj,Sem.run]
   rw [v5]
  simp only [Bo,Array.getElem?_map,ag8 hj,agy,Sem.run_bind,mw,Result.andThen]
  rfl
theorem left_at {es:Array MapEntry} {seen:Array Nat} {e:MapEntry} (he:e∈(leftOf es seen).toList): ∃j:Nat,es.toList[j]? =some e /\ e.born ∉ seen.toList:=by
 have:=mem_left he
 obtain⟨j,hj⟩:=afT this.1
 refine⟨j,hj,fun hm=>?_⟩
 have h2:=this.2
 simp only [ail,decide_eq_false_iff_not] at h2
 exact h2 (Array.mem_toList_iff.1 hm)
namespace Hp
variable {S:List Nat} {w0 w:World} {ae:List aa} {P:Program} {ek:κ->Value} {ev:ν->Value} {g:κ->Option ν}
theorem AB (h:Hp S w0 w ae) (i:Nat) {b:Nat} {mt kt vt:TypeId} {K:Option Addr->World->Prop} (hi:ae[i]? =some (fX b ek ev g)) (hm:P.underlying mt=some (.map kt vt))
  (hK: ∀r N w',Hp S w0 w' (ae.set i (AA b r ek ev g N []))->K (some ⟨r,0,none⟩) w'):bZ .p P (Instr.range mt (.map (some b))) w K:=by
 obtain⟨O,⟨l,⟨⟨es,clock,hb,oc,bO⟩,rfl⟩,bE,hg⟩,back⟩:=h.step hi rfl
 have ar:=(afL.1 hb).1
 refine⟨some ⟨w.heap.size,0,none⟩,w.alloc (.mapIter (some b) clock #[] clock),run_range_map w mt kt vt b es clock hm hb,hK _ l.length _ ?_⟩
 refine back ((Fr.alloc w _).mono (by simp)) (t':=AA b w.heap.size ek ev g l.length []) (O':= [b,w.heap.size]) ?_ (fun k hk=>?_) rfl
 ·refine⟨rfl,by omega,es,clock,l,#[],clock,⟨(heap_alloc_old w _ ar).trans hb,oc,bO,bE,hg⟩,heap_alloc_new w _,afV _,.inl rfl,rfl,by simp,[],rfl,rfl,by simp⟩
 ·simp only [af1,aha,or_false] at hk
  rcases hk with rfl | rfl
  ·exact .inl (by simp)
  ·exact .inr (afV _)
theorem Cp (h:Hp S w0 w ae) (i:Nat) {b r N:Nat} {ty:TypeId} {done:List κ} {K0:World->Prop} {K1:Value->Value->World->Prop} (hi:ae[i]? =some (AA b r ek ev g N done))
  (h0:(∀k,(g k).isSome=true->k∈done)->done.length=N->Hp S w0 w ae->K0 w)
  (h1: ∀k v x1 x2 w',g k=some v->k ∉ done->done.length < N->Hp S w0 w' (ae.set i (AA b r ek ev g N (done++ [k])))->K1 x1 x2 w'):V7 P (.pointer (some ⟨r,0,none⟩)) ty w K0 K1:=by
 obtain⟨O,⟨rfl,QI,es,clock,l,seen,last,⟨hb,oc,bO,bE,hg⟩,hr,hle,gA,hN,Jg,js,gN,xG,MD⟩,back⟩:=h.step hi rfl
 have Fc:es.toList.length=l.length:=by have:=congrArg List.length oc;simpa using this
 have hold: ∀x∈es.toList,x.born < clock:=fun x hx=>bO.2 _ (afQ.2 ⟨x,hx,rfl⟩)
 have VO: ∀(j:Nat) (e:MapEntry),es.toList[j]? =some e->(es.toList.map (·.born)).getD j 0=e.born:=fun j e he=>by
  rw [afO,afC,he];rfl
 have Lo: ∀(i j:Nat),i < l.length->(es.toList.map (·.born)).getD i 0=(es.toList.map (·.born)).getD j 0->j < l.length->i=j:=fun i j hi he hj=>by
  refine(agF (i:=i) (j:=j) (l:=es.toList.map (·.born)) (by rw [afP];omega) bO.1).1 ?_
  rw [afO,afO] at he
  have a1:(es.toList.map (·.born))[i]? =some ((es.toList.map (·.born))[i]'(by rw [afP];omega)):=afD _
  have a2:(es.toList.map (·.born))[j]? =some ((es.toList.map (·.born))[j]'(by rw [afP];omega)):=afD _
  rw [a1,a2] at he ⊢
  simpa using he
 have o0: ∀(i j:Nat) (p q:κ×ν),l[i]? =some p->l[j]? =some q->p.1=q.1->i=j:=fun i j p q hi hj he=>
  (agF (i:=i) (j:=j) (l:=l.map (·.1)) (by simpa using (aft.1 hi).1) bE).1 (by rw [afC,afC,hi,hj];simp [he])
 have dB: ∀n j:Nat,js[n]? =some j->j < l.length:=fun n j hn=>by
  obtain⟨p,hp,_⟩:=MD n j hn
  exact(aft.1 hp).1
 have TV:js.Nodup:=by
  rw [agE,ahl]
  intro n m xz hm vY he
  have fC:js[m]? =some js[m]:=afD hm
  obtain⟨p,hp,hd⟩:=MD m _ fC
  obtain⟨p',tM,Wk⟩:=MD n js[m] (by rw [afD xz,he])
  rw [hp] at tM
  obtain rfl:=afK tM
  have:=(agF (i:=n) (j:=m) (l:=done) (by omega) Jg).1 (by rw [hd,Wk])
  omega
 have hdl:done.length<=l.length:=by
  rw [<-gN]
  exact rA l.length js TV (fun x hx=>by
   obtain⟨n,hn⟩:=afT hx
   exact dB n x hn)
 rcases run_next_at (P:=P) w ty r b clock last seen es clock hr hb hold hle with ⟨hz,Bo⟩ | ⟨e,he,w1,Ni,Bo⟩
 ·refine⟨_,_,Bo,.inl ⟨rfl,h0 (fun k hk=>?_) ?_ h⟩⟩
  ·obtain⟨v,hv⟩:=agL.1 hk
   rw [<-hg,ja] at hv
   obtain⟨p,hp,rfl⟩:=af2.1 hv
   have PZ:=ahR hp
   simp only [decide_eq_true_eq] at PZ
   obtain⟨j,hj⟩:=afT (ag7 hp)
   have HZ:=(aft.1 hj).1
   have EG:es.toList[j]? =some (es.toList[j]'(by omega)):=afD _
   have uR:(es.toList[j]'(by omega)).born∈seen.toList:=by
    refine Classical.byContradiction fun da=>?_
    have hm:(es.toList[j]'(by omega))∈(leftOf es seen).toList:=by
     unfold leftOf
     rw [Array.toList_filter,agv]
     refine⟨afR _,?_⟩
     simp only [ail,agb,decide_eq_false_iff_not]
     exact fun hm=>da (Array.mem_toList_iff.2 hm)
    have:(leftOf es seen).toList= []:=by
     rw [<-ahQ,ahO];exact hz
    rw [this] at hm
    cases hm
   rw [xG] at uR
   obtain⟨j',dI,kO⟩:=afQ.1 uR
   obtain⟨n,hn⟩:=afT dI
   have lM:=dB n j' hn
   rw [<-VO j _ EG] at kO
   have:=Lo j' j lM kO HZ
   subst this
   obtain⟨q,hq,TW⟩:=MD n j' hn
   rw [hj] at hq
   obtain rfl:=afK hq
   rw [PZ] at TW
   exact afz TW
  ·-- all have come
   have bF: ∀j,j < l.length->j∈js:=fun j hj=>by
    have EG:es.toList[j]? =some (es.toList[j]'(by omega)):=afD _
    have uR:(es.toList[j]'(by omega)).born∈seen.toList:=by
     refine Classical.byContradiction fun da=>?_
     have hm:(es.toList[j]'(by omega))∈(leftOf es seen).toList:=by
      unfold leftOf
      rw [Array.toList_filter,agv]
      refine⟨afR _,?_⟩
      simp only [ail,agb,decide_eq_false_iff_not]
      exact fun hm=>da (Array.mem_toList_iff.2 hm)
     have:(leftOf es seen).toList= []:=by
      rw [<-ahQ,ahO];exact hz
     rw [this] at hm
     cases hm
    rw [xG] at uR
    obtain⟨j',dI,kO⟩:=afQ.1 uR
    obtain⟨n,hn⟩:=afT dI
    rw [<-VO j _ EG] at kO
    have:=Lo j' j (dB n j' hn) kO hj
    subst this
    exact dI
   have:=xF l.length js bF
   omega
 ·obtain⟨j,EG,Y5⟩:=left_at he
  have HZ:j < l.length:=by have:=(aft.1 EG).1;omega
  have TX:l[j]? =some l[j]:=afD HZ
  have Fe:e.key=ek (l[j]).1 /\ e.val=ev (l[j]).2:=by
   have:=congrArg (fun x=>x[j]?) oc
   simp only [afC,EG,TX,agy,afy,agX] at this
   exact this
  have Be:g (l[j]).1=some (l[j]).2:=by
   rw [<-hg,ja]
   have:l.find? (fun p=>decide (p.1=(l[j]).1))=some l[j]:=by
    cases hf:l.find? (fun p=>decide (p.1=(l[j]).1)) with
    | none=>
     have:=ahS.1 hf l[j] (afR _)
     simp at this
    | some q=>
     have hq:=ahR hf
     simp only [decide_eq_true_eq] at hq
     obtain⟨j',dI⟩:=afT (ag7 hf)
     have:=o0 j' j q _ dI TX hq
     subst this
     rw [TX] at dI
     exact dI.symm
   rw [this];rfl
  have TY:j ∉ js:=fun hm=>Y5 (by rw [xG];exact afQ.2 ⟨j,hm,VO j e EG⟩)
  have TZ:(l[j]).1 ∉ done:=fun hm=>by
   obtain⟨n,hn⟩:=afT hm
   have kF:=(aft.1 hn).1
   have Js:js[n]? =some (js[n]'(by omega)):=afD _
   obtain⟨q,hq,TW⟩:=MD n _ Js
   rw [hn] at TW
   have:=o0 _ j q _ hq TX (afK TW).symm
   rw [this] at Js
   exact TY (afz Js)
  have hlN:done.length < N:=by
   have:=rA l.length (j :: js) (ags.2 ⟨TY,TV⟩) (fun x hx=>by
    rcases af1.1 hx with rfl | hx
    ·exact HZ
    ·obtain⟨n,hn⟩:=afT hx
     exact dB n x hn)
   simp only [af6] at this
   omega
  have dw:w1.heap=w.heap /\ w1.os=w.os /\ w1.tape=w.tape /\ w1.output=w.output:=by rcases Ni with rfl | rfl <;> exact⟨rfl,rfl,rfl,rfl⟩
  have fv:=(afL.1 hr).1
  have qB:=(afL.1 hb).1
  refine⟨_,_,Bo,.inr ⟨e.key,e.val,rfl,h1 (l[j]).1 (l[j]).2 _ _ _ Be TZ hlN ?_⟩⟩
  refine back (w':={ w1 with heap:=w1.heap.setIfInBounds r (.mapIter (some b) clock (seen.push e.born) clock)}) (t':=AA b r ek ev g N (done++ [(l[j]).1])) (O':= [b,r]) ⟨dw.2.1,dw.2.2.1,dw.2.2.2,by show w.heap.size<=(w1.heap.setIfInBounds r _).size;simp [dw.1],fun k hk hn=>?_⟩ ?_ (fun k hk=>.inl hk) rfl
  ·show (w1.heap.setIfInBounds r _)[k]? =w.heap[k]?
   rw [dw.1,Array.getElem?_setIfInBounds_ne (fun e=>hn (by simp [e]))]
  ·refine⟨rfl,QI,es,clock,l,seen.push e.born,clock,⟨?_,oc,bO,bE,hg⟩,?_,afV _,.inr rfl,hN,?_,js++ [j],by simp [gN],?_,?_⟩
   ·show (w1.heap.setIfInBounds r _)[b]? =_
    rw [dw.1,Array.getElem?_setIfInBounds_ne (fun e=>QI e.symm)];exact hb
   ·show (w1.heap.setIfInBounds r _)[r]? =_
    rw [dw.1,Array.getElem?_setIfInBounds_self_of_lt fv]
   ·rw [ago]
    exact⟨Jg,by simp,fun a ha c hc=>by simp only [afF] at hc;subst hc;exact fun e=>TZ (e ▸ ha)⟩
   ·rw [Array.toList_push,agh,xG]
    simp only [agl,ahq]
    rw [VO j e EG]
   ·intro n m hn
    by_cases ar:n < js.length
    ·rw [afx ar] at hn
     obtain⟨q,hq,hd⟩:=MD n m hn
     exact⟨q,hq,by rw [afx (by omega)];exact hd⟩
    ·rw [afv (by omega)] at hn
     have h00:n - js.length=0:=by
      rcases agY (n - js.length) with h | h
      ·exact h
      ·rw [af0 (by simp;omega)] at hn;cases hn
     rw [h00] at hn
     obtain rfl:=afK hn
     refine⟨_,TX,?_⟩
     rw [afv (by omega),show n - done.length=0 by omega];rfl
theorem AD (h:Hp S w0 w ae) (i:Nat) {b r N:Nat} {done:List κ} {k:κ} {v:ν} {K:Value->Value->World->Prop} (hi:ae[i]? =some (AA b r ek ev g N (done++ [k]))) (Be:g k=some v) (hK:K (ek k) (ev v) w):V8 P (.pointer (some ⟨r,0,none⟩)) w K:=by
 obtain⟨O,rfl,QI,es,clock,l,seen,last,⟨hb,oc,bO,bE,hg⟩,hr,hle,gA,hN,Jg,js,gN,xG,MD⟩:=h.n9 hi
 have gA:last=clock:=by
  rcases gA with h | h
  ·simp at h
  ·exact h
 subst gA
 have hn:js[done.length]? =some (js[done.length]'(by rw [gN];simp)):=afD _
 obtain⟨p,hp,hd⟩:=MD _ _ hn
 have PZ:p.1=k:=by
  rw [afv (afV _),af9] at hd
  exact(afK hd).symm
 generalize js[done.length]'(by rw [gN];simp)=j at hn hp hd
 have HZ:=(aft.1 hp).1
 have Fc:es.toList.length=l.length:=by have:=congrArg List.length oc;simpa using this
 have EG:es.toList[j]? =some (es.toList[j]'(by omega)):=afD _
 have Fe:(es.toList[j]'(by omega)).key=ek p.1 /\ (es.toList[j]'(by omega)).val=ev p.2:=by
  have:=congrArg (fun x=>x[j]?) oc
  simp only [afC,EG,hp,agy,afy,agX] at this
  exact this
 have Ey:p.2=v:=by
  have h1:gh l k=some v:=by rw [hg];exact Be
  rw [ja] at h1
  obtain⟨q,hq,hqv⟩:=af2.1 h1
  have Rr:=ahR hq
  simp only [decide_eq_true_eq] at Rr
  obtain⟨j',dI⟩:=afT (ag7 hq)
  have:j'=j:=(agF (i:=j') (j:=j) (l:=l.map (·.1)) (by simpa using (aft.1 dI).1) bE).1 (by rw [afC,afC,dI,hp];simp [Rr,PZ])
  subst this
  rw [hp] at dI
  rw [afK dI];exact hqv
 generalize es.toList[j]'(by omega)=e at EG Fe
 have ni:seen.back? =some e.born:=by
  have h1:seen.toList.getLast? =some e.born:=by
   rw [xG]
   have Y6:js=js.take done.length++ [j]:=by
    have hl:js.length=done.length+1:=by rw [gN];simp
    have h1:=afG (l:=js) (i:=done.length) (by omega)
    have h2:js.take (done.length+1)=js:=afE (by omega)
    have h3:js[done.length]'(by omega)=j:=by
     rw [afD (by omega)] at hn;exact afK hn
    rw [h3] at h1
    exact h2.symm.trans h1
   rw [Y6,agh]
   simp only [agl,ahq,List.getLast?_append,List.getLast?_singleton,Option.some_or]
   rw [afO,afC,EG];rfl
  rw [<-Array.getLast?_toList];exact h1
 have hf:es.find? (·.born ==e.born)=some e:=by rw [<-Array.find?_toList];exact find_born e es.toList bO.1 (afz EG)
 refine⟨e.key,e.val,?_,?_⟩
 ·simp only [Instr.entry,getObj,Sem.run_bind,Sem.run,hr,hb,Result.andThen,ni,bne_self_eq_false,agD,if_false,hf]
  rfl
 ·rw [Fe.1,Fe.2,PZ,Ey];exact hK
theorem Cq (h:Hp S w0 w ae) {i b r N:Nat} {done:List κ} (hi:ae[i]? =some (AA b r ek ev g N done)):Hp S w0 w (ae.set i (fX b ek ev g)):=
 h.less hi rfl (fun w O hO=>by
  obtain⟨rfl,QI,es,clock,l,seen,last,⟨hb,oc,bO,bE,hg⟩,_⟩:=hO
  exact⟨[b],⟨l,⟨⟨es,clock,hb,oc,bO⟩,rfl⟩,bE,hg⟩,by simp⟩) rfl
end Hp
namespace Hp
variable {S:List Nat} {w0 w:World} {ae:List aa}
end Hp
end Go.Den
end

section
namespace Go.Proofs.YtcccjgmekakabaaGreat.FW
open F
open Go Go.Den Go.Proofs
open FI (af ay)
open FT (az di bM cc dz aP gm bD iv aq)
theorem ox:Tryz.prog.underlying 99=some (.map 3 3):=by kernel_rfl
theorem lh {α:Type} [DecidableEq α]: ∀(L M:List α),L.Nodup->(∀x∈L,x∈M)->L.length<=M.length
 | [],_,_,_=>by simp
 | x :: L,M,bE,h=>by
  have hn:=ags.1 bE
  have h1:=lh L (M.erase x) hn.2 (fun y hy=>(List.mem_erase_of_ne (fun e=>hn.1 (by rw [<-e];exact hy))).2 (h y (ahc _ hy)))
  have hm:=h x (by simp)
  rw [List.length_erase_of_mem hm] at h1
  have:0 < M.length:=aia hm
  simp only [af6]
  omega
def WA.RG (a:WA) (s:Int):List bM:=a.all.filter fun e=>decide ((a.row e).map aG=some s)
def WA.shape (a:WA) (s:Int):Option Int:=if (a.RG s).length=0 then none else some (((a.RG s).length:Nat):Int)
theorem vg (m:af) {e:bM} (h1:m.bt e.1=true) (h2:m.gen e.1=e.2) (h0:0<=e.1): ∀k:Nat,e.1 < k->e∈m.eA k
 | 0,hk=>by omega
 | k+1,hk=>by
  unfold af.eA
  by_cases he:e.1=(k:Int)
  ·rw [<-he,if_pos h1,h2];simp
  ·have:=vg m h1 h2 h0 k (by omega)
   split
   ·exact agZ _ this
   ·exact this
theorem Dw {a:WA} (bK:a.Ok) {e:bM}:e∈a.all↔(a.row e).isSome=true:=by
 constructor
 ·intro he
  obtain⟨p,hp⟩:=hH bK he
  rw [hp];rfl
 ·intro he
  rw [bK.Dq e] at he
  obtain⟨h1,h2⟩:=af.jG.1 he
  obtain⟨h3,h4⟩:=FI.ji bK.u6 h1
  exact vg a.au h1 h2 h3 _ h4
theorem EH (a:WA):a.all.Nodup:=by
 rw [agE]
 refine ahX (fun{x y} h e=>?_) (FI.iA a.au a.au.ah.length).2
 rw [e] at h;omega
theorem yJ {a:WA} (bK:a.Ok) {s:Int} {e:bM}:e∈a.RG s↔ ∃p,a.row e=some p /\ aG p=s:=by
 unfold WA.RG
 rw [agv,Dw bK,decide_eq_true_eq]
 constructor
 ·rintro⟨_,h⟩
  obtain⟨p,hp,rfl⟩:=af2.1 h
  exact⟨p,hp,rfl⟩
 ·rintro⟨p,hp,rfl⟩
  exact⟨by rw [hp];rfl,by rw [hp];rfl⟩
theorem EI {a:WA} (bK:a.Ok) {T:List (Int×az)} (ht:eD a.ks a.row a.m.aJ T) {s:Int} {t:az} (hm:(s,t)∈T):a.shape s=some ((t.rows.length:Nat):Int):=by
 obtain⟨tk,tn,tne,tr⟩:=ht.tok _ hm
 have h1:t.aw.length<=(a.RG s).length:=lh _ _ tk.nd (fun e he=>by
  obtain⟨r,hr,rfl⟩:=afQ.1 he
  obtain⟨p,hp,hs,_⟩:=tr r hr
  exact(yJ bK).2 ⟨p,hp,hs⟩)
 have h2:(a.RG s).length<=t.aw.length:=lh _ _ ((EH a).filter _) (fun e he=>by
  obtain⟨p,hp,hs⟩:=(yJ bK).1 he
  obtain⟨t',g1,g2⟩:=ht.has e p hp
  obtain⟨i,hi⟩:=afT hm
  obtain⟨j,hj⟩:=afT g1
  have:j=i:=(agF (i:=j) (j:=i) (l:=T.map (·.1)) (by simpa using (aft.1 hj).1) ht.nd).1 (by rw [afC,afC,hi,hj];simp [hs])
  subst this
  rw [hi] at hj
  have:=afK hj
  rw [agX] at this
  rw [<-this.2] at g2
  exact afQ.2 ⟨_,g2,rfl⟩)
 rw [az.cj] at h1 h2
 have h3:0 < t.rows.length:=List.length_pos_iff.2 tne
 unfold WA.shape
 rw [if_neg (by omega)]
 congr 2
 omega
theorem Cr {a:WA} (bK:a.Ok) {T:List (Int×az)} (ht:eD a.ks a.row a.m.aJ T) {s:Int} (hm: ∀x∈T,x.1≠s):a.shape s=none:=by
 unfold WA.shape
 rw [if_pos]
 rw [ahQ,ag6]
 intro e he
 obtain⟨p,hp,hs⟩:=(yJ bK).1 he
 obtain⟨t',g1,g2⟩:=ht.has e p hp
 exact hm _ g1 hs
section
variable {S:List Nat} {w0 w:World} {ae:List aa}
theorem Lv (h:Hp S w0 w ae) (i:Nat) {T:List TT} {k tb:Nat} {set:Int} {t:az} (hi:(ae[i]?).map aa.holds=some (an (T.map tT)).holds) (hk:T[k]? =some (set,tb,t)) {K:Int->World->Prop} (hK:K t.rows.length w):DX (some ⟨tb,0,none⟩) w K:=
 FT.zH (Cl h i hi hk) 0 rfl hK
theorem H0 {q:WH} (bE:(q.cD.map (·.1)).Nodup) {set:Int} {tb:Nat} (h:db q.T set=some tb): ∃(k:Nat) (t:az),q.T[k]? =some (set,tb,t) /\ (set,t)∈q.cD:=by
 obtain⟨k,t,hk⟩:=xm h
 exact⟨k,t,hk,afQ.2 ⟨_,afz hk,rfl⟩⟩
set_option maxHeartbeats 1000000 in
theorem AE (h:Hp S w0 w ae) (i:Nat) {b:Nat} {a:WA} (hi:ae[i]? =some (tW b a)) {K:Option Nat->World->Prop}
  (hK: ∀ob w',Hp S w0 w' (ae++ [fX ob (Value.int .i64) (Value.int .i64) a.shape])->K (some ob) w'):U8 (some ⟨b,0,none⟩) w K:=by
 refine OF ?_
 unfold f43
 obtain⟨O,h1,back⟩:=h.f1 hi rfl
 clear h
 obtain⟨q,bK,ht,hk,h⟩:=kC h1
 refine h.wX fun ob w1 h=>?_
 have h:=h.xd (i:=8) (Value.int .i64) (Value.int .i64) rfl
 refine bg ?_
 refine h.ld (n:=3) (k:=.m) (x:=some q.mt) 0 rfl rfl ?_
 refine h.AB (ek:=Value.int .i64) (ev:=pv) (g:=db q.T) 6 rfl xl fun r N w2 h=>?_
 refine⟨fun mm w'=> ∃(done:List Int) (f:Int->Option Int),mm=N - done.length /\ (∀s,f s=if s∈done then a.shape s else none) /\ Hp O w w' [q.v7 b,ao,aj q.sk 107 2 du q.xs,an (q.xs.map tF),ay 149 q.pb a.m.au,fX q.ms cc (Value.int .i64) a.m.aJ,AA q.mt r (Value.int .i64) pv (db q.T) N done,an (q.T.map tT),fX ob (Value.int .i64) (Value.int .i64) f],
  ⟨N,[],fun _=>none,rfl,fun s=>by simp,h⟩,?_⟩
 clear h
 rintro mm w3 ⟨done,f,rfl,hf,h⟩
 refine h.Cp 6 rfl (fun bF hN h=>?_) fun k v x1 x2 w4 hg da ar h=>?_
 ·have h:=h.Cq (i:=6) rfl
  have ef:f=a.shape:=by
   funext s
   rw [hf s]
   split
   ·rfl
   ·rename_i hs
    symm
    refine Cr bK ht fun x hx he=>hs (bF s ?_)
    obtain⟨y,hy,rfl⟩:=afQ.1 hx
    have he:y.1=s:=he
    cases hp:db q.T s with
    | some tb=>rfl
    | none=>exact absurd he (xn hp y hy)
  rw [ef] at h
  exact hK ob _ (Dt hi back (rest:= [fX ob (Value.int .i64) (Value.int .i64) a.shape]) rfl (jM (u:=ao) (m:=a.m) (q:=q) (rest:= [_]) bK ht hk rfl rfl h))
 ·obtain⟨ki,t,Mx,Y7⟩:=H0 ht.nd hg
  refine h.AD (k:=k) (v:=v) 6 rfl hg ?_
  show DX (some ⟨v,0,none⟩) _ _
  refine Lv h 7 rfl Mx ?_
  refine h.update (ek:=Value.int .i64) (ev:=Value.int .i64) (g:=f) (k:=k) (v:=(t.rows.length:Nat)) 8 rfl rfl ox wv rfl fun w5 h=>?_
  refine⟨N - (done.length+1),by omega,done++ [k],aH f k (some ((t.rows.length:Nat):Int)),by simp,fun s=>?_,h⟩
  unfold aH
  by_cases hs:s=k
  ·rw [if_pos hs,if_pos (by simp [hs]),hs,EI bK ht Y7]
  ·rw [if_neg hs,hf s]
   by_cases hd:s∈done
   ·rw [if_pos hd,if_pos (by simp [hd])]
   ·rw [if_neg hd,if_neg (by simp [hd,hs])]
end
end Go.Proofs.YtcccjgmekakabaaGreat.FW
end

section
namespace Go.Proofs.YtcccjgmekakabaaGreat.FW
open F
open Go Go.Den Go.Proofs
open FI (af ay pk bv lP)
open FT (az di bM cc dz aP gm bD iv aq)
open FP (aV eI bI bS tB aT cw dX)
theorem T0:Tryz.prog.underlying 43=some (.slice 33):=by kernel_rfl
section
variable {S:List Nat} {w0 w:World} {ae:List aa}
set_option maxHeartbeats 2000000 in
theorem Cs (h0:Hp S w0 w ae) {K:Bool->World->Prop} (hK: ∀w',Hp S w0 w' ae->K true w'):c5 w K:=by
 refine Sx ?_
 unfold f5
 have h:=Hp.qY w
 refine Co h fun sk w1 h=>?_
 refine TR h 0 (s:=sk) (l:=fk) rfl (by decide) (fun x hx=>?_) (fun _ b w2 h=>?_) (fun da=>absurd EF da)
 ·simp only [fk,af1,aha,or_false] at hx
  rcases hx with rfl | rfl | rfl | rfl
  ·exact⟨by decide,by decide⟩
  ·exact⟨by decide,by decide⟩
  ·exact⟨by decide,by decide⟩
  ·exact⟨by decide,by decide⟩
 refine aF (by simp) ?_
 refine h.HK (l:= [(7:Int)]) (f:=iv) (n:=1) (c:= [_]) rfl rfl aq fun b1 w3 h=>?_
 refine h.HK (l:= [(1:Int),2]) (f:=iv) (n:=1) (c:= [_,_]) rfl rfl aq fun b2 w4 h=>?_
 refine h.HK (l:= [((2,⟨some ⟨b1,0,none⟩,1,1⟩,[7]):PV),(1,⟨some ⟨b2,0,none⟩,2,2⟩,[1,2])]) (f:=cY) (n:=2) (c:= [_,_,_,_]) rfl rfl aW fun b3 w5 h=>?_
 have h:Hp [] w w5 ([aD sk fk,tW b (WA.new fk)]++ [aj ⟨some ⟨b1,0,none⟩,1,1⟩ 2 1 iv [7],aj ⟨some ⟨b2,0,none⟩,2,2⟩ 2 1 iv [1,2]]++ [aj ⟨some ⟨b3,0,none⟩,2,2⟩ 36 2 cY [((2,⟨some ⟨b1,0,none⟩,1,1⟩,[7]):PV),(1,⟨some ⟨b2,0,none⟩,2,2⟩,[1,2])]]):=h
 have h:=h.Mw
 rw [afA] at h
 have h:=h.xA (vis:=bN) (sub:=tV) rfl
 have h:Hp [] w w5 [aD sk fk,tW b (WA.new fk),bn ⟨some ⟨b3,0,none⟩,2,2⟩ [(2,[7]),(1,[1,2])]]:=h
 refine Du h 1 2 (by decide) rfl rfl (by simp) (by simp [dX]) (by decide) fun w6 h=>?_
 rw [ex1]
 have h:Hp [] w w6 [aD sk fk,tW b VK,bn ⟨some ⟨b3,0,none⟩,2,2⟩ [(2,[7]),(1,[1,2])]]:=h
 refine h.nw (c:= [_,_]) fun ab w7 h=>?_
 refine h.iR 3 rfl (by simp) rfl fun w8 h=>?_
 refine h.st (n:=1) 3 rfl (by simp) rfl fun w9 h=>?_
 have h:=h.gE 36 2 cY tV bN
 refine Du h 1 4 (by decide) (a:=VK) rfl rfl (by simp) (by simp) (by decide) fun pj h=>?_
 rw [ex2]
 have h:Hp [] w pj [aD sk fk,tW b TS,bn ⟨some ⟨b3,0,none⟩,2,2⟩ [(2,[7]),(1,[1,2])],ai ab 33 [.int .i64 0,.int .i64 1],bn ⟨none,0,0⟩ []]:=h
 refine h.nw (c:= [_,_]) fun bb wx h=>?_
 refine h.iR 5 rfl (by simp) rfl fun z9 h=>?_
 refine h.st (n:=1) 5 rfl (by simp) rfl fun MC h=>?_
 refine h.cx (k:=.i .i64) (x:=(1:Int)) 5 rfl rfl ?_
 refine h.ld (n:=1) (k:=.i .i64) (x:=(1:Int)) 5 rfl rfl ?_
 have h:=h.nil 2 1 iv
 have h:Hp [] w MC [aD sk fk,tW b TS,bn ⟨some ⟨b3,0,none⟩,2,2⟩ [(2,[7]),(1,[1,2])],ai ab 33 [.int .i64 0,.int .i64 1],bn ⟨none,0,0⟩ [],ai bb 33 [.int .i64 1,.int .i64 1],aj ⟨none,0,0⟩ 2 1 iv []]:=h
 refine MB h 1 6 (by decide) (e:=(1,1)) (kind:=3) (v:= []) (a:=TS) rfl rfl (by decide) (by decide) (by simp [dX]) fun RD h=>?_
 rw [ex3]
 have h:Hp [] w RD [aD sk fk,tW b VL,bn ⟨some ⟨b3,0,none⟩,2,2⟩ [(2,[7]),(1,[1,2])],ai ab 33 [.int .i64 0,.int .i64 1],bn ⟨none,0,0⟩ [],ai bb 33 [.int .i64 1,.int .i64 1],aj ⟨none,0,0⟩ 2 1 iv []]:=h
 refine h.cx (k:=.i .i64) (x:=(1:Int)) 5 rfl rfl ?_
 refine h.ld (n:=1) (k:=.i .i64) (x:=(1:Int)) 5 rfl rfl ?_
 refine MB h 1 6 (by decide) (e:=(1,1)) (kind:=3) (v:= []) (a:=VL) rfl rfl (by decide) (by decide) (by simp [dX]) fun TP h=>?_
 rw [ex4]
 have h:Hp [] w TP [aD sk fk,tW b VM,bn ⟨some ⟨b3,0,none⟩,2,2⟩ [(2,[7]),(1,[1,2])],ai ab 33 [.int .i64 0,.int .i64 1],bn ⟨none,0,0⟩ [],ai bb 33 [.int .i64 1,.int .i64 1],aj ⟨none,0,0⟩ 2 1 iv []]:=h
 refine h.cx (k:=.i .i64) (x:=(0:Int)) 3 rfl rfl ?_
 refine h.ld (n:=1) (k:=.i .i64) (x:=(1:Int)) 3 rfl rfl ?_
 refine xB h 1 (e:=(0,1)) (a:=VM) rfl fun RF h=>?_
 rw [ex5]
 have h:Hp [] w RF [aD sk fk,tW b VN,bn ⟨some ⟨b3,0,none⟩,2,2⟩ [(2,[7]),(1,[1,2])],ai ab 33 [.int .i64 0,.int .i64 1],bn ⟨none,0,0⟩ [],ai bb 33 [.int .i64 1,.int .i64 1],aj ⟨none,0,0⟩ 2 1 iv []]:=h
 refine aE rfl (aE rfl ?_)
 refine h.cx (k:=.i .i64) (x:=(0:Int)) 3 rfl rfl ?_
 refine h.ld (n:=1) (k:=.i .i64) (x:=(1:Int)) 3 rfl rfl ?_
 refine FT.xe (aE rfl ?_)
 refine h.cx (k:=.i .i64) (x:=(1:Int)) 5 rfl rfl ?_
 refine h.ld (n:=1) (k:=.i .i64) (x:=(1:Int)) 5 rfl rfl ?_
 refine FT.xe (aE rfl ?_)
 refine aE rfl (aE rfl (aE rfl ?_))
 refine lY h 1 (a:=VN) rfl fun s QH h=>?_
 refine h.Ef 7 (u:=tB s VN.snap) rfl Hp.bX ⟨#[2,0,2,2,1,0,0,8]⟩ ex6.symm ?_
 have:=h0.r0 (rest:= []) rfl (h.trim 0)
 rw [afH] at this
 have e:((⟨#[2,0,2,2,1,0,0,8]⟩:ByteArray).toList ==(⟨#[2,0,2,2,1,0,0,8]⟩:ByteArray).toList)=true:=by simp
 rw [e]
 exact hK QH this
end
end Go.Proofs.YtcccjgmekakabaaGreat.FW
end

section
namespace Go.Proofs.YtcccjgmekakabaaGreat.FW
open F
open Go Go.Den Go.Proofs
open FI (af ay pk)
open FT (az di bM cc dz aP gm bD iv aq)
def vK (w:World) (s:Sl) (l:List Part):Prop:= ∃xs:List PV,xs.map bN=l /\ (∃o,cf w s 2 cY xs o) /\ ∀x∈xs,∃o,cf w x.2.1 1 iv x.2.2 o
def VP (w:World) (s:Sl) (l:List gL):Prop:= ∃xs:List RV,xs.map fj=l /\ (∃o,cf w s 3 rdv xs o) /\ ∀x∈xs,vK w x.2.1 x.2.2
theorem cf.cB {α:Type} {f:α->List Value} {n:Nat} {w w':World} {s:Sl} {l:List α} (h: ∃o,cf w s n f l o) (hf:Fr [] w w'): ∃o,cf w' s n f l o:=by
 obtain⟨o,h⟩:=h
 exact⟨o,h.fr hf (by simp)⟩
theorem vK.cB {w w':World} {s:Sl} {l:List Part} (h:vK w s l) (hf:Fr [] w w'):vK w' s l:=by
 obtain⟨xs,h1,h2,h3⟩:=h
 exact⟨xs,h1,cf.cB h2 hf,fun x hx=>cf.cB (h3 x hx) hf⟩
theorem vh {ts:List aa} {t:aa} {w:World} {O:List Nat} (h:(an ts).holds w O) (hm:t∈ts): ∃O',t.holds w O':=by
 obtain⟨k,hk⟩:=afT hm
 obtain⟨O1,_,h1,_⟩:=dx hk h
 exact⟨O1,h1⟩
theorem Ct {w:World} {s:Sl} {l:List Part} {O:List Nat} (h:(bn s l).holds w O):vK w s l:=by
 obtain⟨xs,h1,O1,O2,h2,h3,_⟩:=h
 refine⟨xs,h1,⟨_,cA.toR h2⟩,fun x hx=>?_⟩
 obtain⟨O',h4⟩:=vh h3 (afQ.2 ⟨x,hx,rfl⟩)
 exact⟨O',cA.toR h4⟩
theorem Cu {w:World} {s:Sl} {l:List gL} {O:List Nat} (h:(aZ s l).holds w O):VP w s l:=by
 obtain⟨xs,h1,O1,O2,h2,h3,_⟩:=h
 refine⟨xs,h1,⟨_,cA.toR h2⟩,fun x hx=>?_⟩
 obtain⟨O',h4⟩:=vh h3 (afQ.2 ⟨x,hx,rfl⟩)
 exact Ct h4
theorem QJ {w:World} {K:World->Prop} (hK: ∀w',Fr [] w w'->K w'):Dr w K:=hK _ (Fr.refl [] w).drew
theorem np {α:Type} {l m:List α} {k:Nat} (h:l.take k=m.take k) (hl:k < l.length) (hm:k < m.length) (he:l[k]=m[k]):l.take (k+1)=m.take (k+1):=by
 rw [afG hl,afG hm,h,he]
theorem sY {a b:Sl} {la lb:List Int} {w:World} (ha: ∃o,cf w a 1 iv la o) (hb: ∃o,cf w b 1 iv lb o) (B7:la.length<=1000000000) {K:Bool->World->Prop} (hK: ∀w',Fr [] w w'->K (decide (la=lb)) w'):NO a b w K:=by
 refine Km ?_
 unfold f137
 have e1:la.length=a.len:=by obtain⟨o,h⟩:=ha;exact h.1
 have e2:lb.length=b.len:=by obtain⟨o,h⟩:=hb;exact h.1
 by_cases hl:a.len=b.len
 ·refine aF (by simp [hl]) ?_
  refine⟨fun i mm w'=> ∃k:Nat,i=k /\ k<=la.length /\ mm=la.length - k /\ la.take k=lb.take k /\ Fr [] w w',⟨la.length,0,rfl,by omega,rfl,by simp,Fr.refl _ _⟩,?_⟩
  rintro i mm w1 ⟨k,rfl,hk,rfl,heq,hf⟩
  by_cases ar:k < la.length
  ·refine aE (by simp;omega) ?_
   refine QJ fun w2 iH=>?_
   have hf:=hf.trans iH (by simp)
   have AF:k < lb.length:=by omega
   obtain⟨oa,Dx⟩:=cf.cB ha hf
   obtain⟨ob,eU⟩:=cf.cB hb hf
   refine cf.ix aq Dx (by omega) (x:=la[k]) (by simp [ar]) fun ad hc=>?_
   refine ep (k:=.i .i64) (x:=la[k]) (hc 0 (by omega)) rfl ?_
   refine cf.ix aq eU (by omega) (x:=lb[k]) (by simp [AF]) fun Fo jE=>?_
   refine ep (k:=.i .i64) (x:=lb[k]) (jE 0 (by omega)) rfl ?_
   by_cases he:la[k]=lb[k]
   ·exact aF (by simp [he]) ⟨la.length - (k+1),by omega,k+1,by rw [aB (by omega) (by omega)];omega,by omega,rfl,np heq ar AF he,hf⟩
   ·refine aE (by simp [he]) ?_
    have:=hK w2 hf
    rwa [decide_eq_false (fun e=>he (by simp [e]))] at this
  ·refine aF (by simp;omega) ?_
   have:=hK w1 hf
   rw [afE (by omega),afE (by omega)] at heq
   rwa [decide_eq_true heq] at this
 ·refine aE (by simp;omega) ?_
  have:=hK w (Fr.refl _ _)
  rwa [decide_eq_false (fun e=>hl (by rw [<-e1,<-e2,e]))] at this
theorem vi {a b:Sl} {la lb:List Part} {w:World} (ha:vK w a la) (hb:vK w b lb) (B7:la.length<=1000000000) (hv: ∀x∈la,x.2.length<=1000000000) {K:Bool->World->Prop} (hK: ∀w',Fr [] w w'->K (decide (la=lb)) w'):W3 a b w K:=by
 refine PG ?_
 unfold f91
 obtain⟨xa,a1,a2,a3⟩:=ha
 obtain⟨xb,b1,b2,b3⟩:=hb
 have e1:xa.length=a.len:=by obtain⟨o,h⟩:=a2;exact h.1
 have e2:xb.length=b.len:=by obtain⟨o,h⟩:=b2;exact h.1
 have e3:la.length=xa.length:=by rw [<-a1,afP]
 have e4:lb.length=xb.length:=by rw [<-b1,afP]
 by_cases hl:a.len=b.len
 ·refine aF (by simp [hl]) ?_
  refine⟨fun i mm w'=> ∃k:Nat,i=k /\ k<=la.length /\ mm=la.length - k /\ la.take k=lb.take k /\ Fr [] w w',⟨la.length,0,rfl,by omega,rfl,by simp,Fr.refl _ _⟩,?_⟩
  rintro i mm w1 ⟨k,rfl,hk,rfl,heq,hf⟩
  by_cases ar:k < la.length
  ·refine aE (by simp;omega) ?_
   refine QJ fun w2 iH=>?_
   have hf:=hf.trans iH (by simp)
   have AF:k < lb.length:=by omega
   have y4:xa[k]? =some (xa[k]'(by omega)):=afD _
   have Cv:xb[k]? =some (xb[k]'(by omega)):=afD _
   have g1:la[k]=bN (xa[k]'(by omega)):=by simp [<-a1]
   have g2:lb[k]=bN (xb[k]'(by omega)):=by simp [<-b1]
   have va:=a3 _ (afz y4)
   have vb:=b3 _ (afz Cv)
   have EJ:=hv la[k] (afR ar)
   rw [g1] at EJ
   generalize xa[k]'(by omega)=x at y4 g1 va EJ
   generalize xb[k]'(by omega)=y at Cv g2 vb
   obtain⟨oa,Dx⟩:=cf.cB a2 hf
   obtain⟨ob,eU⟩:=cf.cB b2 hf
   refine cf.ix aW Dx (by omega) (x:=x) (by rw [afu];exact y4) fun ad hc=>?_
   refine j8 (k:=.sl) (x:=x.2.1) (hc 1 (by omega)) rfl ?_
   refine cf.ix aW eU (by omega) (x:=y) (by rw [afu];exact Cv) fun Fo jE=>?_
   refine j8 (k:=.sl) (x:=y.2.1) (jE 1 (by omega)) rfl ?_
   refine sY (cf.cB va hf) (cf.cB vb hf) EJ fun w3 yV=>?_
   refine QJ fun w4 KX=>?_
   have hf:=(hf.trans yV (by simp)).trans KX (by simp)
   by_cases hv:x.2.2=y.2.2
   ·rw [decide_eq_true hv]
    refine aF (by simp) ?_
    obtain⟨oa,Vv⟩:=cf.cB a2 hf
    obtain⟨ob,pC⟩:=cf.cB b2 hf
    refine cf.ix aW Vv (by omega) (x:=x) (by rw [afu];exact y4) fun ad hc=>?_
    refine ep (k:=.i .i64) (x:=x.1) (hc 0 (by omega)) rfl ?_
    refine cf.ix aW pC (by omega) (x:=y) (by rw [afu];exact Cv) fun Fo jE=>?_
    refine ep (k:=.i .i64) (x:=y.1) (jE 0 (by omega)) rfl ?_
    by_cases he:x.1=y.1
    ·refine aF (by simp [he]) ⟨la.length - (k+1),by omega,k+1,by rw [aB (by omega) (by omega)];omega,by omega,rfl,np heq ar AF ?_,hf⟩
     rw [g1,g2]
     exact ahg he hv
    ·refine aE (by simp [he]) ?_
     have:=hK w4 hf
     rwa [decide_eq_false (fun e=>he (by
      have:la[k]=lb[k]:=by simp [e]
      rw [g1,g2] at this
      exact(agK this).1))] at this
   ·rw [decide_eq_false hv]
    refine aE rfl ?_
    have:=hK w4 hf
    rwa [decide_eq_false (fun e=>hv (by
     have:la[k]=lb[k]:=by simp [e]
     rw [g1,g2] at this
     exact(agK this).2))] at this
  ·refine aF (by simp;omega) ?_
   have:=hK w1 hf
   rw [afE (by omega),afE (by omega)] at heq
   rwa [decide_eq_true heq] at this
 ·refine aE (by simp;omega) ?_
  have:=hK w (Fr.refl _ _)
  rwa [decide_eq_false (fun e=>hl (by rw [<-e1,<-e2,<-e3,<-e4,e]))] at this
theorem wD {a b:Sl} {la lb:List gL} {w:World} (ha:VP w a la) (hb:VP w b lb) (B7:la.length<=1000000000) (hv: ∀x∈la,x.2.length<=1000000000 /\ ∀y∈x.2,y.2.length<=1000000000) {K:Bool->World->Prop} (hK: ∀w',Fr [] w w'->K (decide (la=lb)) w'):Sk a b w K:=by
 refine OM ?_
 unfold f47
 obtain⟨xa,a1,a2,a3⟩:=ha
 obtain⟨xb,b1,b2,b3⟩:=hb
 have e1:xa.length=a.len:=by obtain⟨o,h⟩:=a2;exact h.1
 have e2:xb.length=b.len:=by obtain⟨o,h⟩:=b2;exact h.1
 have e3:la.length=xa.length:=by rw [<-a1,afP]
 have e4:lb.length=xb.length:=by rw [<-b1,afP]
 by_cases hl:a.len=b.len
 ·refine aF (by simp [hl]) ?_
  refine⟨fun i mm w'=> ∃k:Nat,i=k /\ k<=la.length /\ mm=la.length - k /\ la.take k=lb.take k /\ Fr [] w w',⟨la.length,0,rfl,by omega,rfl,by simp,Fr.refl _ _⟩,?_⟩
  rintro i mm w1 ⟨k,rfl,hk,rfl,heq,hf⟩
  by_cases ar:k < la.length
  ·refine aE (by simp;omega) ?_
   refine QJ fun w2 iH=>?_
   have hf:=hf.trans iH (by simp)
   have AF:k < lb.length:=by omega
   have y4:xa[k]? =some (xa[k]'(by omega)):=afD _
   have Cv:xb[k]? =some (xb[k]'(by omega)):=afD _
   have g1:la[k]=fj (xa[k]'(by omega)):=by simp [<-a1]
   have g2:lb[k]=fj (xb[k]'(by omega)):=by simp [<-b1]
   have va:=a3 _ (afz y4)
   have vb:=b3 _ (afz Cv)
   have EJ:=hv la[k] (afR ar)
   rw [g1] at EJ
   generalize xa[k]'(by omega)=x at y4 g1 va EJ
   generalize xb[k]'(by omega)=y at Cv g2 vb
   obtain⟨oa,Dx⟩:=cf.cB a2 hf
   obtain⟨ob,eU⟩:=cf.cB b2 hf
   refine cf.ix cd Dx (by omega) (x:=x) (by rw [afu];exact y4) fun ad hc=>?_
   refine j8 (k:=.sl) (x:=x.2.1) (hc 2 (by omega)) rfl ?_
   refine cf.ix cd eU (by omega) (x:=y) (by rw [afu];exact Cv) fun Fo jE=>?_
   refine j8 (k:=.sl) (x:=y.2.1) (jE 2 (by omega)) rfl ?_
   refine vi (va.cB hf) (vb.cB hf) EJ.1 EJ.2 fun w3 yV=>?_
   refine QJ fun w4 KX=>?_
   have hf:=(hf.trans yV (by simp)).trans KX (by simp)
   by_cases hv:x.2.2=y.2.2
   ·rw [decide_eq_true hv]
    refine aF (by simp) ?_
    obtain⟨oa,Vv⟩:=cf.cB a2 hf
    obtain⟨ob,pC⟩:=cf.cB b2 hf
    refine cf.ix cd Vv (by omega) (x:=x) (by rw [afu];exact y4) fun ad hc=>?_
    refine ep (k:=.i .i64) (x:=x.1.1) (hc 0 (by omega)) rfl ?_
    refine j8 (k:=.i .i64) (x:=x.1.2) (hc 1 (by omega)) rfl ?_
    refine cf.ix cd pC (by omega) (x:=y) (by rw [afu];exact Cv) fun Fo jE=>?_
    refine ep (k:=.i .i64) (x:=y.1.1) (jE 0 (by omega)) rfl ?_
    refine j8 (k:=.i .i64) (x:=y.1.2) (jE 1 (by omega)) rfl ?_
    refine FT.SZ ?_
    by_cases he:x.1=y.1
    ·refine aF (by simp [he]) ⟨la.length - (k+1),by omega,k+1,by rw [aB (by omega) (by omega)];omega,by omega,rfl,np heq ar AF ?_,hf⟩
     rw [g1,g2]
     exact ahg he hv
    ·refine aE ?_ ?_
     ·have:(x.1.1 ==y.1.1 && x.1.2 ==y.1.2)=false:=by
       cases hh:(x.1.1 ==y.1.1 && x.1.2 ==y.1.2) with
       | false=>rfl
       | true=>
        have:=Bool.and_eq_true_iff.1 hh
        exact absurd (ahg (by simpa using this.1) (by simpa using this.2)) he
      rw [this];rfl
     have:=hK w4 hf
     rwa [decide_eq_false (fun e=>he (by
      have:la[k]=lb[k]:=by simp [e]
      rw [g1,g2] at this
      exact(agK this).1))] at this
   ·rw [decide_eq_false hv]
    refine aE rfl ?_
    have:=hK w4 hf
    rwa [decide_eq_false (fun e=>hv (by
     have:la[k]=lb[k]:=by simp [e]
     rw [g1,g2] at this
     exact(agK this).2))] at this
  ·refine aF (by simp;omega) ?_
   have:=hK w1 hf
   rw [afE (by omega),afE (by omega)] at heq
   rwa [decide_eq_true heq] at this
 ·refine aE (by simp;omega) ?_
  have:=hK w (Fr.refl _ _)
  rwa [decide_eq_false (fun e=>hl (by rw [<-e1,<-e2,<-e3,<-e4,e]))] at this
section
variable {S:List Nat} {w0 w:World} {ae:List aa}
end
end Go.Proofs.YtcccjgmekakabaaGreat.FW
end

section
namespace Go.Proofs.YtcccjgmekakabaaGreat.FW
open F
open Go Go.Den Go.Proofs
open FI (af ay pk cS)
open FT (az di bM cc dz aP gm bD iv aq)
open FP (aV eI lT bI bS tB aT cw dX cT Acc ax fi bz iC iD)
theorem cT.uniq {bs:List Int} {m:Int} {X X':List Int} {s s':Int} (h:cT bs m X s) (h':cT bs m X' s'):X=X' /\ s=s':=by
 by_cases h0:s=0
 ·by_cases Mh:s'=0
  ·rw [h.1 h0,h'.1 Mh,h0,Mh];exact⟨rfl,rfl⟩
  ·have:=h.2.2 X' (h'.2.1 Mh).1
   exact⟨this.1,by rw [this.2,(h'.2.1 Mh).2]⟩
 ·have:=h'.2.2 X (h.2.1 h0).1
  exact⟨this.1.symm,by rw [(h.2.1 h0).2,this.2]⟩
open Classical in
noncomputable def cL (bs:List Int) (aA:Int):List Int×Int:=if h: ∃p:List Int×Int,cT bs aA p.1 p.2 then Classical.choose h else ([],0)
theorem yK {bs:List Int} {m:Int} {X:List Int} {s:Int} (h:cT bs m X s):cL bs m=(X,s):=by
 have he: ∃p:List Int×Int,cT bs m p.1 p.2:=⟨(X,s),h⟩
 unfold cL
 rw [dif_pos he]
 have:=cT.uniq (Classical.choose_spec he) h
 exact ahg this.1 this.2
open Classical in
noncomputable def lZ (bs:List Int):Option (List Int×List Int):=
 if (cL bs 200).2=0 \/ ¬(∀x∈(cL bs 200).1,0<=x /\ x<=1000001) then none else some ((cL bs 200).1,bs.drop (cL bs 200).2.toNat)
def cZ:Nat->List Int->Option (List Int×List Int)
 | 0,bs=>some ([],bs)
 | n+1,bs=>if (fi bs).2=0 then none else (cZ n (bs.drop (fi bs).2.toNat)).map fun r=>((fi bs).1 :: r.1,r.2)
def fJ (ks:KD) (set:Int) (v:List Int):PL:=(List.range ks.length).map fun i=>if bit set (i+1)=1 then some ((v.drop (eL ks set i)).take (((ks[i]?).map (·.2.length)).getD 0)) else none
def cE (ks:KD):List bM->List Int->(bM->Option PL)->Option ((bM->Option PL)×List Int)
 | [],bs,row=>some (row,bs)
 | e :: es,bs,row=>
  if (ax bs).2=0 \/ (ax bs).1 % 2=1 \/ (ax bs).1 / 2 ^ (ks.length+1)≠0 then none
  else match cZ (eL ks (ax bs).1 ks.length) (bs.drop (ax bs).2.toNat) with
   | none=>none
   | some r=>cE ks es r.2 (aH row e (some (fJ ks (ax bs).1 r.1)))
noncomputable def load (ks:KD) (bs:List Int):Option WA×Int:=
 if ¬cC ks then (none,65) else match lZ bs with
 | none=>(none,64)
 | some r1=>match lZ r1.2 with
  | none=>(none,64)
  | some r2=>match cS 200 r1.1 r2.1 with
   | none=>(none,64)
   | some m=>match cE ks (m.eA m.ah.length) r2.2 (fun _=>none) with
    | none=>(none,64)
    | some r=>if r.2= [] then (some ⟨ks,m,r.1⟩,0) else (none,64)
theorem qn (ks:KD) (set:Int) {i j:Nat} (h:i<=j):eL ks set i<=eL ks set j:=by
 induction j with
 | zero=>rw [show i=0 by omega];exact afV _
 | succ j ih=>
  by_cases hi:i<=j
  ·have:=ih hi
   rw [eL];omega
  ·obtain rfl:i=j+1:=by omega
   exact afV _
theorem nq (ks:KD) (set:Int) (v:List Int):(fJ ks set v).length=ks.length:=by simp [fJ]
theorem qo {ks:KD} {set:Int} {v:List Int} {i:Nat} {k:ByteArray×List ByteArray} (hk:ks[i]? =some k):
  (fJ ks set v)[i]? =some (if bit set (i+1)=1 then some ((v.drop (eL ks set i)).take k.2.length) else none):=by
 have hl:=(aft.1 hk).1
 unfold fJ
 rw [afC,agV hl,agy,hk];rfl
theorem qp {ks:KD} {set:Int} {i:Nat} {k:ByteArray×List ByteArray} (hk:ks[i]? =some k):eL ks set (i+1)=eL ks set i+if bit set (i+1)=1 then k.2.length else 0:=by
 rw [eL,hk];rfl
theorem xH {ks:KD} {set:Int} {v:List Int} (hv:v.length=eL ks set ks.length): ∀q,q<=ks.length->flat ((fJ ks set v).take q)=v.take (eL ks set q)
 | 0,_=>by simp [eL,flat]
 | q+1,hq=>by
  have ih:=xH hv q (by omega)
  have hk:ks[q]? =some ks[q]:=by simp [show q < ks.length by omega]
  have hg:=qo (set:=set) (v:=v) hk
  have hm:=qn ks set (show q+1<=ks.length from hq)
  have hs:=qp (set:=set) hk
  rw [ri hg,ih]
  by_cases hb:bit set (q+1)=1
  ·rw [if_pos hb] at hs ⊢
   rw [hs,ag9]
   rw [List.take_add]
  ·rw [if_neg hb] at hs ⊢
   rw [hs];simp
theorem vj {ks:KD} {set:Int} {v:List Int} (hv:v.length=eL ks set ks.length):flat (fJ ks set v)=v:=by
 have:=xH hv ks.length (afV _)
 rwa [<-nq ks set v,agJ,nq,<-hv,agJ] at this
theorem AG {ks:KD} {set:Int} {v:List Int} (hv:v.length=eL ks set ks.length):(fJ ks set v).fit ks:=by
 refine⟨nq _ _ _,fun i x k hx hk=>?_⟩
 rw [qo hk] at hx
 have ky:=(aft.1 hk).1
 have hx:=afK hx
 split at hx
 ·rename_i hb
  obtain rfl:=afK hx
  have hm:=qn ks set (show i+1<=ks.length from ky)
  have hs:=qp (set:=set) hk
  rw [if_pos hb] at hs
  rw [afM,af4]
  omega
 ·cases hx
theorem AH {ks:KD} (hl:ks.length<=12) {set:Int} {v:List Int} (h0:0<=set) (h1:set % 2=0) (h2:set / 2 ^ (ks.length+1)=0):aG (fJ ks set v)=set:=by
 obtain⟨s,rfl⟩: ∃s:Nat,set=s:=⟨set.toNat,by omega⟩
 have IT:s / 2 ^ (ks.length+1)=0:=by
  have e:((s:Int) / 2 ^ (ks.length+1))=((s / 2 ^ (ks.length+1):Nat):Int):=by simp
  rw [e] at h2;omega
 have ar:s < 2 ^ (ks.length+1):=by
  rcases ahY s (2 ^ (ks.length+1)) with h | h
  ·exact h
  ·have:=Nat.div_pos h (ain _)
   omega
 unfold aG
 congr 1
 apply ahp
 intro j
 rw [na]
 cases j with
 | zero=>
  rw [Nat.testBit_zero]
  show false=_
  symm
  simp;omega
 | succ i=>
  show ((fJ ks (s:Int) v).getD i none).isSome=_
  by_cases hi:i < ks.length
  ·have hk:ks[i]? =some ks[i]:=by simp [hi]
   rw [afO,qo hk,ag9]
   have hb:bit (s:Int) (i+1)=((s / 2 ^ (i+1) % 2:Nat):Int):=by unfold bit;simp
   rw [hb,Nat.testBit_eq_decide_div_mod_eq]
   by_cases h:s / 2 ^ (i+1) % 2=1
   ·rw [if_pos (by rw [h];rfl),decide_eq_true h];rfl
   ·rw [if_neg (by omega),decide_eq_false h];rfl
  ·rw [afO,af0 (by rw [nq];omega)]
   symm
   exact Nat.testBit_lt_two_pow (ahh ar (ag1 (by omega) (by omega)))
section
variable {S:List Nat} {w0 w:World} {ae:List aa}
theorem H2 {u:aa} {f:Int->List Value} {n:Nat}:Hp.Reads u ⟨none,0,0⟩ n f ([]:List Int):=⟨fun{w O} _=>⟨[],cf.nil rfl⟩⟩
set_option maxHeartbeats 1000000 in
theorem qq (h:Hp S w0 w ae) (j:Nat) {u:aa} {b:Sl} {bs:List Int} (hj:ae[j]? =some u) (hu:Hp.Reads u b 1 eC bs) (hb:Bytes bs) (hl:bs.length<=9000000000000000) (dF:b.len<=b.cap) {K:Sl->Sl->Bool->World->Prop}
  (hK: ∀out s one w' (l VQ:List Int),cT bs 200 (cL bs 200).1 (cL bs 200).2->Hp S w0 w' (ae++ [aj out 3 1 iv l])->Hp.Reads u s 1 eC VQ->s.len<=s.cap->Bytes VQ->VQ.length<=bs.length->(one=true->lZ bs=some (l,VQ) /\ l.length<=200)->(one=false->lZ bs=none)->K out s one w'):Vg b w K:=by
 refine Po ?_
 unfold f63
 obtain⟨inf,q1,q2,q3,q4⟩:=FT.lN
 have gN:=(aft.1 hj).1
 refine FP.As h j (by rw [hj];rfl) hu hb hl dF fun s X size w1 hR h=>?_
 have hg:=yK hR
 have qB:=h.df (u:=u) j (by rw [afx gN,hj];rfl) hu
 have hX:X.length<=200:=by
  by_cases h0:size=0
  ·rw [hR.1 h0];simp
  ·have:=(hR.2.1 h0).1.2.1;omega
 have hXr:dX X:=by
  by_cases h0:size=0
  ·rw [hR.1 h0];intro x hx;cases hx
  ·exact(hR.2.1 h0).1.2.2.2.1
 have dw:0<=size /\ size<=bs.length:=by
  by_cases h0:size=0
  ·omega
  ·obtain⟨hA,he⟩:=hR.2.1 h0
   obtain⟨_,_,_,_,rest,hr⟩:=hA
   have:=congrArg List.length hr
   rw [afw] at this
   omega
 have hR':cT bs 200 (cL bs 200).1 (cL bs 200).2:=by rw [hg];exact hR
 have h:=h.nil 3 1 iv
 have eQ:=h.len (s:=s) (e:=2) (n:=1) (f:=iv) (l:=X) ae.length (by rw [afA,afv (afV _),af9];rfl)
 have g0: ∀{l:List aa} (k:Nat),(ae++l)[ae.length+k]? =l[k]? :=fun{l} k=>by rw [afv (by omega)];simp
 have s0: ∀{l:List aa} (k:Nat) (t:aa),(ae++l).set (ae.length+k) t=ae++l.set k t:=fun{l} k t=>by rw [afI _ _ (by omega)];simp
 have h:Hp S w0 w1 (ae++ [aj s 2 1 iv X]++ [aj ⟨none,0,0⟩ 3 1 iv []]):=h
 rw [afA] at h
 have h:Hp S w0 w1 (ae++ [aj s 2 1 iv X,aj ⟨none,0,0⟩ 3 1 iv []]):=h
 refine⟨fun out t17 mm w'=> ∃k:Nat,t17=k /\ k<=X.length /\ mm=X.length - k /\ (∀x∈X.take k,0<=x /\ x<=1000001) /\ Hp S w0 w' (ae++ [aj s 2 1 iv X,aj out 3 1 iv (X.take k)]),⟨X.length,0,rfl,by omega,rfl,by simp,h⟩,?_⟩
 clear h
 rintro out t17 mm w2 ⟨k,rfl,hk,rfl,bF,h⟩
 have kA:=h.len (s:=out) (e:=3) (n:=1) (f:=iv) (l:=X.take k) (ae.length+1) (by rw [g0];rfl)
 rw [afM] at kA
 by_cases ar:k < X.length
 ·refine aE (by simp;omega) ?_
  refine h.e9 (k:=.i .i64) (s:=s) (e:=2) (f:=iv) (l:=X) (y:=X[k]) (x:=X[k]) (ae.length+0) (by rw [g0];rfl) (by omega) (by simp [ar]) aq rfl ?_
  by_cases hx:0<=X[k] /\ X[k]<=1000001
  ·refine aF ?_ ?_
   ·have a1: ¬(X[k] < 0):=by omega
    have a2: ¬(X[k] > 1000001):=by omega
    simp [a1,a2]
   refine h.bL (ae.length+1) (X[k]) (c:= [_]) (by rw [g0];rfl) aq FI.dR q1 q3 q2 rfl rfl (by simp [iv,Value.oneCell']) (by rw [q4];omega) (by omega) fun bH w3 h _ _=>?_
   rw [s0] at h
   refine⟨X.length - (k+1),by omega,k+1,by rw [aB (by omega) (by omega)];omega,by omega,rfl,?_,?_⟩
   ·rw [afG ar]
    intro y hy
    rcases afB.1 hy with hy | hy
    ·exact bF y hy
    ·simp only [afF] at hy
     subst hy;exact hx
   ·rw [afG ar]
    exact h
  ·refine aE ?_ ?_
   ·by_cases a1:X[k] < 0
    ·simp [a1]
    ·have a2:X[k] > 1000001:=by omega
     simp [a1,a2]
   have h:Hp S w0 w2 (ae++ [aj s 2 1 iv X]++ [aj out 3 1 iv (X.take k)]):=by simpa using h
   refine hK _ _ _ w2 [] [] hR' (h.front.front.nil 3 1 iv) H2 (afV _) (by intro x hx;cases hx) (Nat.zero_le _) (fun hh=>by cases hh) (fun _=>?_)
   unfold lZ
   rw [hg,if_pos (.inr (fun hh=>hx (hh _ (afR ar))))]
 ·refine aF (by simp;omega) ?_
  rw [afE (by omega)] at h bF
  refine h.dr fun w3 h=>?_
  refine Hp.jT (s:=b) hu qB bx (by omega) (by omega) (by omega) (agr _) (by omega) fun s2 jO yH jE=>?_
  have H3:s2.len<=s2.cap:=by rw [yH,jE];omega
  have e1:(bs.take ((b.len:Nat):Int).toNat).drop size.toNat=bs.drop size.toNat:=by rw [afu,afE (by omega)]
  rw [e1] at jO
  have h:Hp S w0 w3 (ae++ [aj s 2 1 iv X]++ [aj out 3 1 iv X]):=by simpa using h
  have h:Hp S w0 w3 (ae++ [aj s 2 1 iv X]++ [aj out 3 1 iv X]):=h
  refine hK out s2 _ w3 X (bs.drop size.toNat) hR' h.dY jO H3 (fun x hx=>hb x (ag2 hx)) (by rw [af4];omega) (fun hh=>⟨?_,hX⟩) (fun hh=>?_)
  ·have kx:size > 0:=of_decide_eq_true hh
   unfold lZ
   rw [hg]
   dsimp only
   rw [if_neg]
   rintro(h | h)
   ·omega
   ·exact h bF
  ·have kx: ¬size > 0:=of_decide_eq_false hh
   unfold lZ
   rw [hg]
   dsimp only
   rw [if_pos (.inl (by omega))]
end
end Go.Proofs.YtcccjgmekakabaaGreat.FW
end

section
namespace Go.Proofs.YtcccjgmekakabaaGreat.FW
open F
open Go Go.Den Go.Proofs
open FI (af ay)
open FT (az di bM cc dz aP gm bD iv aq)
def RK (w:World) (O:List Nat) (s:Sl) (xs:List KS):Prop:=(∃o,cf w s 2 du xs o /\ ∀k∈o,k∈O) /\ ∀x∈xs,x.2.1.len<=x.2.1.cap /\ ∃o,cf w x.2.1 1 sv x.2.2 o /\ ∀k∈o,k∈O
def fZ (s:Sl) (xs:List KS):aa:=
  { holds:=fun w O=>(∀k∈O,k < w.heap.size) /\ RK w O s xs
    fr:=fun{S w w' O} h hf hn=>⟨fun k hk=>by have:=h.1 k hk;have:=hf.size;omega,by
      obtain⟨_,⟨o,h1,h2⟩,h3⟩:=h
      refine⟨⟨o,h1.fr hf (fun k hk=>hn k (h2 k hk)),h2⟩,fun x hx=>?_⟩
      obtain⟨q,o,h4,h5⟩:=h3 x hx
      exact⟨q,o,h4.fr hf (fun k hk=>hn k (h5 k hk)),h5⟩⟩
    lt:=fun h=>h.1}
def y5 (w:World) (s:Sl) (l:KD):Prop:= ∃(xs:List KS) (O:List Nat),kinds xs=l /\ (fZ s xs).holds w O
theorem y5.len {w:World} {s:Sl} {l:KD} (h:y5 w s l):l.length=s.len:=by
 obtain⟨xs,O,rfl,_,⟨o,h1,_⟩,_⟩:=h
 have:=h1.1
 simpa [kinds] using this
theorem nY {u:aa} {s:Sl} {xs:List KS} (hu:u.holds=(fZ s xs).holds):Hp.Reads u s 2 du xs:=⟨fun{w O} h=>by
 rw [hu] at h
 obtain⟨_,⟨o,h1,_⟩,_⟩:=h
 exact⟨o,h1⟩⟩
theorem nr {s:Sl} {xs:List KS}:Hp.Reads (fZ s xs) s 2 du xs:=nY rfl
theorem l0 {u:aa} {s:Sl} {xs:List KS} (hu:u.holds=(fZ s xs).holds) {k:Nat} {x:KS} (hx:xs[k]? =some x):Hp.Reads u x.2.1 1 sv x.2.2:=⟨fun{w O} h=>by
 rw [hu] at h
 obtain⟨_,_,h2⟩:=h
 obtain⟨_,o,h3,_⟩:=h2 x (afz hx)
 exact⟨o,h3⟩⟩
theorem xI {s:Sl} {xs:List KS} {k:Nat} {x:KS} (hx:xs[k]? =some x):Hp.Reads (fZ s xs) x.2.1 1 sv x.2.2:=l0 rfl hx
section
variable {S:List Nat} {w0 w:World} {ae:List aa}
theorem vl (h:Hp S w0 w ae) (i:Nat) {s:Sl} {xs:List KS} (hi:(ae[i]?).map aa.holds=some (fZ s xs).holds): ∀x∈xs,x.2.1.len<=x.2.1.cap /\ x.2.2.length=x.2.1.len:=fun x hx=>by
 obtain⟨O,_,_,h2⟩:=h.dQ hi
 obtain⟨q,o,h3,_⟩:=h2 x hx
 exact⟨q,h3.1⟩
set_option maxHeartbeats 2000000 in
theorem T3 (h:Hp S w0 w ae) (i:Nat) {s:Sl} {xs:List KS} (hi:(ae[i]?).map aa.holds=some (fZ s xs).holds) (hl:xs.length<=1000000000) (dw: ∀x∈xs,x.1.size<=1000000000000 /\ ∀y∈x.2.2,y.size<=1000000000000) {K:Bool->World->Prop}
  (hK: ∀w',Hp S w0 w' ae->K (decide (cC (kinds xs))) w'):Vd s w K:=by
 refine Gp ?_
 unfold f52
 obtain⟨inf,q1,q2,q3,q4⟩:=wk
 have eQ:=h.df i hi nr
 have pW:=vl h i hi
 have hn: ∀{w},Hp S w0 w ae->Hp S w0 w (ae++ [aj ⟨none,0,0⟩ 9 1 sv ([]:List ByteArray)]):=fun h=>h.nil 9 1 sv
 refine⟨fun names t m w'=> ∃k:Nat,t=k /\ k<=xs.length /\ m=xs.length - k /\ (∀q,(hq:q < xs.length)->q < k->(xs[q]).2.2.length<=4 /\ bo (xs[q]).2.2) /\ Hp S w0 w' (ae++ [aj names 9 1 sv ((xs.take k).map (·.1))]),⟨xs.length,0,rfl,by omega,rfl,fun q _ h=>by omega,by simpa using hn h⟩,?_⟩
 clear h
 rintro names t m w2 ⟨k,rfl,hk,rfl,bF,h⟩
 have I0: ∀{r:Nat} {t:aa} {more:List aa},(ae[r]?).map aa.holds=some t.holds->((ae++more)[r]?).map aa.holds=some t.holds:=fun{r t more} hr=>by
  have ar:r < ae.length:=by
   rcases ahY r ae.length with h | h
   ·exact h
   ·rw [af0 h] at hr;cases hr
  rw [afx ar];exact hr
 by_cases ar:k < xs.length
 ·refine aE (by simp;omega) ?_
  have hx:xs[k]? =some xs[k]:=by simp [ar]
  have KZ:=dw xs[k] (afR ar)
  have cX:xs.take (k+1)=xs.take k++ [xs[k]]:=afG ar
  have cP:xs[k]∈xs:=afR ar
  have sx: ∀q,(hq:q < xs.length)->q=k->((xs[k]).2.2.length<=4 /\ bo (xs[k]).2.2)->(xs[q]).2.2.length<=4 /\ bo (xs[q]).2.2:=fun q hq e h=>by subst e;exact h
  have dF:=pW _ cP
  generalize xs[k]=x at hx KZ cX cP sx dF
  have no: ¬(x.2.2.length<=4 /\ bo x.2.2)-> ¬cC (kinds xs):=fun da hm=>da (hm.1 (x.1,x.2.2) (afQ.2 ⟨x,cP,rfl⟩))
  obtain⟨O,hO⟩:=h.dQ (I0 hi)
  obtain⟨o,hR⟩:=(nr (s:=s) (xs:=xs)).rd hO
  refine cf.ix aU hR (by omega) (x:=x) (by rw [afu];exact hx) fun a hc=>?_
  refine ep (k:=.s) (x:=x.1) (hc 0 (by omega)) rfl ?_
  refine j8 (k:=.sl) (x:=x.2.1) (hc 1 (by omega)) rfl ?_
  refine h.nw (c:= [_,_]) fun kb w3 h=>?_
  have gk: ∀{c:List Value} {t:aa},((ae++ [t])++ [ai kb 107 c])[ae.length+1]? =some (ai kb 107 c):=fun{c t}=>by rw [afv (by simp)];simp
  have sk: ∀{c c':List Value} {t:aa},((ae++ [t])++ [ai kb 107 c]).set (ae.length+1) (ai kb 107 c')=(ae++ [t])++ [ai kb 107 c']:=fun{c c' t}=>by rw [afI _ _ (by simp)];simp
  refine h.iR (ae.length+1) gk (by simp) rfl fun w4 h=>?_
  rw [sk] at h
  refine h.st (n:=1) (ae.length+1) gk (by simp) rfl fun w5 h=>?_
  rw [sk] at h
  have h:Hp S w0 w5 ((ae++ [aj names 9 1 sv ((xs.take k).map (·.1))])++ [ai kb 107 [.string x.1,.slice x.2.1.a x.2.1.len x.2.1.cap]]):=h
  refine⟨fun w'=>(x.2.2.length<=4 /\ bo x.2.2) /\ Hp S w0 w' ((ae++ [aj names 9 1 sv ((xs.take k).map (·.1))])++ [ai kb 107 [.string x.1,.slice x.2.1.a x.2.1.len x.2.1.cap]]),?_,?_⟩
  ·refine h.ld (n:=1) (k:=.sl) (x:=x.2.1) (ae.length+1) (by rw [gk];rfl) rfl ?_
   by_cases h4:x.2.1.len > 4
   ·refine aE (by simp;omega) ?_
    have:=hK _ h.front.front
    rwa [decide_eq_false (no fun hh=>by omega)] at this
   refine aF (by simp;omega) ?_
   refine h.ld (n:=1) (k:=.sl) (x:=x.2.1) (ae.length+1) (by rw [gk];rfl) rfl ?_
   refine lO h i (u:=fZ s xs) (by rw [afA];exact I0 hi) (xI hx) (by omega) dF.1 KZ.2 fun w6 h=>?_
   by_cases hw:bo x.2.2
   ·exact aF (by simpa using hw) ⟨⟨by omega,hw⟩,h⟩
   ·refine aE (by simpa using hw) ?_
    have:=hK _ h.front.front
    rwa [decide_eq_false (no fun hh=>hw hh.2)] at this
  clear h
  rintro w6 ⟨fY,h⟩
  refine h.cx (k:=.s) (x:=x.1) (ae.length+1) (by rw [gk];rfl) rfl ?_
  have gn: ∀{t:aa} {more:List aa},((ae++ [t])++more)[ae.length]? =some t:=fun{t more}=>by rw [afA,afv (afV _)];simp
  have kF:=h.len (s:=names) (e:=9) (n:=1) (f:=sv) (l:=(xs.take k).map (·.1)) ae.length (by rw [gn];rfl)
  rw [afP,afM] at kF
  refine h.bL (c:= [_]) ae.length x.1 gn cR p6 q1 q3 q2 rfl rfl (by simp [sv,Value.oneCell']) (by rw [q4];omega) (by omega) fun mO w7 h _ _=>?_
  rw [afA,afI _ _ (afV _),af9] at h
  have h:Hp S w0 w7 ((ae++ [aj mO 9 1 sv ((xs.take k).map (·.1)++ [x.1])])++ [ai kb 107 [.string x.1,.slice x.2.1.a x.2.1.len x.2.1.cap]]):=by
   rw [afA];exact h
  refine⟨xs.length - (k+1),by omega,k+1,by rw [aB (by omega) (by omega)];omega,by omega,rfl,fun q hq Rr=>?_,?_⟩
  ·by_cases KN:q < k
   ·exact bF q hq KN
   ·exact sx q hq (by omega) fY
  ·rw [cX,agh]
   exact h.front
 ·refine aF (by simp;omega) ?_
  rw [afE (by omega)] at h
  have cU:(kinds xs).length=xs.length:=by simp [kinds]
  have vY:(kinds xs).map (·.1)=xs.map (·.1):=by simp [kinds]
  have gl:(ae++ [aj names 9 1 sv (xs.map (·.1))])[ae.length]? =some (aj names 9 1 sv (xs.map (·.1))):=by simp
  by_cases h1:1<=xs.length
  ·refine aE (by simp;omega) ?_
   by_cases wo:xs.length<=12
   ·refine aE (by simp;omega) ?_
    have dF:=h.cap ae.length (s:=names) (e:=9) (n:=1) (f:=sv) (l:=xs.map (·.1)) (by rw [gl];rfl)
    refine lO h ae.length (u:=aj names 9 1 sv (xs.map (·.1))) (by rw [gl];rfl) Hp.bX (by simp;omega) dF (fun y hy=>by
     obtain⟨x,hx,rfl⟩:=afQ.1 hy
     exact(dw x hx).1) fun w3 h=>?_
    have:=hK _ h.front
    have e:cC (kinds xs)↔bo (xs.map (·.1)):=by
     constructor
     ·intro hm;rw [<-vY];exact hm.2.2.2
     ·intro hw
      refine⟨fun y hy=>?_,by omega,by omega,by rw [vY];exact hw⟩
      obtain⟨x,hx,rfl⟩:=afQ.1 hy
      obtain⟨q,hq,rfl⟩:=agQ.1 hx
      exact bF q hq (by omega)
    have e2:decide (bo (xs.map (·.1)))=decide (cC (kinds xs)):=by
     by_cases hw:bo (xs.map (·.1))
     ·rw [decide_eq_true hw,decide_eq_true (e.2 hw)]
     ·rw [decide_eq_false hw,decide_eq_false (fun hm=>hw (e.1 hm))]
    rw [e2];exact this
   ·refine aF (by simp;omega) ?_
    have:=hK _ h.front
    rwa [decide_eq_false (fun hm=>wo (by have:=hm.2.2.1;omega))] at this
  ·refine aF (by simp;omega) ?_
   have:=hK _ h.front
   rwa [decide_eq_false (fun hm=>h1 (by have:=hm.2.1;omega))] at this
theorem H4 (h:Hp S w0 w ae) (i:Nat) {u:aa} {s:Sl} {xs:List KS} (hi:ae[i]? =some u) (hu:Hp.Reads u s 2 du xs) (hl:xs.length<=1000000) {K:Sl->World->Prop} (hK: ∀r w',Hp S w0 w' (ae++ [aj r 107 2 du xs])->K r w'):Jx s w K:=by
 refine CZ ?_
 unfold f110
 obtain⟨inf,q1,q2,q3,q4⟩:=xg
 have ar:=(aft.1 hi).1
 have eQ:=h.df i (by rw [hi];rfl) hu
 by_cases hn:s.a.isNone=true
 ·refine aE hn (hK _ _ ?_)
  have:xs= []:=by
   obtain⟨O,hO⟩:=h.n9 hi
   obtain⟨o,hR⟩:=hu.rd hO
   exact hR.isNil (by simpa using hn)
  rw [this];exact h.nil 107 2 du
 ·refine aF hn ?_
  refine h.nw (c:= []) fun b w1 h=>?_
  have h:=h.sr (i:=ae.length) (m:=0) (l:=([]:List KS)) (f:=du) (n:=2) afU rfl rfl aU
  rw [ch] at h
  refine h.gY ae.length i (s:=⟨some ⟨b,0,none⟩,0,0⟩) (s2:=s) afU (by rw [afx ar];exact hi) hu aU dR q1 q3 q2 rfl (by simp [du,Value.oneCell']) (by rw [q4];show (0+s.len)*40<=_;omega) (by show 0+s.len<=_;omega) fun r w2 h _ _=>?_
  rw [ch] at h
  exact hK r w2 h
theorem H5 (h:Hp S w0 w ae) (i:Nat) {s:Sl} {xs:List KS} {u:aa} (hi:ae[i]? =some u) (hu:u.holds=(fZ s xs).holds) (hl:xs.length<=1000) (Yl: ∀x∈xs,x.2.2.length<=1000) {K:Sl->World->Prop}
  (hK: ∀r ys w',kinds ys=kinds xs->Hp S w0 w' (ae++ [aj r 107 2 du ys,an (ys.map tF)])->K r w'):Sm s w K:=by
 refine Gr ?_
 unfold f54
 have gN:=(aft.1 hi).1
 refine H4 h i hi (nY hu) (by omega) fun r w1 h=>?_
 have h:=h.grow (Fr.refl _ _) (t:=an (([]:List KS).map tF)) (O:= []) rfl (by simp) rfl
 have fv:=h.len (s:=r) (e:=107) (n:=2) (f:=du) (l:=xs) ae.length (by simp)
 refine⟨fun t m w'=> ∃(k:Nat) (ys:List KS),t=k /\ k<=xs.length /\ m=xs.length - k /\ ys.length=k /\ kinds ys=(kinds xs).take k /\ Hp S w0 w' (ae++ [aj r 107 2 du (ys++xs.drop k),an (ys.map tF)]),⟨xs.length,0,[],rfl,by omega,rfl,rfl,by simp [kinds],by simpa using h⟩,?_⟩
 clear h
 rintro t m w2 ⟨k,ys,rfl,hk,rfl,vI,Bb,h⟩
 have g0: ∀{a b:aa} {more:List aa},(ae++ [a,b]++more)[ae.length]? =some a:=fun{a b more}=>by rw [afA,afv (afV _)];simp
 have Ym: ∀{a b:aa},(ae++ [a,b])[ae.length]? =some a:=fun{a b}=>by rw [afv (afV _)];simp
 have g1: ∀{a b c:aa},(ae++ [a,b]++ [c])[ae.length+1]? =some b:=fun{a b c}=>by rw [afA,afv (by omega)];simp
 have g2: ∀{a b c:aa},(ae++ [a,b]++ [c])[ae.length+2]? =some c:=fun{a b c}=>by rw [afA,afv (by omega)];simp
 by_cases ar:k < xs.length
 ·refine aE (by simp;omega) ?_
  have hx:xs[k]? =some xs[k]:=by simp [ar]
  have ed:xs.drop k=xs[k] :: xs.drop (k+1):=agf ar
  have Yn:=Yl xs[k] (afR ar)
  have Ei:(kinds xs).take (k+1)=(kinds xs).take k++ [(xs[k].1,xs[k].2.2)]:=by
   rw [afG (by simpa [kinds] using ar)];simp [kinds]
  generalize xs[k]=x at hx ed Yn Ei
  have Mi:(ys++xs.drop k)[((k:Nat):Int).toNat]? =some x:=by rw [afu,ed,afv (by omega),vI,af9];rfl
  refine h.sq ae.length (by rw [Ym];rfl) (by omega) Mi aU fun a hc=>?_
  refine j8 (k:=.sl) (x:=x.2.1) (hc 1 (by omega)) rfl ?_
  refine sy h i (u:=u) (by rw [afx gN];exact hi) (l0 hu hx) (by omega) fun fs w3 h=>?_
  refine h.Db ae.length (y:=x) (y':=(x.1,fs,x.2.2)) (m:=1) g0 (by omega) Mi aU (by omega) rfl rfl fun w4 h=>?_
  have e1:(ys++xs.drop k).set ((k:Nat):Int).toNat (x.1,fs,x.2.2)=ys++ [(x.1,fs,x.2.2)]++xs.drop (k+1):=by
   rw [afu,ed,afI _ _ (by omega),vI,af9,afN];simp
  rw [e1,afA ae,afI _ _ (afV _),af9] at h
  have h:Hp S w0 w4 (ae++ [aj r 107 2 du (ys++ [(x.1,fs,x.2.2)]++xs.drop (k+1)),an (ys.map tF)]++ [tF (x.1,fs,x.2.2)]):=by rw [afA];exact h
  have h:=xh h (i:=ae.length+1) (j:=ae.length+2) (by omega) g1 g2
  have e2:((ae++ [aj r 107 2 du (ys++ [(x.1,fs,x.2.2)]++xs.drop (k+1)),an (ys.map tF)]++ [tF (x.1,fs,x.2.2)]).set (ae.length+1) (an ((ys++ [(x.1,fs,x.2.2)]).map tF))).set (ae.length+2) ao=ae++ [aj r 107 2 du (ys++ [(x.1,fs,x.2.2)]++xs.drop (k+1)),an ((ys++ [(x.1,fs,x.2.2)]).map tF)]++ [ao]:=by
   rw [afA,afI _ _ (by omega),afI _ _ (by omega)]
   simp
  rw [e2] at h
  refine⟨xs.length - (k+1),by omega,k+1,ys++ [(x.1,fs,x.2.2)],by rw [aB (by omega) (by omega)];omega,by omega,rfl,by simp [vI],?_,h.front⟩
  rw [Ei,<-Bb];simp [kinds]
 ·refine aF (by simp;omega) ?_
  rw [agq (by omega),afH] at h
  refine hK r ys _ ?_ h
  rw [Bb,afE (by simp [kinds];omega)]
theorem T4 (h:Hp S w0 w ae) (i:Nat) {s:Sl} {xs:List KS} {u:aa} (hi:ae[i]? =some u) (hu:u.holds=(fZ s xs).holds) (hl:xs.length<=10000000) (dw: ∀x∈xs,x.1.size<=1000000000000 /\ ∀y∈x.2.2,y.size<=1000000000000) {K:Option Addr->Int->World->Prop}
  (bK:cC (kinds xs)-> ∀b w',Hp S w0 w' (ae++ [jH b ⟨kinds xs,⟨200,[],[],[]⟩,fun _=>none,[]⟩])->K (some ⟨b,0,none⟩) 0 w') (da: ¬cC (kinds xs)-> ∀w',Hp S w0 w' ae->K none 65 w'):Nr s w K:=by
 refine Gg ?_
 unfold f13
 refine T3 h i (by rw [hi];exact congrArg some hu) (by omega) dw fun w1 h=>?_
 by_cases hm:cC (kinds xs)
 ·rw [decide_eq_true hm]
  refine aF (by simp) ?_
  have ky:=(aft.1 hi).1
  have h4: ∀x∈xs,x.2.2.length<=4:=fun x hx=>(hm.1 (x.1,x.2.2) (afQ.2 ⟨x,hx,rfl⟩)).1
  have wo:xs.length<=12:=by have:=hm.2.2.1;simpa [kinds] using this
  refine FI.Mq h (n:=200) (by omega) (by omega) fun pb w2 h=>?_
  refine aF (by simp) ?_
  refine H5 h i (by rw [afx ky];exact hi) hu (by omega) (fun x hx=>by have:=h4 x hx;omega) fun r ys w3 wP h=>?_
  refine h.wX fun ms w4 h=>?_
  refine h.wX fun mt w5 h=>?_
  refine h.nw (c:= [_,_,_,_]) fun b w6 h=>?_
  have h:=h.grow (Fr.refl _ _) (t:=an (([]:List TT).map tT)) (O:= []) rfl (by simp) rfl
  simp only [afA,af3,aga] at h
  have cL: ∀{l:List aa} (k:Nat),(ae++l)[ae.length+k]? =l[k]? :=fun{l} k=>by rw [afv (by omega)];simp
  have fB: ∀{l:List aa} (k:Nat) (t:aa),(ae++l).set (ae.length+k) t=ae++l.set k t:=fun{l} k t=>by rw [afI _ _ (by omega)];simp
  have h:=h.xd (i:=ae.length+3) cc (Value.int .i64) (by rw [cL];rfl)
  rw [fB] at h
  have h:=h.xd (i:=ae.length+4) (Value.int .i64) pv (by rw [cL];rfl)
  rw [fB] at h
  simp only [afN,afZ] at h
  have et:(fun _=>none:Int->Option Nat)=db []:=rfl
  rw [et] at h
  have q:WH.fits ⟨kinds xs,⟨200,[],[],[]⟩,fun _=>none,[]⟩ ⟨r,ys,pb,ms,mt,[]⟩:=⟨wP,rfl⟩
  have h:=h.aL (i:=ae.length+4) (j:=ae.length+6) (by omega) (by rw [cL];rfl) (by rw [cL];rfl) rfl (aK _)
  rw [fB,fB] at h
  simp only [afN,afZ] at h
  have h:=h.aL (i:=ae.length+3) (j:=ae.length+4) (by omega) (by rw [cL];rfl) (by rw [cL];rfl) rfl rfl
  rw [fB,fB] at h
  simp only [afN,afZ] at h
  have h:=h.aL (i:=ae.length+0) (j:=ae.length+3) (by omega) (by rw [cL];rfl) (by rw [cL];rfl) rfl rfl
  rw [fB,fB] at h
  simp only [afN,afZ] at h
  have h:=h.aL (i:=ae.length+2) (j:=ae.length+0) (by omega) (by rw [cL];rfl) (by rw [cL];rfl) (aK _) rfl
  rw [fB,fB] at h
  simp only [afN,afZ] at h
  have h:=h.aL (i:=ae.length+1) (j:=ae.length+2) (by omega) (by rw [cL];rfl) (by rw [cL];rfl) rfl rfl
  rw [fB,fB] at h
  simp only [afN,afZ] at h
  have h:=h.aL (i:=ae.length+5) (j:=ae.length+1) (by omega) (by rw [cL];rfl) (by rw [cL];rfl) rfl rfl
  rw [fB,fB] at h
  simp only [afN,afZ] at h
  have h:=h.jA (i:=ae.length+5) q (by rw [cL];rfl) rfl
  rw [fB] at h
  simp only [afN,afZ] at h
  have h:=h.mg (f:=fun q:WH=>kz (q.fits ⟨kinds xs,⟨200,[],[],[]⟩,fun _=>none,[]⟩) (aX (q.v7 b) (aX (aj q.sk 107 2 du q.xs) (aX (an (q.xs.map tF)) (aX (ay 149 q.pb ⟨200,[],[],[]⟩) (aX (fX q.ms cc (Value.int .i64) (fun _=>none)) (aX (fX q.mt (Value.int .i64) pv (db q.T)) (an (q.T.map tT))))))))) (i:=ae.length+5) ⟨r,ys,pb,ms,mt,[]⟩ (by rw [cL];rfl) rfl
  rw [fB] at h
  simp only [afN,afZ] at h
  have h:Hp S w0 w6 (ae++ [ao,ao,ao,ao,ao]++ [jH b ⟨kinds xs,⟨200,[],[],[]⟩,fun _=>none,[]⟩]++ [ao]):=by
   simp only [afA,af3,aga]
   exact h
  exact bK hm b _ h.front.nT
 ·rw [decide_eq_false hm]
  exact aE rfl (da hm _ h)
theorem T5 (h:Hp S w0 w ae) {s:Sl} {l:KD} (hr:y5 w s l) (hl:l.length<=10000000) (dw: ∀x∈l,x.1.size<=1000000000000 /\ ∀y∈x.2,y.size<=1000000000000) {K:Option Addr->Int->World->Prop}
  (bK:cC l-> ∀b w',Hp S w0 w' (ae++ [tW b (WA.new l)])->K (some ⟨b,0,none⟩) 0 w') (da: ¬cC l-> ∀w',Hp S w0 w' ae->K none 65 w'):Nr s w K:=by
 obtain⟨xs,O,rfl,hO⟩:=hr
 have h1:Hp [] w w [(fZ s xs).ro]:=(Hp.init w).ey hO (by simp)
 refine T4 h1 0 rfl rfl (by simpa [kinds] using hl) (fun x hx=>?_) (fun hm b w' h1=>?_) (fun hm w' h1=>da hm w' (h.cB h1.1))
 ·exact dw (x.1,x.2.2) (afQ.2 ⟨x,hx,rfl⟩)
 ·refine bK hm b w' ?_
  have h1:=h1.jA (i:=1) (p:=(WA.new (kinds xs)).Ok /\ eD (kinds xs) (fun _=>none) (WA.new (kinds xs)).m.aJ []) ⟨WA.HY hm,eD.new (kinds xs)⟩ rfl rfl
  have h1:=h1.mg (i:=1) (f:=fun T:List (Int×az)=>kz ((WA.new (kinds xs)).Ok /\ eD (WA.new (kinds xs)).ks (WA.new (kinds xs)).row (WA.new (kinds xs)).m.aJ T) (jH b ⟨(WA.new (kinds xs)).ks,(WA.new (kinds xs)).au,(WA.new (kinds xs)).m.aJ,T⟩)) [] rfl rfl
  have h1:Hp [] w w' [(fZ s xs).ro,tW b (WA.new (kinds xs))]:=h1
  exact h.r0 (rest:= [tW b (WA.new (kinds xs))]) rfl (h1.gC [1] (by decide) rfl)
end
end Go.Proofs.YtcccjgmekakabaaGreat.FW
end

section
namespace Go.Proofs.YtcccjgmekakabaaGreat.FW
open F
open Go Go.Den Go.Proofs
open FI (af ay)
open FT (az di bM cc dz aP gm bD iv aq)
abbrev LM:=Sl×Int
abbrev ly (x:LM):List Value:= [.slice x.1.a x.1.len x.1.cap]
abbrev ml (x:LM):List Value:= [.int .i64 x.2]
theorem jf (x:LM):(ly x).length=1:=rfl
theorem fO (x:LM):(ml x).length=1:=rfl
abbrev g1 (m:Int):List Value:= [.int .i64 m,.slice none 0 0]
abbrev g2 (m:Int):List Value:= [.int .i64 m,.int .i64 0,.slice none 0 0]
theorem QK (x:Int):(g1 x).length=2:=rfl
theorem QL (x:Int):(g2 x).length=3:=rfl
theorem ME:Tryz.prog.underlying 46=some (.slice 34):=by kernel_rfl
theorem MF:Tryz.prog.underlying 47=some (.slice 37):=by kernel_rfl
theorem MG:Tryz.prog.underlying 48=some (.slice 71):=by kernel_rfl
theorem H6:Tryz.prog.underlying 34=some (.slice 2):=by kernel_rfl
theorem AI:Tryz.prog.underlying 49=some (.slice 3):=by kernel_rfl
theorem AJ: ∃inf:TypeInfo,Tryz.prog.info? 34=some inf /\ inf.zero=some (.slice none 0 0) /\ inf.size=1 /\ inf.bytes=24:=fE (by kernel_rfl)
theorem H7: ∃inf:TypeInfo,Tryz.prog.info? 37=some inf /\ inf.zero=some (.slice none 0 0) /\ inf.size=1 /\ inf.bytes=24:=fE (by kernel_rfl)
theorem MH: ∃inf:TypeInfo,Tryz.prog.info? 71=some inf /\ inf.zero=some (.slice none 0 0) /\ inf.size=1 /\ inf.bytes=24:=fE (by kernel_rfl)
theorem jC: ∃inf:TypeInfo,Tryz.prog.info? 2=some inf /\ inf.zero=some (.int .i64 0) /\ inf.size=1 /\ inf.bytes=8:=fE (by kernel_rfl)
def Dy (n:Nat) (g:Int->List Value) (w:World) (O:List Nat) (x:LM):Prop:= ∃O1,cf w x.1 n g (List.replicate x.1.len x.2) O1 /\ ∀k∈O1,k∈O
theorem Dy.mono {n:Nat} {g:Int->List Value} {w:World} {O O':List Nat} {x:LM} (h:Dy n g w O x) (ho: ∀k∈O,k∈O'):Dy n g w O' x:=by
 obtain⟨O1,h3,h4⟩:=h
 exact⟨O1,h3,fun k hk=>ho k (h4 k hk)⟩
def eg (n:Nat) (g:Int->List Value) (es:List LM):aa:=
  { holds:=fun w O=>(∀k∈O,k < w.heap.size) /\ ∀x∈es,Dy n g w O x
    fr:=fun{S w w' O} h hf hn=>⟨fun k hk=>by have:=h.1 k hk;have:=hf.size;omega,fun x hx=>by
      obtain⟨O1,h3,h4⟩:=h.2 x hx
      exact⟨O1,h3.fr hf (fun k hk=>hn k (h4 k hk)),h4⟩⟩
    lt:=fun h=>h.1}
def pend (e:TypeId) (n:Nat) (g:Int->List Value) (x:LM):aa:=aj x.1 e n g (List.replicate x.1.len x.2)
structure Sh where
 v:Sl
 x:Sl
 ec:List LM
 new:List LM
def pd (et em e:TypeId) (n:Nat) (g:Int->List Value) (q:Sh):aa:=
 aX (aj q.v et 1 ly (q.ec++q.new)) (aX (aj q.x em 1 ml (q.ec++q.new)) (aX (eg n g q.ec) (an (q.new.map (pend e n g)))))
def Sh.fits (q:Sh) (N M:Nat):Prop:=q.ec.length<=N /\ q.new.length<=M /\ (∀x∈q.ec,x.1.len<=20000) /\ ∀x∈q.new,x.1.len<=10000
abbrev fm:=pd 34 2 2 1 iv
abbrev eS:=pd 37 3 36 2 g1
abbrev eT:=pd 71 3 75 3 g2
structure PC where
 a:Value
 b:Value
 k:Value
 g:Value
 o:Value
 s:Value
structure BK where
 V:Sh
 P:Sh
 R:Sh
abbrev BK.cells (q:BK) (p:PC):List Value:= [p.a,p.b,p.k,p.g,p.o,p.s,.slice q.V.v.a q.V.v.len q.V.v.cap,.slice q.P.v.a q.P.v.len q.P.v.cap,.slice q.R.v.a q.R.v.len q.R.v.cap,
 .slice q.V.x.a q.V.x.len q.V.x.cap,.slice q.P.x.a q.P.x.len q.P.x.cap,.slice q.R.x.a q.R.x.len q.R.x.cap,.int .i64 (q.V.ec.length:Nat),.int .i64 (q.P.ec.length:Nat),.int .i64 (q.R.ec.length:Nat)]
def BK.fits (q:BK) (N M:Nat):Prop:=q.V.fits N M /\ q.P.fits N M /\ q.R.fits N M
def bw (bp:Nat) (p:PC) (N M:Nat):aa:=KK fun q:BK=>kz (q.fits N M) (aX (ai bp 53 (q.cells p)) (aX (fm q.V) (aX (eS q.P) (eT q.R))))
theorem Sh.fits.mono {q:Sh} {N M N' M':Nat} (h:q.fits N M) (hn:N<=N') (hm:M<=M'):q.fits N' M':=⟨by have:=h.1;omega,by have:=h.2.1;omega,h.2.2⟩
section
variable {S:List Nat} {w0 w:World} {ae:List aa}
theorem ns {X:Type} {sub:X->aa} (h:Hp S w0 w ae) {i j:Nat} (aR:i≠j) {ys:List X} {y:X} (ho:(sub y).own=true) (hi:ae[i]? =some (an (ys.map sub))) (hj:ae[j]? =some (sub y)):Hp S w0 w ((ae.set i (an ((ys++ [y]).map sub))).set j ao):=
 h.join (c:=an ((ys++ [y]).map sub)) aR hi hj (aK _) ho (aK _) (fun w O1 O2 g1 g2 g3=>by
  rw [agh]
  exact iy g1 (us:= [sub y]) (O2:=O2) ⟨O2,[],g2,rfl,by simp,by simp⟩ g3)
theorem H8 {α β:Type} {s:Sl} {e:TypeId} {n:Nat} {f:α->List Value} {g:β->List Value} {l:List α} {l':List β} (h:Hp S w0 w ae) {i:Nat} (hi:ae[i]? =some (aj s e n f l)) (hl:l.length=l'.length) (hf:l.flatMap f=l'.flatMap g):
  Hp S w0 w (ae.set i (aj s e n g l')):=
 h.sU hi rfl (fun w O hO=>by
  have hO:cA w s e n f l O:=hO
  show cA w s e n g l' O
  unfold cA at hO ⊢
  rw [<-hl,<-hf];exact hO) rfl
theorem fo {et em e:TypeId} {n:Nat} {g:Int->List Value} {q:Sh} (h:Hp S w0 w ae) {i:Nat} (hi:ae[i]? =some (pd et em e n g q)):
  Hp S w0 w (ae.set i (aj q.v et 1 ly (q.ec++q.new))++ [aj q.x em 1 ml (q.ec++q.new),eg n g q.ec,an (q.new.map (pend e n g))]):=by
 have hl:=(aft.1 hi).1
 have e1: ∀(l:List aa) (t:aa),(l++ [t])[l.length]? =some t:=fun l t=>by simp
 have h:=h.split hi rfl rfl
 have h:=h.split (e1 _ _) rfl rfl
 rw [afI _ _ (afV _),af9,afN] at h
 have h:=h.split (e1 _ _) rfl (aK _)
 rw [afI _ _ (afV _),af9,afN] at h
 simpa using h
theorem gd {et em e:TypeId} {n:Nat} {g:Int->List Value} (q:Sh) {rest:List aa}
  (h:Hp S w0 w (aj q.v et 1 ly (q.ec++q.new) :: aj q.x em 1 ml (q.ec++q.new) :: eg n g q.ec :: an (q.new.map (pend e n g)) :: rest)):Hp S w0 w (pd et em e n g q :: rest):=by
 have h:=h.aL (i:=2) (j:=3) (by omega) rfl rfl rfl (aK _)
 have h:=h.aL (i:=1) (j:=2) (by omega) rfl rfl rfl rfl
 have h:=h.aL (i:=0) (j:=1) (by omega) rfl rfl rfl rfl
 have h:Hp S w0 w (pd et em e n g q :: ao :: ao :: ao :: rest):=h
 exact h.fc.fc.fc
theorem jr (h:Hp S w0 w ae) {i bp:Nat} {p:PC} {N M:Nat} (hi:ae[i]? =some (bw bp p N M)):
  ∃q:BK,q.fits N M /\ Hp S w0 w (ae.set i (ai bp 53 (q.cells p))++ [fm q.V,eS q.P,eT q.R]):=by
 have hl:=(aft.1 hi).1
 have e1: ∀(l:List aa) (t:aa),(l++ [t])[l.length]? =some t:=fun l t=>by simp
 obtain⟨q,h⟩:=h.oX hi (fun _=>rfl)
 obtain⟨hq,h⟩:=h.nO (i:=i) (by rw [afX hl]) rfl
 rw [agz] at h
 have h:=h.split (i:=i) (by rw [afX hl]) rfl rfl
 rw [agz] at h
 have h:=h.split (e1 _ _) rfl rfl
 rw [afI _ _ (afV _),af9,afN] at h
 have h:=h.split (e1 _ _) rfl rfl
 rw [afI _ _ (afV _),af9,afN] at h
 exact⟨q,hq,by simpa using h⟩
theorem ma {bp:Nat} {p:PC} {N M:Nat} (q:BK) (hq:q.fits N M) {rest:List aa}
  (h:Hp S w0 w (ai bp 53 (q.cells p) :: fm q.V :: eS q.P :: eT q.R :: rest)):Hp S w0 w (bw bp p N M :: rest):=by
 have h:=h.aL (i:=2) (j:=3) (by omega) rfl rfl rfl rfl
 have h:=h.aL (i:=1) (j:=2) (by omega) rfl rfl rfl rfl
 have h:=h.aL (i:=0) (j:=1) (by omega) rfl rfl rfl rfl
 have h:=h.jA (i:=0) hq rfl rfl
 have h:=h.mg (f:=fun q:BK=>kz (q.fits N M) (aX (ai bp 53 (q.cells p)) (aX (fm q.V) (aX (eS q.P) (eT q.R))))) (i:=0) q rfl rfl
 have h:Hp S w0 w (bw bp p N M :: ao :: ao :: ao :: rest):=h
 exact h.fc.fc.fc
theorem AK {n:Int} {K:Int->World->Prop} (hK: ∀r:Nat,r<=70->K r w):Jv n w K:=by
 refine JW ?_
 unfold f108
 by_cases h:n < 4
 ·exact aE (by simp [h]) (hK 70 (by omega))
 ·exact aF (by simp [h]) (hK 9 (by omega))
theorem yL {α:Type} {l:List α} {m:α} {k:Nat} (hk:k < l.length) (ht:l.take k=List.replicate k m):(l.set k m).take (k+1)=List.replicate (k+1) m:=by
 rw [List.take_set,ag5,ht,afD hk,ahG]
 simp
theorem yM {α:Type} {l:List α} {m:α} {k:Nat} (hk:l.length<=k) (ht:l.take k=List.replicate k m) (R4:k<=l.length):l=List.replicate l.length m:=by
 rw [afE hk] at ht
 have:k=l.length:=by omega
 rw [this] at ht;exact ht
set_option maxHeartbeats 4000000 in
theorem AL (h:Hp S w0 w ae) (i j:Nat) (mJ:i≠j) {bp:Nat} {p:PC} {N M:Nat} {l:Sl} {xs:List Int} (hi:ae[i]? =some (bw bp p N M)) (hj:ae[j]? =some (aj l 2 1 iv xs)) (hN:N+M<=1000000000) (hl:xs.length<=10000)
  {K:World->Prop} (hK: ∀w',Hp S w0 w' ((ae.set i (bw bp p N (M+1))).set j ao)->K w'):W4 (some ⟨bp,6,none⟩) l w K:=by
 refine PH ?_
 unfold f93
 obtain⟨jC,i1,i2,i3,i4⟩:=jC
 obtain⟨AJ,j1,j2,j3,j4⟩:=AJ
 obtain⟨O,h1,back⟩:=h.f2 mJ hi hj rfl rfl
 clear h
 have h:=h1
 clear h1
 obtain⟨⟨⟨v,x,ec,new⟩,P,R⟩,hq,h⟩:=jr h (i:=0) rfl
 have h:=fo h (i:=2) rfl
 have h:Hp O w w [ai bp 53 (BK.cells ⟨⟨v,x,ec,new⟩,P,R⟩ p),aj l 2 1 iv xs,aj v 34 1 ly (ec++new),eS P,eT R,aj x 2 1 ml (ec++new),eg 1 iv ec,an (new.map (pend 2 1 iv))]:=h
 have gi:=h.len (s:=v) 2 rfl
 have kS:=h.len (s:=x) 5 rfl
 have nH:=h.len (s:=l) 1 rfl
 have hlen:(ec++new).length<=N+M:=by have:=hq.1.1;have:=hq.1.2.1;rw [afw];dsimp only at*;omega
 refine bg ?_
 refine h.GK (k:=.sl) (x:=v) 0 rfl rfl ?_
 generalize IntKind.i64.wrap (1000000+(v.len:Int))=m
 refine⟨fun t mm w'=> ∃(k:Nat) (ys:List Int),t=k /\ k<=xs.length /\ mm=xs.length - k /\ ys.length=xs.length /\ ys.take k=List.replicate k m /\ Hp O w w' [ai bp 53 (BK.cells ⟨⟨v,x,ec,new⟩,P,R⟩ p),aj l 2 1 iv ys,aj v 34 1 ly (ec++new),eS P,eT R,aj x 2 1 ml (ec++new),eg 1 iv ec,an (new.map (pend 2 1 iv))],⟨xs.length,0,xs,rfl,by omega,rfl,rfl,by simp,h⟩,?_⟩
 clear h
 rintro t mm w2 ⟨k,ys,rfl,hk,rfl,vI,MI,h⟩
 by_cases ar:k < xs.length
 ·refine aE (by simp;omega) ?_
  refine h.mL (y:=m) 1 rfl (by omega) (by rw [afu];omega) aq rfl rfl fun w3 h=>?_
  rw [afu] at h
  exact⟨xs.length - (k+1),by omega,k+1,ys.set k m,by rw [aB (by omega) (by omega)];omega,by omega,rfl,by simpa using vI,yL (by omega) MI,h⟩
 ·refine aF (by simp;omega) ?_
  have wP:ys=List.replicate l.len m:=by
   have:=yM (k:=k) (by omega) MI (by omega)
   rw [vI,nH] at this;exact this
  subst wP
  refine bg ?_
  refine h.GK (k:=.sl) (x:=v) 0 rfl rfl ?_
  refine h.bL 2 ((l,m):LM) (c:= [_]) rfl jf ME j1 j3 j2 rfl rfl (by simp [Value.oneCell']) (by rw [j4];omega) (by omega) fun s w3 h hs _=>?_
  refine bg ?_
  refine h.PW 0 rfl (by simp) rfl fun w4 h=>?_
  refine bg ?_
  refine h.pV (n:=6) (m:=3) (k:=.sl) (x:=x) 0 rfl rfl ?_
  refine h.bL 5 ((l,m):LM) (c:= [_]) rfl fO H6 i1 i3 i2 rfl rfl (by simp [Value.oneCell']) (by rw [i4];omega) (by omega) fun s2 w5 h jO _=>?_
  refine bg ?_
  refine h.A7 (m:=3) 0 rfl (by simp) rfl fun w6 h=>?_
  have h:=ns h (i:=7) (j:=1) (sub:=pend 2 1 iv) (ys:=new) (y:=(l,m)) (by decide) rfl rfl rfl
  rw [afA] at h
  have h:Hp O w w6 [ai bp 53 (BK.cells ⟨⟨s,s2,ec,new++ [(l,m)]⟩,P,R⟩ p),ao,aj s 34 1 ly (ec++(new++ [(l,m)])),eS P,eT R,aj s2 2 1 ml (ec++(new++ [(l,m)])),eg 1 iv ec,an ((new++ [(l,m)]).map (pend 2 1 iv))]:=h
  have h:Hp O w w6 [aj s 34 1 ly (ec++(new++ [(l,m)])),aj s2 2 1 ml (ec++(new++ [(l,m)])),eg 1 iv ec,an ((new++ [(l,m)]).map (pend 2 1 iv)),ai bp 53 (BK.cells ⟨⟨s,s2,ec,new++ [(l,m)]⟩,P,R⟩ p),eS P,eT R,ao]:=h.gC [2,5,6,7,0,3,4,1] (by decide) rfl
  have h:=gd ⟨s,s2,ec,new++ [(l,m)]⟩ h
  have h:Hp O w w6 [ai bp 53 (BK.cells ⟨⟨s,s2,ec,new++ [(l,m)]⟩,P,R⟩ p),fm ⟨s,s2,ec,new++ [(l,m)]⟩,eS P,eT R,ao]:=h.gC [1,0,2,3,4] (by decide) rfl
  have h:=ma (N:=N) (M:=M+1) ⟨⟨s,s2,ec,new++ [(l,m)]⟩,P,R⟩ ⟨⟨hq.1.1,by have:=hq.1.2.1;dsimp only at this;simp only [afw,af6,agU];omega,hq.1.2.2.1,fun y hy=>by
   rcases afB.1 hy with hy | hy
   ·exact hq.1.2.2.2 y hy
   ·simp only [afF] at hy
    subst hy
    show l.len<=10000
    omega⟩,hq.2.1.mono (afV _) (by omega),hq.2.2.mono (afV _) (by omega)⟩ h
  have:=back (rest:= []) rfl rfl rfl h
  rw [afH] at this
  exact hK w6 this
theorem rB (h:Hp S w0 w ae) {i bp:Nat} {p:PC} {N M N' M':Nat} (hi:ae[i]? =some (bw bp p N M)) (hn:N<=N') (hm:M<=M'):Hp S w0 w (ae.set i (bw bp p N' M')):=
 h.sU hi rfl (fun w O ⟨q,hq,hO⟩=>⟨q,⟨hq.1.mono hn hm,hq.2.1.mono hn hm,hq.2.2.mono hn hm⟩,hO⟩) rfl
set_option maxHeartbeats 4000000 in
theorem Cw (h:Hp S w0 w ae) (i j:Nat) (mJ:i≠j) {bp:Nat} {p:PC} {N M:Nat} {l:Sl} {ps:List Part} (hi:ae[i]? =some (bw bp p N M)) (hj:ae[j]? =some (bn l ps)) (hN:N+M+1*ps.length<=1000000000) (hl:ps.length<=10000) (hv: ∀x∈ps,x.2.length<=10000)
  {K:World->Prop} (hK: ∀w',Hp S w0 w' ((ae.set i (bw bp p N (M+1*ps.length+1))).set j ao)->K w'):W5 (some ⟨bp,6,none⟩) l w K:=by
 refine PI ?_
 unfold f94
 obtain⟨jC,i1,i2,i3,i4⟩:=FT.lN
 obtain⟨AJ,j1,j2,j3,j4⟩:=H7
 obtain⟨O,h1,back⟩:=h.f2 mJ hi hj rfl rfl
 clear h
 have h:=h1
 clear h1
 obtain⟨xs,iF,h⟩:=h.dy (i:=1) rfl
 have h:Hp O w w [bw bp p N M,aj l 36 2 cY xs,an (xs.map tV)]:=h
 have nH:=h.len (s:=l) 1 rfl
 have yG:ps.length=xs.length:=by rw [<-iF,afP]
 obtain⟨q,hq,h2⟩:=jr h (i:=0) rfl
 have h2:Hp O w w [ai bp 53 (q.cells p),aj l 36 2 cY xs,an (xs.map tV),fm q.V,eS q.P,eT q.R]:=h2
 refine bg ?_
 refine h2.pV (n:=6) (m:=1) (k:=.sl) (x:=q.P.v) 0 rfl rfl ?_
 have hlen:(q.P.ec++q.P.new).length<=N+M:=by have:=hq.2.1.1;have:=hq.2.1.2.1;rw [afw];omega
 have h3:=fo h2 (i:=4) rfl
 have Ey:(q.P.v.len:Int)<=1000000000:=by have:=h3.len (s:=q.P.v) (f:=ly) (e:=37) (n:=1) (l:=q.P.ec++q.P.new) 4 rfl;omega
 generalize q.P.v.len=pl at Ey
 clear h3 hlen
 generalize IntKind.i64.wrap (1000000+(pl:Int))=m
 refine⟨fun t mm w'=> ∃(k:Nat) (ys:List PV) (ts:List aa),t=k /\ k<=xs.length /\ mm=xs.length - k /\ ys.length=xs.length /\ ys.take k=List.replicate k ((m,⟨none,0,0⟩,[]):PV) /\ ys.drop k=xs.drop k /\ ts.drop k=(xs.map tV).drop k /\ Hp O w w' [bw bp p N (M+1*k),aj l 36 2 cY ys,an ts],
  ⟨xs.length,0,xs,xs.map tV,rfl,by omega,rfl,rfl,by simp,rfl,rfl,h⟩,?_⟩
 clear h
 rintro t mm w2 ⟨k,ys,ts,rfl,hk,rfl,vI,MI,T6,Fp,h⟩
 by_cases ar:k < xs.length
 ·refine aE (by simp;omega) ?_
  have hy:ys[k]? =some xs[k]:=by
   have e:=congrArg (fun L=>L[0]?) T6
   simpa [ar] using e
  have ht:ts[k]? =some (tV xs[k]):=by
   have e:=congrArg (fun L=>L[0]?) Fp
   simpa [ar] using e
  have jU:bN xs[k]∈ps:=by rw [<-iF];exact ahf (afR ar)
  have MJ:=hv _ jU
  generalize xs[k]=x at hy ht MJ
  refine h.sq (s:=l) (l:=ys) (f:=cY) (n:=2) (e:=36) 1 rfl (by omega) (by rw [afu];exact hy) aW fun ad hc=>?_
  refine j8 (k:=.sl) (x:=x.2.1) (hc 1 (by omega)) rfl ?_
  have h:=h.pick (i:=2) (k:=k) rfl ht rfl
  have h:Hp O w w2 [bw bp p N (M+1*k),aj l 36 2 cY ys,an (ts.set k ao),aj x.2.1 2 1 iv x.2.2]:=h
  refine AL h 0 3 (by decide) (l:=x.2.1) rfl rfl (by omega) MJ fun w3 h=>?_
  have h:Hp O w w3 [bw bp p N (M+1*k+1),aj l 36 2 cY ys,an (ts.set k ao),ao]:=h
  refine h.Z8 (s:=l) (l:=ys) (f:=cY) (n:=2) 1 rfl (by omega) (by rw [afu];omega) aW fun wb off c eY h hb=>?_
  refine h.PW 1 rfl (by omega) rfl fun w4 h=>?_
  refine h.A7 (m:=1) 1 rfl (by simp;omega) rfl fun w5 h=>?_
  have h:=hb ((m,⟨none,0,0⟩,[]):PV) h rfl
  rw [afu] at h
  have h:Hp O w w5 [bw bp p N (M+1*(k+1)),aj l 36 2 cY (ys.set k ((m,⟨none,0,0⟩,[]):PV)),an (ts.set k ao),ao]:=h
  exact⟨xs.length - (k+1),by omega,k+1,ys.set k ((m,⟨none,0,0⟩,[]):PV),ts.set k ao,by rw [aB (by omega) (by omega)];omega,by omega,rfl,by simpa using vI,yL (by omega) MI,by
   rw [agG (by omega),<-agk,T6,agk],by
   rw [agG (by omega),<-agk,Fp,agk],h.trim 3⟩
 ·refine aF (by simp;omega) ?_
  obtain rfl:k=xs.length:=by omega
  have wP:ys=List.replicate l.len ((m,⟨none,0,0⟩,[]):PV):=by
   have:=yM (k:=xs.length) (by omega) MI (by omega)
   rw [vI,nH] at this;exact this
  subst wP
  have h:=H8 h (i:=1) (g:=g1) (l':=List.replicate l.len m) rfl (by simp) (by rw [ahx,ahx])
  obtain⟨q,hq,h⟩:=jr h (i:=0) rfl
  obtain⟨V,⟨v,x,ec,new⟩,R⟩:=q
  have h:=fo h (i:=4) rfl
  have h:Hp O w w2 [ai bp 53 (BK.cells ⟨V,⟨v,x,ec,new⟩,R⟩ p),aj l 36 2 g1 (List.replicate l.len m),an ts,fm V,aj v 37 1 ly (ec++new),eT R,aj x 3 1 ml (ec++new),eg 2 g1 ec,an (new.map (pend 36 2 g1))]:=h
  have gi:=h.len (s:=v) 4 rfl
  have kS:=h.len (s:=x) 6 rfl
  have hlen:(ec++new).length<=N+(M+1*xs.length):=by have:=hq.2.1.1;have:=hq.2.1.2.1;rw [afw];dsimp only at*;omega
  refine bg ?_
  refine h.pV (n:=6) (m:=1) (k:=.sl) (x:=v) 0 rfl rfl ?_
  refine h.bL 4 ((l,m):LM) (c:= [_]) rfl jf MF j1 j3 j2 rfl rfl (by simp [Value.oneCell']) (by rw [j4];omega) (by omega) fun s w3 h hs _=>?_
  refine bg ?_
  refine h.A7 (m:=1) 0 rfl (by simp) rfl fun w4 h=>?_
  refine bg ?_
  refine h.pV (n:=6) (m:=4) (k:=.sl) (x:=x) 0 rfl rfl ?_
  refine h.bL 6 ((l,m):LM) (c:= [_]) rfl fO AI i1 i3 i2 rfl rfl (by simp [Value.oneCell']) (by rw [i4];omega) (by omega) fun s2 w5 h jO _=>?_
  refine bg ?_
  refine h.A7 (m:=4) 0 rfl (by simp) rfl fun w6 h=>?_
  have h:=ns h (i:=8) (j:=1) (sub:=pend 36 2 g1) (ys:=new) (y:=(l,m)) (by decide) rfl rfl rfl
  rw [afA] at h
  have h:Hp O w w6 [ai bp 53 (BK.cells ⟨V,⟨s,s2,ec,new++ [(l,m)]⟩,R⟩ p),ao,an ts,fm V,aj s 37 1 ly (ec++(new++ [(l,m)])),eT R,aj s2 3 1 ml (ec++(new++ [(l,m)])),eg 2 g1 ec,an ((new++ [(l,m)]).map (pend 36 2 g1))]:=h
  have h:Hp O w w6 [aj s 37 1 ly (ec++(new++ [(l,m)])),aj s2 3 1 ml (ec++(new++ [(l,m)])),eg 2 g1 ec,an ((new++ [(l,m)]).map (pend 36 2 g1)),ai bp 53 (BK.cells ⟨V,⟨s,s2,ec,new++ [(l,m)]⟩,R⟩ p),fm V,eT R,ao]:=h.gC [4,6,7,8,0,3,5,1] (by decide) rfl
  have h:=gd ⟨s,s2,ec,new++ [(l,m)]⟩ h
  have h:Hp O w w6 [ai bp 53 (BK.cells ⟨V,⟨s,s2,ec,new++ [(l,m)]⟩,R⟩ p),fm V,eS ⟨s,s2,ec,new++ [(l,m)]⟩,eT R,ao]:=h.gC [1,2,0,3,4] (by decide) rfl
  have hn:Sh.fits ⟨s,s2,ec,new++ [(l,m)]⟩ N (M+1*xs.length+1):=⟨hq.2.1.1,by have:=hq.2.1.2.1;dsimp only at this;simp only [afw,af6,agU];omega,hq.2.1.2.2.1,fun y hy=>by
   rcases afB.1 hy with hy | hy
   ·exact hq.2.1.2.2.2 y hy
   ·simp only [afF] at hy
    subst hy
    show l.len<=10000
    omega⟩
  have h:=ma (N:=N) (M:=M+1*xs.length+1) ⟨V,⟨s,s2,ec,new++ [(l,m)]⟩,R⟩ ⟨hq.1.mono (afV _) (by omega),hn,hq.2.2.mono (afV _) (by omega)⟩ h
  have:=back (rest:= []) rfl rfl rfl h
  rw [afH] at this
  rw [yG] at hK
  exact hK w6 this
set_option maxHeartbeats 4000000 in
theorem xJ (h:Hp S w0 w ae) (i j:Nat) (mJ:i≠j) {bp:Nat} {p:PC} {N M:Nat} {l:Sl} {ps:List gL} (hi:ae[i]? =some (bw bp p N M)) (hj:ae[j]? =some (aZ l ps)) (hN:N+M+14*ps.length<=1000000000) (hl:ps.length<=10000) (hv: ∀x∈ps,x.2.length<=13 /\ ∀y∈x.2,y.2.length<=10000)
  {K:World->Prop} (hK: ∀w',Hp S w0 w' ((ae.set i (bw bp p N (M+14*ps.length+1))).set j ao)->K w'):Vb (some ⟨bp,6,none⟩) l w K:=by
 refine OV ?_
 unfold f50
 obtain⟨jC,i1,i2,i3,i4⟩:=FT.lN
 obtain⟨AJ,j1,j2,j3,j4⟩:=MH
 obtain⟨O,h1,back⟩:=h.f2 mJ hi hj rfl rfl
 clear h
 have h:=h1
 clear h1
 obtain⟨xs,iF,h⟩:=h.dy (i:=1) rfl
 have h:Hp O w w [bw bp p N M,aj l 75 3 rdv xs,an (xs.map gJ)]:=h
 have nH:=h.len (s:=l) 1 rfl
 have yG:ps.length=xs.length:=by rw [<-iF,afP]
 obtain⟨q,hq,h2⟩:=jr h (i:=0) rfl
 have h2:Hp O w w [ai bp 53 (q.cells p),aj l 75 3 rdv xs,an (xs.map gJ),fm q.V,eS q.P,eT q.R]:=h2
 refine bg ?_
 refine h2.pV (n:=6) (m:=2) (k:=.sl) (x:=q.R.v) 0 rfl rfl ?_
 have hlen:(q.R.ec++q.R.new).length<=N+M:=by have:=hq.2.2.1;have:=hq.2.2.2.1;rw [afw];omega
 have h3:=fo h2 (i:=5) rfl
 have Ey:(q.R.v.len:Int)<=1000000000:=by have:=h3.len (s:=q.R.v) (f:=ly) (e:=71) (n:=1) (l:=q.R.ec++q.R.new) 5 rfl;omega
 generalize q.R.v.len=pl at Ey
 clear h3 hlen
 generalize IntKind.i64.wrap (1000000+(pl:Int))=m
 refine⟨fun t mm w'=> ∃(k:Nat) (ys:List RV) (ts:List aa),t=k /\ k<=xs.length /\ mm=xs.length - k /\ ys.length=xs.length /\ ys.take k=List.replicate k (((m,0),⟨none,0,0⟩,[]):RV) /\ ys.drop k=xs.drop k /\ ts.drop k=(xs.map gJ).drop k /\ Hp O w w' [bw bp p N (M+14*k),aj l 75 3 rdv ys,an ts],
  ⟨xs.length,0,xs,xs.map gJ,rfl,by omega,rfl,rfl,by simp,rfl,rfl,h⟩,?_⟩
 clear h
 rintro t mm w2 ⟨k,ys,ts,rfl,hk,rfl,vI,MI,T6,Fp,h⟩
 by_cases ar:k < xs.length
 ·refine aE (by simp;omega) ?_
  have hy:ys[k]? =some xs[k]:=by
   have e:=congrArg (fun L=>L[0]?) T6
   simpa [ar] using e
  have ht:ts[k]? =some (gJ xs[k]):=by
   have e:=congrArg (fun L=>L[0]?) Fp
   simpa [ar] using e
  have jU:fj xs[k]∈ps:=by rw [<-iF];exact ahf (afR ar)
  have MJ:=hv _ jU
  generalize xs[k]=x at hy ht MJ
  refine h.sq (s:=l) (l:=ys) (f:=rdv) (n:=3) (e:=75) 1 rfl (by omega) (by rw [afu];exact hy) cd fun ad hc=>?_
  refine j8 (k:=.sl) (x:=x.2.1) (hc 2 (by omega)) rfl ?_
  have h:=h.pick (i:=2) (k:=k) rfl ht rfl
  have h:Hp O w w2 [bw bp p N (M+14*k),aj l 75 3 rdv ys,an (ts.set k ao),bn x.2.1 x.2.2]:=h
  have adh:x.2.2.length<=13:=MJ.1
  refine Cw h 0 3 (by decide) (l:=x.2.1) (ps:=x.2.2) rfl rfl (by omega) (by have:=MJ.1;show x.2.2.length<=10000;have:x.2.2.length<=13:=this;omega) MJ.2 fun w3 h=>?_
  have h:=rB h (i:=0) (N':=N) (M':=M+14*(k+1)) rfl (afV _) (by have:x.2.2.length<=13:=MJ.1;omega)
  have h:Hp O w w3 [bw bp p N (M+14*(k+1)),aj l 75 3 rdv ys,an (ts.set k ao),ao]:=h
  refine h.Z8 (s:=l) (l:=ys) (f:=rdv) (n:=3) 1 rfl (by omega) (by rw [afu];omega) cd fun wb off c eY h hb=>?_
  refine h.PW 1 rfl (by omega) rfl fun w4 h=>?_
  refine h.A7 (m:=1) 1 rfl (by simp;omega) rfl fun w5 h=>?_
  refine h.A7 (m:=2) 1 rfl (by simp;omega) rfl fun w6 h=>?_
  have h:=hb (((m,0),⟨none,0,0⟩,[]):RV) h rfl
  rw [afu] at h
  have h:Hp O w w6 [bw bp p N (M+14*(k+1)),aj l 75 3 rdv (ys.set k (((m,0),⟨none,0,0⟩,[]):RV)),an (ts.set k ao),ao]:=h
  exact⟨xs.length - (k+1),by omega,k+1,ys.set k (((m,0),⟨none,0,0⟩,[]):RV),ts.set k ao,by rw [aB (by omega) (by omega)];omega,by omega,rfl,by simpa using vI,yL (by omega) MI,by
   rw [agG (by omega),<-agk,T6,agk],by
   rw [agG (by omega),<-agk,Fp,agk],h.trim 3⟩
 ·refine aF (by simp;omega) ?_
  obtain rfl:k=xs.length:=by omega
  have wP:ys=List.replicate l.len (((m,0),⟨none,0,0⟩,[]):RV):=by
   have:=yM (k:=xs.length) (by omega) MI (by omega)
   rw [vI,nH] at this;exact this
  subst wP
  have h:=H8 h (i:=1) (g:=g2) (l':=List.replicate l.len m) rfl (by simp) (by rw [ahx,ahx])
  obtain⟨q,hq,h⟩:=jr h (i:=0) rfl
  obtain⟨V,P,⟨v,x,ec,new⟩⟩:=q
  have h:=fo h (i:=5) rfl
  have h:Hp O w w2 [ai bp 53 (BK.cells ⟨V,P,⟨v,x,ec,new⟩⟩ p),aj l 75 3 g2 (List.replicate l.len m),an ts,fm V,eS P,aj v 71 1 ly (ec++new),aj x 3 1 ml (ec++new),eg 3 g2 ec,an (new.map (pend 75 3 g2))]:=h
  have gi:=h.len (s:=v) 5 rfl
  have kS:=h.len (s:=x) 6 rfl
  have hlen:(ec++new).length<=N+(M+14*xs.length):=by have:=hq.2.2.1;have:=hq.2.2.2.1;rw [afw];dsimp only at*;omega
  refine bg ?_
  refine h.pV (n:=6) (m:=2) (k:=.sl) (x:=v) 0 rfl rfl ?_
  refine h.bL 5 ((l,m):LM) (c:= [_]) rfl jf MG j1 j3 j2 rfl rfl (by simp [Value.oneCell']) (by rw [j4];omega) (by omega) fun s w3 h hs _=>?_
  refine bg ?_
  refine h.A7 (m:=2) 0 rfl (by simp) rfl fun w4 h=>?_
  refine bg ?_
  refine h.pV (n:=6) (m:=5) (k:=.sl) (x:=x) 0 rfl rfl ?_
  refine h.bL 6 ((l,m):LM) (c:= [_]) rfl fO AI i1 i3 i2 rfl rfl (by simp [Value.oneCell']) (by rw [i4];omega) (by omega) fun s2 w5 h jO _=>?_
  refine bg ?_
  refine h.A7 (m:=5) 0 rfl (by simp) rfl fun w6 h=>?_
  have h:=ns h (i:=8) (j:=1) (sub:=pend 75 3 g2) (ys:=new) (y:=(l,m)) (by decide) rfl rfl rfl
  rw [afA] at h
  have h:Hp O w w6 [ai bp 53 (BK.cells ⟨V,P,⟨s,s2,ec,new++ [(l,m)]⟩⟩ p),ao,an ts,fm V,eS P,aj s 71 1 ly (ec++(new++ [(l,m)])),aj s2 3 1 ml (ec++(new++ [(l,m)])),eg 3 g2 ec,an ((new++ [(l,m)]).map (pend 75 3 g2))]:=h
  have h:Hp O w w6 [aj s 71 1 ly (ec++(new++ [(l,m)])),aj s2 3 1 ml (ec++(new++ [(l,m)])),eg 3 g2 ec,an ((new++ [(l,m)]).map (pend 75 3 g2)),ai bp 53 (BK.cells ⟨V,P,⟨s,s2,ec,new++ [(l,m)]⟩⟩ p),fm V,eS P,ao]:=h.gC [5,6,7,8,0,3,4,1] (by decide) rfl
  have h:=gd ⟨s,s2,ec,new++ [(l,m)]⟩ h
  have h:Hp O w w6 [ai bp 53 (BK.cells ⟨V,P,⟨s,s2,ec,new++ [(l,m)]⟩⟩ p),fm V,eS P,eT ⟨s,s2,ec,new++ [(l,m)]⟩,ao]:=h.gC [1,2,3,0,4] (by decide) rfl
  have hn:Sh.fits ⟨s,s2,ec,new++ [(l,m)]⟩ N (M+14*xs.length+1):=⟨hq.2.2.1,by have:=hq.2.2.2.1;dsimp only at this;simp only [afw,af6,agU];omega,hq.2.2.2.2.1,fun y hy=>by
   rcases afB.1 hy with hy | hy
   ·exact hq.2.2.2.2.2 y hy
   ·simp only [afF] at hy
    subst hy
    show l.len<=10000
    omega⟩
  have h:=ma (N:=N) (M:=M+14*xs.length+1) ⟨V,P,⟨s,s2,ec,new++ [(l,m)]⟩⟩ ⟨hq.1.mono (afV _) (by omega),hq.2.1.mono (afV _) (by omega),hn⟩ h
  have:=back (rest:= []) rfl rfl rfl h
  rw [afH] at this
  rw [yG] at hK
  exact hK w6 this
end
end Go.Proofs.YtcccjgmekakabaaGreat.FW
end
