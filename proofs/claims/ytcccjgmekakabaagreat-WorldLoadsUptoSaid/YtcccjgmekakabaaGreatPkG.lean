/-
  Part 7 of the proof:WorldLoads of layer 6 is true of the given program for every input that its guards let in (of bulk at most 1048576).
-/
import Derived.Test.YtcccjgmekakabaaGreatPkF
set_option linter.unusedSimpArgs false
set_option linter.unusedVariables false
set_option maxRecDepth 100000
section
namespace Go.Proofs.YtcccjgmekakabaaGreat.FW
open F
open Go Go.Den Go.Proofs
theorem y5.open {w:World} {s:Sl} {l:KD} (h:y5 w s l): ∃xs:List KS,kinds xs=l /\ (∃o,cf w s 2 du xs o) /\ ∀x∈xs,x.2.1.len<=x.2.1.cap /\ ∃o,cf w x.2.1 1 sv x.2.2 o:=by
 obtain⟨xs,O,h1,_,⟨o,h2,_⟩,h3⟩:=h
 refine⟨xs,h1,⟨o,h2⟩,fun x hx=>?_⟩
 obtain⟨q,o,h4,_⟩:=h3 x hx
 exact⟨q,o,h4⟩
theorem MK {x y:ByteArray} (h:x≠y):(!(x.toList ==y.toList))=true:=by
 rw [Dd,decide_eq_false h];rfl
theorem rC (x:ByteArray):(x.toList ==x.toList)=true:=by simp
theorem yN (x:ByteArray): ¬(!(x.toList ==x.toList))=true:=by simp
set_option maxHeartbeats 2000000 in
theorem nt {a b:Sl} {la lb:KD} {w:World} (ha:y5 w a la) (hb:y5 w b lb) (B7:la.length<=1000000000) (hv: ∀x∈la,x.2.length<=1000000000) {K:Bool->World->Prop} (hK: ∀w',Fr [] w w'->K (decide (la=lb)) w'):Rk a b w K:=by
 refine OO ?_
 unfold f49
 obtain⟨xa,a1,a2,a3⟩:=ha.open
 obtain⟨xb,b1,b2,b3⟩:=hb.open
 have e1:xa.length=a.len:=by obtain⟨o,h⟩:=a2;exact h.1
 have e2:xb.length=b.len:=by obtain⟨o,h⟩:=b2;exact h.1
 have e3:la.length=xa.length:=by rw [<-a1];simp [kinds]
 have e4:lb.length=xb.length:=by rw [<-b1];simp [kinds]
 by_cases hl:a.len=b.len
 ·refine aF (by simp [hl]) ?_
  refine⟨fun i mm w'=> ∃k:Nat,i=k /\ k<=la.length /\ mm=la.length - k /\ la.take k=lb.take k /\ Fr [] w w',⟨la.length,0,rfl,by omega,rfl,by simp,Fr.refl _ _⟩,?_⟩
  rintro i mm w1 ⟨k,rfl,hk,rfl,heq,hf⟩
  by_cases ar:k < la.length
  ·refine aE (by simp;omega) ?_
   have AF:k < lb.length:=by omega
   have y4:xa[k]? =some (xa[k]'(by omega)):=afD _
   have Cv:xb[k]? =some (xb[k]'(by omega)):=afD _
   have g1:la[k]=lg (xa[k]'(by omega)):=by simp [<-a1,kinds,lg]
   have g2:lb[k]=lg (xb[k]'(by omega)):=by simp [<-b1,kinds,lg]
   have va:=(a3 _ (afz y4)).2
   have vb:=(b3 _ (afz Cv)).2
   have EJ:=hv la[k] (afR ar)
   rw [g1] at EJ
   generalize xa[k]'(by omega)=x at y4 g1 va EJ
   generalize xb[k]'(by omega)=y at Cv g2 vb
   have EJ:x.2.2.length<=1000000000:=EJ
   have l1:x.2.2.length=x.2.1.len:=by obtain⟨o,h⟩:=va;exact h.1
   have l2:y.2.2.length=y.2.1.len:=by obtain⟨o,h⟩:=vb;exact h.1
   have no: ∀{w':World},Fr [] w w'-> ¬(x.1=y.1 /\ x.2.2=y.2.2)->K false w':=fun hf aR=>by
    have:=hK _ hf
    rwa [decide_eq_false (fun e=>aR (by
     have:la[k]=lb[k]:=by simp [e]
     rw [g1,g2] at this
     exact⟨(agK this).1,(agK this).2⟩))] at this
   refine⟨fun w'=>Fr [] w w' /\ x.1=y.1 /\ x.2.1.len=y.2.1.len,?_,?_⟩
   ·refine QJ fun w2 iH=>?_
    have hf:=hf.trans iH (by simp)
    obtain⟨oa,Dx⟩:=cf.cB a2 hf
    obtain⟨ob,eU⟩:=cf.cB b2 hf
    refine cf.ix aU Dx (by omega) (x:=x) (by rw [afu];exact y4) fun ad hc=>?_
    refine ep (k:=.s) (x:=x.1) (hc 0 (by omega)) rfl ?_
    refine cf.ix aU eU (by omega) (x:=y) (by rw [afu];exact Cv) fun Fo jE=>?_
    refine ep (k:=.s) (x:=y.1) (jE 0 (by omega)) rfl ?_
    by_cases hn:x.1=y.1
    ·refine aF (by rw [hn];exact yN _) ?_
     refine cf.ix aU Dx (by omega) (x:=x) (by rw [afu];exact y4) fun ad hc=>?_
     refine j8 (k:=.sl) (x:=x.2.1) (hc 1 (by omega)) rfl ?_
     refine cf.ix aU eU (by omega) (x:=y) (by rw [afu];exact Cv) fun Fo jE=>?_
     refine j8 (k:=.sl) (x:=y.2.1) (jE 1 (by omega)) rfl ?_
     by_cases nH:x.2.1.len=y.2.1.len
     ·exact aF (by simp [nH]) ⟨hf,hn,nH⟩
     ·refine aE (by simp;omega) (no hf fun h=>nH ?_)
      rw [<-l1,<-l2,h.2]
    ·exact aE (MK hn) (no hf fun h=>hn h.1)
   rintro w2 ⟨hf,hn,nH⟩
   refine⟨fun i mm w'=> ∃q:Nat,i=q /\ q<=x.2.2.length /\ mm=x.2.2.length - q /\ x.2.2.take q=y.2.2.take q /\ Fr [] w w',⟨x.2.2.length,0,rfl,by omega,rfl,by simp,hf⟩,?_⟩
   rintro i mm w3 ⟨q,rfl,hq,rfl,Y8,hf⟩
   obtain⟨oa,Dx⟩:=cf.cB a2 hf
   refine cf.ix aU Dx (by omega) (x:=x) (by rw [afu];exact y4) fun ad hc=>?_
   refine j8 (k:=.sl) (x:=x.2.1) (hc 1 (by omega)) rfl ?_
   by_cases QM:q < x.2.2.length
   ·refine aE (by simp;omega) ?_
    refine QJ fun w4 KX=>?_
    have hf:=hf.trans KX (by simp)
    obtain⟨oa,Dx⟩:=cf.cB a2 hf
    obtain⟨ob,eU⟩:=cf.cB b2 hf
    obtain⟨ova,va2⟩:=cf.cB va hf
    obtain⟨ovb,vb2⟩:=cf.cB vb hf
    have US:q < y.2.2.length:=by omega
    refine cf.ix aU Dx (by omega) (x:=x) (by rw [afu];exact y4) fun ad hc=>?_
    refine j8 (k:=.sl) (x:=x.2.1) (hc 1 (by omega)) rfl ?_
    refine cf.ix cR va2 (by omega) (x:=x.2.2[q]) (by simp [QM]) fun ad3 VG=>?_
    refine ep (k:=.s) (x:=x.2.2[q]) (VG 0 (by omega)) rfl ?_
    refine cf.ix aU eU (by omega) (x:=y) (by rw [afu];exact Cv) fun Fo jE=>?_
    refine j8 (k:=.sl) (x:=y.2.1) (jE 1 (by omega)) rfl ?_
    refine cf.ix cR vb2 (by omega) (x:=y.2.2[q]) (by simp [US]) fun ad4 S8=>?_
    refine ep (k:=.s) (x:=y.2.2[q]) (S8 0 (by omega)) rfl ?_
    by_cases he:x.2.2[q]=y.2.2[q]
    ·exact aF (by rw [he];exact yN _) ⟨x.2.2.length - (q+1),by omega,q+1,by rw [aB (by omega) (by omega)];omega,by omega,rfl,np Y8 QM US he,hf⟩
    ·exact aE (MK he) (no hf fun h=>he (by simp [h.2]))
   ·refine aF (by simp;omega) ?_
    rw [afE (by omega),afE (by omega)] at Y8
    refine⟨la.length - (k+1),by omega,k+1,by rw [aB (by omega) (by omega)];omega,by omega,rfl,np heq ar AF ?_,hf⟩
    rw [g1,g2]
    exact ahg hn Y8
  ·refine aF (by simp;omega) ?_
   have:=hK w1 hf
   rw [afE (by omega),afE (by omega)] at heq
   rwa [decide_eq_true heq] at this
 ·refine aE (by simp;omega) ?_
  have:=hK w (Fr.refl _ _)
  rwa [decide_eq_false (fun e=>hl (by rw [<-e1,<-e2,<-e3,<-e4,e]))] at this
def bR:ByteArray:=⟨#[98,101,104,105,110,100]⟩
def bh:KS:=(bR,⟨none,0,0⟩,[])
def y6 (x:KS):aa:=aj ⟨x.2.1.a,x.2.1.len+2,x.2.1.cap⟩ 9 1 sv (x.2.2++ [bR,bR])
def qs (s:Sl) (xs:List KS):aa:=aX (aj ⟨s.a,s.len+2,s.cap⟩ 107 2 du (xs++ [bh,bh])) (an (xs.map y6))
section
variable {S:List Nat} {w0 w:World} {ae:List aa}
theorem EK {α:Type} {f:α->List Value} {e:TypeId} {n k:Nat} {l:List α} (h:Hp S w0 w ae) (i:Nat) {s0 s:Sl} (hi:(ae[i]?).map aa.holds=some (aj s0 e n f l).holds) (ha:s.a=s0.a) {b m:Int} {K:Sl->Prop} (h1:0<=b) (h2:b<=m) (h3:m<=s.cap)
  (hK:K ⟨s.a,b.toNat,m.toNat⟩):Cut s 0 b m k K:=by
 obtain⟨O,hO⟩:=h.dQ hi
 refine⟨by omega,h1,h2,h3,?_⟩
 have e:(if m.toNat=(0:Int).toNat then s.a else s.a.map (·.add ((0:Int).toNat*k)))=s.a:=by
  split
  ·rfl
  ·rw [ha]
   rcases hO.2 with ⟨q,_⟩ | ⟨b,off,c,q,_⟩
   ·rw [q];rfl
   ·rw [q]
    simp [Addr.aQ]
 rw [e]
 exact hK
theorem cA.pre {α:Type} {f:α->List Value} {e:TypeId} {n:Nat} (hf: ∀x,(f x).length=n) {w:World} {s s':Sl} {l l':List α} {o:List Nat} (h:cA w s' e n f (l++l') o) (hl:l.length=s.len) (ha:s.a=s'.a):cf w s n f l o \/ s.len=0:=by
 by_cases h0:s.len=0
 ·exact .inr h0
 ·refine .inl ⟨hl,.inr ?_⟩
  have hR:=cA.toR h
  have:=hR.1
  rw [afw] at this
  rcases hR.2 with ⟨q,_⟩ | ⟨x,q1,q2,q3,q4⟩
  ·omega
  ·refine⟨x,by rw [ha];exact q1,q2,q3,fun j u hj=>q4 j u ?_⟩
   rw [af5,afx (aft.1 hj).1]
   exact hj
theorem cA.T7 {α:Type} {f:α->List Value} {e:TypeId} {n:Nat} (hf: ∀x,(f x).length=n) {w:World} {s s':Sl} {l l':List α} {o:List Nat} (h:cA w s' e n f (l++l') o) (hl:l.length=s.len) (ha:s.a=s'.a): ∃o',cf w s n f l o' /\ ∀k∈o',k∈o:=by
 rcases cA.pre hf h hl ha with h1 | h1
 ·exact⟨o,h1,fun k hk=>hk⟩
 ·have:l= []:=by apply af7;omega
  subst this
  exact⟨[],⟨h1.symm ▸ rfl,.inl ⟨h1,rfl⟩⟩,by simp⟩
theorem Dz {w:World} {O:List Nat} {s:Sl} {xs:List KS} (h:(qs s xs).holds w O) (hl:xs.length=s.len) (hx: ∀x∈xs,x.2.2.length=x.2.1.len):(fZ s xs).holds w O:=by
 have ar:=(qs s xs).lt h
 obtain⟨O1,O2,h1,h2,h3,h4⟩:=h
 refine⟨ar,?_,fun x jU=>?_⟩
 ·obtain⟨o,g1,g2⟩:=cA.T7 aU h1 hl rfl
  exact⟨o,g1,fun k hk=>(h4 k).2 (.inl (g2 k hk))⟩
 ·obtain⟨k,hk,rfl⟩:=agQ.1 jU
  obtain⟨O3,O4,g1,_,_,g3⟩:=dx (k:=k) (t:=y6 xs[k]) (by simp [hk]) h2
  have g1:cA w ⟨xs[k].2.1.a,xs[k].2.1.len+2,xs[k].2.1.cap⟩ 9 1 sv (xs[k].2.2++ [bR,bR]) O3:=g1
  obtain⟨o,g4,g5⟩:=cA.T7 cR g1 (hx _ (afR hk)) (s:=xs[k].2.1) rfl
  refine⟨?_,o,g4,fun q hq=>(h4 q).2 (.inr ((g3 q).2 (.inl (g5 q hq))))⟩
  rcases g1.2 with ⟨_,q,_⟩ | ⟨_,_,_,_,_,_,q,_⟩
  ·cases q
  ·dsimp only at q;omega
set_option maxHeartbeats 4000000 in
theorem vm (h:Hp S w0 w ae) {s:Sl} {l:KD} (hr:y5 w s l) (hl:l.length<=10000000) (hv: ∀x∈l,x.2.length<=10000000) {K:Sl->World->Prop}
  (hK: ∀r xs w',kinds xs=l->xs.length=r.len->(∀x∈xs,x.2.2.length=x.2.1.len)->r.len+2<=r.cap->Hp S w0 w' (ae++ [qs r xs])->K r w'):WD s w K:=by
 refine Oh ?_
 unfold f18
 obtain⟨ys,O,rfl,hO⟩:=hr
 obtain⟨wk,i1,i2,i3,i4⟩:=wk
 obtain⟨xg,j1,j2,j3,j4⟩:=xg
 have h1:Hp [] w w [(fZ s ys).ro]:=(Hp.init w).ey hO (by simp)
 have eQ:=h1.df (u:=fZ s ys) (s:=s) (l:=ys) (f:=du) (n:=2) 0 rfl nr
 have cU:(kinds ys).length=ys.length:=by simp [kinds]
 rw [cU] at hl
 have h1:=h1.nil 107 2 du
 have h1:=h1.grow (Fr.refl _ _) (t:=an (([]:List KS).map y6)) (O:= []) rfl (by simp) rfl
 refine⟨fun out i mm w'=> ∃(k:Nat) (xs:List KS),i=k /\ k<=ys.length /\ mm=ys.length - k /\ xs.length=k /\ kinds xs=(kinds ys).take k /\ (∀x∈xs,x.2.2.length=x.2.1.len) /\ Hp [] w w' [(fZ s ys).ro,aj out 107 2 du xs,an (xs.map y6)],⟨ys.length,0,[],rfl,by omega,rfl,rfl,by simp [kinds],by simp,h1⟩,?_⟩
 clear h1
 rintro out i mm w1 ⟨k,xs,rfl,hk,rfl,kS,vL,qz,h1⟩
 have kA:=h1.len (s:=out) 1 rfl
 by_cases ar:k < ys.length
 ·refine aE (by simp;omega) ?_
  have hy:ys[k]? =some ys[k]:=by simp [ar]
  have Y9:ys[k].2.2.length<=10000000:=hv (ys[k].1,ys[k].2.2) (afQ.2 ⟨ys[k],afR ar,rfl⟩)
  have Ei:(kinds ys).take (k+1)=(kinds ys).take k++ [(ys[k].1,ys[k].2.2)]:=by
   rw [afG (by simpa [kinds] using ar)];simp [kinds]
  have hcy:=(vl h1 (s:=s) (xs:=ys) 0 rfl _ (afR ar)).2
  generalize ys[k]=y at hy Y9 Ei hcy
  have H9: ∀{w':World} {l:List aa},Hp [] w w' ((fZ s ys).ro :: l)-> ∃o,cf w' s 2 du ys o:=fun{w' l} h=>by
   obtain⟨O,_,⟨o,g,_⟩,_⟩:=h.n9 (i:=0) rfl
   exact⟨o,g⟩
  obtain⟨o,hR⟩:=H9 h1
  refine cf.ix aU hR (by omega) (x:=y) (by rw [afu];exact hy) fun ad hc=>?_
  refine j8 (k:=.sl) (x:=y.2.1) (hc 1 (by omega)) rfl ?_
  have h1:=h1.nil 9 1 sv
  have h1:Hp [] w w1 [(fZ s ys).ro,aj out 107 2 du xs,an (xs.map y6),aj ⟨none,0,0⟩ 9 1 sv []]:=h1
  refine h1.gY 3 0 (s:=⟨none,0,0⟩) (s2:=y.2.1) (u:=(fZ s ys).ro) rfl rfl (l0 (u:=(fZ s ys).ro) (s:=s) (xs:=ys) rfl hy) cR p6 i1 i3 i2 rfl (by simp [sv,Value.oneCell']) (by rw [i4];show (0+y.2.1.len)*16<=_;omega) (by show 0+y.2.1.len<=_;omega) fun f w2 h1 ee _=>?_
  refine h1.HK (l:= [bR,bR]) (f:=sv) (n:=1) (c:= [_,_]) rfl rfl cR fun b w3 h1=>?_
  have h1:Hp [] w w3 [(fZ s ys).ro,aj out 107 2 du xs,an (xs.map y6),aj f 9 1 sv y.2.2,aj ⟨some ⟨b,0,none⟩,2,2⟩ 9 1 sv [bR,bR]]:=h1
  have YE:f.len=0+y.2.1.len:=ee
  refine h1.gY 3 4 (s:=f) (s2:=⟨some ⟨b,0,none⟩,2,2⟩) rfl rfl Hp.bX cR p6 i1 i3 i2 rfl (by simp [sv,Value.oneCell']) (by rw [i4];show (f.len+2)*16<=_;omega) (by show f.len+2<=_;omega) fun f2 w4 h1 iH _=>?_
  have h1:Hp [] w w4 ([(fZ s ys).ro,aj out 107 2 du xs,an (xs.map y6),aj f2 9 1 sv (y.2.2++ [bR,bR])]++ [aj ⟨some ⟨b,0,none⟩,2,2⟩ 9 1 sv [bR,bR]]):=h1
  have h1:=h1.front
  have yV:f2.len=y.2.1.len+2:=by have:f2.len=f.len+2:=iH;omega
  have dF:=h1.cap (s:=f2) 3 rfl
  refine h1.dr fun w5 h1=>?_
  obtain⟨o,hR⟩:=H9 h1
  refine cf.ix aU hR (by omega) (x:=y) (by rw [afu];exact hy) fun ad hc=>?_
  refine ep (k:=.s) (x:=y.1) (hc 0 (by omega)) rfl ?_
  refine cf.ix aU hR (by omega) (x:=y) (by rw [afu];exact hy) fun ad hc=>?_
  refine j8 (k:=.sl) (x:=y.2.1) (hc 1 (by omega)) rfl ?_
  refine EK h1 3 (s0:=f2) rfl rfl (by omega) (by omega) (by simp) ?_
  rw [afu,afu]
  refine h1.bL 1 ((y.1,⟨f2.a,y.2.1.len,f2.cap⟩,y.2.2):KS) (c:= [_,_]) rfl aU dR j1 j3 j2 rfl rfl (by simp [du,Value.oneCell']) (by rw [j4];omega) (by omega) fun bH w6 h1 _ _=>?_
  have e:aj f2 9 1 sv (y.2.2++ [bR,bR])=y6 (y.1,⟨f2.a,y.2.1.len,f2.cap⟩,y.2.2):=by
   unfold y6
   dsimp only
   rw [<-yV]
  rw [e] at h1
  have h1:=ns h1 (i:=2) (j:=3) (sub:=y6) (ys:=xs) (y:=(y.1,⟨f2.a,y.2.1.len,f2.cap⟩,y.2.2)) (by decide) rfl rfl rfl
  have h1:Hp [] w w6 ([(fZ s ys).ro,aj bH 107 2 du (xs++ [((y.1,⟨f2.a,y.2.1.len,f2.cap⟩,y.2.2):KS)]),an ((xs++ [((y.1,⟨f2.a,y.2.1.len,f2.cap⟩,y.2.2):KS)]).map y6)]++ [ao]):=h1
  refine⟨ys.length - (k+1),by omega,k+1,xs++ [(y.1,⟨f2.a,y.2.1.len,f2.cap⟩,y.2.2)],by rw [aB (by omega) (by omega)];omega,by omega,rfl,by simp [kS],by rw [Ei,<-vL];simp [kinds],fun x hx=>?_,h1.front⟩
  rcases afB.1 hx with hx | hx
  ·exact qz x hx
  ·simp only [afF] at hx
   subst hx
   exact hcy
 ·refine aF (by simp;omega) ?_
  obtain rfl:k=ys.length:=by omega
  rw [afE (by omega)] at vL
  refine h1.HK (l:= [bh,bh]) (f:=du) (n:=2) (c:= [_,_,_,_]) rfl rfl aU fun b w3 h1=>?_
  have h1:Hp [] w w3 [(fZ s ys).ro,aj out 107 2 du xs,an (xs.map y6),aj ⟨some ⟨b,0,none⟩,2,2⟩ 107 2 du [bh,bh]]:=h1
  refine h1.gY 1 3 (s:=out) (s2:=⟨some ⟨b,0,none⟩,2,2⟩) rfl rfl Hp.bX aU dR j1 j3 j2 rfl (by simp [du,Value.oneCell']) (by rw [j4];show (out.len+2)*40<=_;omega) (by show out.len+2<=_;omega) fun bH w4 h1 Mf _=>?_
  have Mf:bH.len=out.len+2:=Mf
  have h1:Hp [] w w4 ([(fZ s ys).ro,aj bH 107 2 du (xs++ [bh,bh]),an (xs.map y6)]++ [aj ⟨some ⟨b,0,none⟩,2,2⟩ 107 2 du [bh,bh]]):=h1
  have h1:=h1.front
  have dF:=h1.cap (s:=bH) 1 rfl
  refine EK h1 1 (s0:=bH) rfl rfl (by omega) (by omega) (by simp) ?_
  rw [afu,afu]
  have e:bH=⟨bH.a,s.len+2,bH.cap⟩:=by
   have:bH.len=s.len+2:=by omega
   rw [<-this]
  have h1:Hp [] w w4 [(fZ s ys).ro,aj ⟨bH.a,s.len+2,bH.cap⟩ 107 2 du (xs++ [bh,bh]),an (xs.map y6)]:=by rw [<-e];exact h1
  have h1:=h1.aL (i:=1) (j:=2) (by omega) rfl rfl rfl (aK _)
  have h1:Hp [] w w4 [(fZ s ys).ro,qs ⟨bH.a,s.len,bH.cap⟩ xs,ao]:=h1
  refine hK ⟨bH.a,s.len,bH.cap⟩ xs w4 vL (by dsimp only;omega) qz (by dsimp only;omega) (h.r0 (rest:= [qs ⟨bH.a,s.len,bH.cap⟩ xs]) rfl (h1.gC [1] (by decide) rfl))
end
end Go.Proofs.YtcccjgmekakabaaGreat.FW
end

section
namespace Go.Proofs.YtcccjgmekakabaaGreat.FW
open F
open Go Go.Den Go.Proofs
open FI (af ay)
open FT (az di bM cc dz aP gm bD iv aq)
def Ia:ByteArray:=⟨#[79,118,101,114]⟩
def ov:KS:=(Ia,⟨none,0,0⟩,[])
section
variable {S:List Nat} {w0 w:World} {ae:List aa}
theorem vn {w:World} {O:List Nat} {s:Sl} {xs:List KS} (h:(fZ s xs).holds w O):y5 w s (kinds xs):=⟨xs,O,rfl,h⟩
set_option maxHeartbeats 4000000 in
theorem mn (h:Hp S w0 w ae) (i j:Nat) (mJ:i≠j) {s dG:Sl} {xs ys:List KS} {u:aa} (hi:ae[i]? =some (qs s xs)) (kS:xs.length=s.len) (qz: ∀x∈xs,x.2.2.length=x.2.1.len) (dF:s.len+2<=s.cap) (hj:ae[j]? =some u) (hu:u.holds=(fZ dG ys).holds) (hk:kinds xs=kinds ys)
  (hl:xs.length<=10000000) (hv: ∀x∈xs,x.2.2.length<=10000000) {K:Bool->World->Prop} (hK: ∀w',Hp S w0 w' (ae.set i ao)->K true w'):WG s dG w K:=by
 refine Oj ?_
 unfold f20
 obtain⟨O,h1,back⟩:=h.Z7 mJ hi hj rfl
 clear h
 have h:=h1
 clear h1
 have yc: ∀{w':World} {t:aa} {l:List aa},Hp O w w' (t :: u.ro :: l)-> ∃O',(fZ dG ys).holds w' O':=fun{w' t l} h=>by
  obtain⟨O',g⟩:=h.n9 (i:=1) rfl
  have g:u.holds w' O':=g
  rw [hu] at g
  exact⟨O',g⟩
 have T8: ∀{w':World} {t:aa} {l:List aa},Hp O w w' (t :: u.ro :: l)-> ∃o,cf w' dG 2 du ys o:=fun{w' t l} h=>by
  obtain⟨O',_,⟨o,g,_⟩,_⟩:=yc h
  exact⟨o,g⟩
 obtain⟨OL,hOL⟩:=h.n9 (i:=0) rfl
 obtain⟨OR,hOR⟩:=yc h
 have RI:ys.length=dG.len:=by obtain⟨o,g⟩:=T8 h;exact g.1
 have cU:xs.length=ys.length:=by have:=congrArg List.length hk;simpa [kinds] using this
 have HE: ∀(k:Nat) (y:KS),ys[k]? =some y->y.2.2.length=y.2.1.len /\ ∃x:KS,xs[k]? =some x /\ x.2.2=y.2.2:=fun k y hy=>by
  refine⟨?_,?_⟩
  ·obtain⟨_,_,g⟩:=hOR
   obtain⟨_,o,g,_⟩:=g y (afz hy)
   exact g.1
  ·have ar:=(aft.1 hy).1
   have e:=congrArg (fun L=>L[k]?) hk
   simp only [kinds,afC,hy,agy] at e
   obtain⟨x,hx,he⟩:=af2.1 e
   exact⟨x,hx,(agK he).2⟩
 refine nt (vn (Dz hOL kS qz)) (vn hOR) (by simp [kinds];omega) (fun x hx=>?_) fun w1 vF=>?_
 ·obtain⟨y,hy,rfl⟩:=afQ.1 hx
  have:=hv y hy
  show y.2.2.length<=_
  omega
 rw [decide_eq_true hk]
 have h:=h.cB vF
 have h:=h.split (i:=0) rfl rfl (aK _)
 have h:Hp O w w1 [aj ⟨s.a,s.len+2,s.cap⟩ 107 2 du (xs++ [bh,bh]),u.ro,an (xs.map y6)]:=h
 refine EK h 0 (s:=s) (s0:=⟨s.a,s.len+2,s.cap⟩) (b:=IntKind.i64.wrap ((dG.len:Int)+2)) (m:=(s.cap:Nat)) rfl rfl (by rw [aB (by omega) (by omega)];omega) (by rw [aB (by omega) (by omega)];omega) (agr _) ?_
 have e0:(IntKind.i64.wrap ((dG.len:Int)+2)).toNat=s.len+2:=by rw [aB (by omega) (by omega)];omega
 rw [e0,afu]
 refine⟨fun ok t mm w'=> ∃(k:Nat) (zs:List KS) (ts:List aa),ok=true /\ t=k /\ k<=s.len+2 /\ mm=s.len+2 - k /\ zs.length=s.len+2 /\ zs.drop k=(xs++ [bh,bh]).drop k /\ ts.drop k=(xs.map y6).drop k /\ Hp O w w' [aj ⟨s.a,s.len+2,s.cap⟩ 107 2 du zs,u.ro,an ts],
  ⟨s.len+2,0,xs++ [bh,bh],xs.map y6,rfl,rfl,by omega,rfl,by simp [kS],rfl,rfl,h⟩,?_⟩
 clear h
 rintro ok t mm w2 ⟨k,zs,ts,rfl,rfl,Ei,rfl,VD,Za,Fp,h⟩
 by_cases ar:k < s.len+2
 ·refine aE (by simp;omega) ?_
  have hz:zs[k]? =(xs++ [bh,bh])[k]? :=by
   have e:=congrArg (fun L=>L[0]?) Za
   simpa using e
  by_cases iL:s.len<=k
  ·refine aE (by simp;omega) (aE rfl ?_)
   have hz:zs[k]? =some bh:=by
    rw [hz,afv (by omega)]
    rcases(by omega:k - xs.length=0 \/ k - xs.length=1) with e | e
    ·rw [e];rfl
    ·rw [e];rfl
   refine h.sq (s:=⟨s.a,s.len+2,s.cap⟩) (l:=zs) (f:=du) (n:=2) (e:=107) 0 rfl (by omega) (by rw [afu];exact hz) aU fun ad hc=>?_
   refine ep (k:=.s) (x:=bR) (hc 0 (by omega)) rfl ?_
   refine⟨s.len+2 - (k+1),by omega,k+1,zs,ts,rC bR,by rw [aB (by omega) (by omega)];omega,by omega,rfl,VD,by rw [<-agk,Za,agk],by rw [<-agk,Fp,agk],h⟩
  ·refine aF (by simp;omega) ?_
   have Zb:ys[k]? =some (ys[k]'(by omega)):=afD _
   generalize ys[k]'(by omega)=y at Zb
   obtain⟨vI,x,hx,G2⟩:=HE k y Zb
   have jU:=afz hx
   have I3:=hv x jU
   have EL:=qz x jU
   rw [afx (by omega),hx] at hz
   have ht:ts[k]? =some (y6 x):=by
    have e:=congrArg (fun L=>L[0]?) Fp
    simpa [hx] using e
   have hfc:x.2.1.len+2<=x.2.1.cap:=by
    have h2:=h.pick (i:=2) (k:=k) rfl ht rfl
    exact h2.cap (s:=⟨x.2.1.a,x.2.1.len+2,x.2.1.cap⟩) (e:=9) (n:=1) (f:=sv) (l:=x.2.2++ [bR,bR]) 3 rfl
   have rdz: ∀{w':World} {l:List aa} {K:Sl->Prop},Hp O w w' (aj ⟨s.a,s.len+2,s.cap⟩ 107 2 du zs :: l)->K x.2.1->Ix s.a (s.len+2) ((k:Nat):Int) 2 fun(a:Addr)=>Ld .sl w' (a.add 1) K:=fun{w' l K} h hK=>by
    refine h.sq (s:=⟨s.a,s.len+2,s.cap⟩) (l:=zs) (f:=du) (n:=2) (e:=107) 0 rfl (by omega) (by rw [afu];exact hz) aU fun ad hc=>?_
    exact j8 (k:=.sl) (x:=x.2.1) (hc 1 (by omega)) rfl hK
   have QN: ∀{w':World} {t:aa} {l:List aa} {K:Sl->Prop},Hp O w w' (t :: u.ro :: l)->K y.2.1->Ix dG.a dG.len ((k:Nat):Int) 2 fun(a:Addr)=>Ld .sl w' (a.add 1) K:=fun{w' t l K} h hK=>by
    obtain⟨o,hR⟩:=T8 h
    refine cf.ix aU hR (by omega) (x:=y) (by rw [afu];exact Zb) fun ad hc=>?_
    exact j8 (k:=.sl) (x:=y.2.1) (hc 1 (by omega)) rfl hK
   have Zc:y.2.1.len=x.2.1.len:=by rw [<-vI,<-EL,G2]
   refine h.dr fun w3 h=>?_
   refine rdz h (QN h ?_)
   refine aF (by rw [aB (by omega) (by omega)];simp;omega) ?_
   refine h.dr fun w4 h=>?_
   refine rdz h (QN h ?_)
   have h:=h.pick (i:=2) (k:=k) rfl ht rfl
   have h:Hp O w w4 [aj ⟨s.a,s.len+2,s.cap⟩ 107 2 du zs,u.ro,an (ts.set k ao),aj ⟨x.2.1.a,x.2.1.len+2,x.2.1.cap⟩ 9 1 sv (x.2.2++ [bR,bR])]:=h
   have e1:IntKind.i64.wrap ((y.2.1.len:Int)+2)=((x.2.1.len+2:Nat):Int):=by rw [aB (by omega) (by omega)];omega
   rw [e1]
   refine EK h 3 (s:=x.2.1) (s0:=⟨x.2.1.a,x.2.1.len+2,x.2.1.cap⟩) (b:=((x.2.1.len+2:Nat):Int)) (m:=(x.2.1.cap:Nat)) rfl rfl (by omega) (by omega) (agr _) ?_
   rw [afu,afu]
   refine⟨fun ok w'=>ok=true /\ Hp O w w' [aj ⟨s.a,s.len+2,s.cap⟩ 107 2 du zs,u.ro,an (ts.set k ao),aj ⟨x.2.1.a,x.2.1.len+2,x.2.1.cap⟩ 9 1 sv (x.2.2++ [bR,bR])],?_,?_⟩
   ·refine aE rfl (QN h ?_)
    refine h.e9 (k:=.s) (s:=⟨x.2.1.a,x.2.1.len+2,x.2.1.cap⟩) (y:=bR) (x:=bR) 3 rfl (by omega) (by rw [afu,afv (by omega),Zc,EL,af9];rfl) cR rfl ?_
    refine aE (rC bR) (QN h ?_)
    refine h.e9 (k:=.s) (s:=⟨x.2.1.a,x.2.1.len+2,x.2.1.cap⟩) (y:=bR) (x:=bR) 3 rfl (by rw [aB (by omega) (by omega)];omega) (by
     have e2:(IntKind.i64.wrap ((y.2.1.len:Int)+1)).toNat=x.2.2.length+1:=by rw [aB (by omega) (by omega)];omega
     rw [e2,afv (by omega),agI];rfl) cR rfl ?_
    exact⟨rC bR,h⟩
   clear h
   rintro Xf w5 ⟨rfl,h⟩
   refine⟨fun t mm w'=> ∃(q:Nat) (fs:List ByteArray),t=q /\ q<=x.2.1.len+2 /\ mm=x.2.1.len+2 - q /\ fs.length=x.2.1.len+2 /\ Hp O w w' [aj ⟨s.a,s.len+2,s.cap⟩ 107 2 du zs,u.ro,an (ts.set k ao),aj ⟨x.2.1.a,x.2.1.len+2,x.2.1.cap⟩ 9 1 sv fs],⟨x.2.1.len+2,0,x.2.2++ [bR,bR],rfl,by omega,rfl,by simp [EL],h⟩,?_⟩
   clear h
   rintro t mm w6 ⟨q,fs,rfl,hq,rfl,ee,h⟩
   by_cases QM:q < x.2.1.len+2
   ·refine aE (by simp;omega) ?_
    refine h.mL (s:=⟨x.2.1.a,x.2.1.len+2,x.2.1.cap⟩) (y:=Ia) 3 rfl (by omega) (by rw [afu];omega) cR rfl rfl fun w7 h=>?_
    exact⟨x.2.1.len+2 - (q+1),by omega,q+1,fs.set _ Ia,by rw [aB (by omega) (by omega)];omega,by omega,rfl,by simpa using ee,h⟩
   ·refine aF (by simp;omega) ?_
    refine h.GM (s:=⟨s.a,s.len+2,s.cap⟩) (y:=ov) 0 rfl (by omega) (by rw [afu];omega) aU rfl rfl rfl fun w7 h=>?_
    rw [afu] at h
    refine⟨s.len+2 - (k+1),by omega,k+1,zs.set k ov,ts.set k ao,rfl,by rw [aB (by omega) (by omega)];omega,by omega,rfl,by simpa using VD,by
     rw [agG (by omega),<-agk,Za,agk],by
     rw [agG (by omega),<-agk,Fp,agk],h.trim 3⟩
 ·refine aF (by simp;omega) ?_
  have h:=(h.EC).gC (ts:= [ao]) [0] (by decide) rfl
  have:=back (rest:= []) rfl rfl h
  rw [afH] at this
  exact hK w2 this
theorem DA (h:Hp S w0 w ae) (i:Nat) {b:Nat} {a:WA} (hi:ae[i]? =some (tW b a)) {K:Sl->World->Prop}
  (hK: ∀r w',Hp S w0 w' (ae++ [aD r a.ks])->K r w'):U9 (some ⟨b,0,none⟩) w K:=by
 refine OH ?_
 unfold f45
 obtain⟨O,h1,back⟩:=h.f1 hi rfl
 clear h
 obtain⟨q,bK,ht,hk,h⟩:=kC h1
 have gI:=bK.len
 have cU:(kinds q.xs).length=q.xs.length:=by simp [kinds]
 have wo:q.xs.length<=12:=by rw [hk] at cU;omega
 have h4: ∀x∈q.xs,x.2.2.length<=4:=fun x hx=>bK.four (x.1,x.2.2) (by rw [<-hk];exact afQ.2 ⟨x,hx,rfl⟩)
 refine bg ?_
 refine h.cx (k:=.sl) (x:=q.sk) 0 rfl rfl ?_
 refine sA h 2 3 (s:=q.sk) (xs:=q.xs) rfl rfl (by omega) (fun x hx=>by have:=h4 x hx;omega) fun r ys w3 wP h=>?_
 have h:Hp O w w3 [q.v7 b,ao,aj q.sk 107 2 du q.xs,an (q.xs.map tF),ay 149 q.pb a.m.au,fX q.ms cc (Value.int .i64) a.m.aJ,fX q.mt (Value.int .i64) pv (db q.T),an (q.T.map tT),aj r 107 2 du ys,an (ys.map tF)]:=h
 have h:=h.dE (i:=8) (j:=9) (e:=107) (n:=2) (cells:=du) (sub:=tF) (vis:=lg) (s:=r) (xs:=ys) (l:=a.ks) (by decide) rfl rfl (by rw [<-hk];exact wP)
 have h:Hp O w w3 (q.all b a.m ao++ [aD r a.ks]++ [ao]):=h
 have h:=h.front
 exact hK r w3 (Dt hi back (rest:= [aD r a.ks]) rfl (jM (u:=ao) (m:=a.m) (q:=q) (rest:= [_]) bK ht hk rfl rfl h))
theorem AM {w:World} {O:List Nat} {s:Sl} {l:KD} (h:(aD s l).holds w O):y5 w s l:=by
 obtain⟨xs,hx,O1,O2,h1,h2,h3,h4⟩:=h
 refine⟨xs,O,hx,fun k hk=>?_,⟨O1,cA.toR h1,fun k hk=>(h4 k).2 (.inl hk)⟩,fun x jU=>?_⟩
 ·rcases(h4 k).1 hk with hk | hk
  ·exact(aj s 107 2 du xs).lt h1 k hk
  ·exact(an (xs.map tF)).lt h2 k hk
 ·obtain⟨k,hk,rfl⟩:=agQ.1 jU
  obtain⟨O3,O4,g1,_,_,g3⟩:=dx (k:=k) (t:=tF xs[k]) (by simp [hk]) h2
  have g1:cA w xs[k].2.1 9 1 sv xs[k].2.2 O3:=g1
  refine⟨?_,O3,cA.toR g1,fun q hq=>(h4 q).2 (.inr ((g3 q).2 (.inl hq)))⟩
  rcases g1.2 with ⟨_,q1,q2,_⟩ | ⟨_,_,_,_,_,_,q,_⟩
  ·omega
  ·exact q
abbrev rD (x:Int×Int):List Value:= [.int .i64 x.1,.int .i64 x.2]
theorem nZ (x:Int×Int):(rD x).length=2:=rfl
theorem AN {l:List (Int×Int)} {k:Int}:k∈l.map (·.1)↔(gh l k).isSome=true:=by
 rw [ja,Option.isSome_map,List.find?_isSome]
 constructor
 ·intro h
  obtain⟨x,hx,rfl⟩:=afQ.1 h
  exact⟨x,hx,by simp⟩
 ·rintro⟨x,hx,he⟩
  exact afQ.2 ⟨x,hx,by simpa using he⟩
theorem T9 (h:Hp S w0 w ae) (i:Nat) {b:Nat} {g:Int->Option Int} {mt ty kt vt:TypeId} {K:Int->Prop} (hi:(ae[i]?).map aa.holds=some (fX b (Value.int .i64) (Value.int .i64) g).holds) (hm:Tryz.prog.underlying mt=some (.map kt vt))
  {xs:List (Int×Int)} (bE:(xs.map (·.1)).Nodup) (hg: ∀s,g s=gh xs s) (hK:K (xs.length:Nat)):hZ (.i .i64) Tryz.prog (Builtin.len_ #[mt] ty #[.map (some b)]) w K:=by
 obtain⟨O,l,⟨⟨es,clock,hb,oc,_⟩,_⟩,kF,sB⟩:=h.dQ hi
 have iV: ∀w',Ext w w'->w'.heap[b]? =some (.map es clock):=fun w' he=>(he.2 b (afL.1 hb).1).trans hb
 have hk: ∀s,s∈l.map (·.1)↔s∈xs.map (·.1):=fun s=>by rw [AN,AN,sB,hg]
 have e1:=lh _ _ kF (fun s hs=>(hk s).1 hs)
 have e2:=lh _ _ bE (fun s hs=>(hk s).2 hs)
 have e3:es.size=l.length:=by
  have:=congrArg List.length oc
  simpa using this
 simp only [afP] at e1 e2
 refine⟨(xs.length:Nat),fun w' he=>?_,hK⟩
 have:es.size=xs.length:=by omega
 simp [Builtin.len_,Sem.run_bind,run_underlying hm,Result.andThen_ok,MapKept.run_getObj_map (iV w' he),Sem.run_pure,goInt,this,Kd.inj]
theorem mo (h:Hp S w0 w ae) (i j:Nat) {b:Nat} {g:Int->Option Int} {s:Sl} {xs:List (Int×Int)} {u:aa} (hi:(ae[i]?).map aa.holds=some (fX b (Value.int .i64) (Value.int .i64) g).holds) (hj:(ae[j]?).map aa.holds=some u.holds) (hu:Hp.Reads u s 2 rD xs)
  (hl:xs.length<=1000000000) (bE:(xs.map (·.1)).Nodup) (hg: ∀s,g s=gh xs s) {K:Bool->World->Prop} (hK: ∀w',Hp S w0 w' ae->K true w'):Va (some b) s w K:=by
 refine ON ?_
 unfold f48
 have eQ:=h.df j hj hu
 refine T9 h i hi ox bE hg ?_
 refine aF (by simp;omega) ?_
 refine⟨fun t mm w'=> ∃k:Nat,t=k /\ k<=xs.length /\ mm=xs.length - k /\ Hp S w0 w' ae,⟨xs.length,0,rfl,by omega,rfl,h⟩,?_⟩
 clear h
 rintro t mm w2 ⟨k,rfl,hk,rfl,h⟩
 by_cases ar:k < xs.length
 ·refine aE (by simp;omega) ?_
  have hx:xs[k]? =some xs[k]:=by simp [ar]
  have Mi:g xs[k].1=some xs[k].2:=by
   rw [hg,ja]
   have:xs.find? (fun p=>decide (p.1=xs[k].1))=some xs[k]:=by
    rw [List.find?_eq_some_iff_getElem]
    refine⟨by simp,k,ar,rfl,fun q hq=>?_⟩
    simp only [Bool.not_eq_eq_eq_not,ah2,decide_eq_false_iff_not]
    intro he
    have hn:=ahl.1 bE q k (by simp;omega) (by simpa using ar) hq
    exact hn (by simpa using he)
   rw [this];rfl
  generalize xs[k]=x at hx Mi
  obtain⟨O,hO⟩:=h.dQ hj
  obtain⟨o,hR⟩:=hu.rd hO
  refine cf.ix nZ hR (by omega) (x:=x) (by rw [afu];exact hx) fun ad hc=>?_
  refine ep (k:=.i .i64) (x:=x.1) (hc 0 (by omega)) rfl ?_
  refine h.lookup (kd:=.i .i64) (vk:=fun x=>x) (z:=(0:Int)) i (k:=x.1) rfl hi ox wv lN.choose_spec.1 lN.choose_spec.2.1 (fun _=>rfl) ?_
  rw [Mi]
  refine aF (by simp) ?_
  refine cf.ix nZ hR (by omega) (x:=x) (by rw [afu];exact hx) fun ad hc=>?_
  refine j8 (k:=.i .i64) (x:=x.2) (hc 1 (by omega)) rfl ?_
  refine aF (by simp) ?_
  exact⟨xs.length - (k+1),by omega,k+1,by rw [aB (by omega) (by omega)];omega,by omega,rfl,h⟩
 ·exact aF (by simp;omega) (hK w2 h)
end
end Go.Proofs.YtcccjgmekakabaaGreat.FW
end

section
namespace Go.Proofs.YtcccjgmekakabaaGreat.FW
open F
open Go Go.Den Go.Proofs
open FI (af ay pk cS)
open FT (az di bM cc dz aP gm bD iv aq)
open FP (aV eI lT bI bS tB aT cw dX cT Acc ax fi bz iC iD)
theorem vo {m:af} (hm:m.Ok) {e:bM}:e∈m.eA m.ah.length↔m.is e.1 e.2=true:=by
 constructor
 ·intro he
  obtain⟨h1,_⟩:=FI.iA m m.ah.length
  obtain⟨_,_,h2,h3⟩:=h1 e he
  exact af.jG.2 ⟨h2,h3⟩
 ·intro he
  obtain⟨h1,h2⟩:=af.jG.1 he
  obtain⟨h3,h4⟩:=FI.ji hm h1
  exact vg m h1 h2 h3 _ h4
theorem DB {n:Int} (h0:0<=n) (h1:n < 18446744073709551616): -9223372036854775808<=lT n /\ lT n<=9223372036854775807:=by
 unfold lT;split <;> omega
theorem DC {s:Nat} (h1:s < 18446744073709551616):IntKind.u64.wrap ((BitVec.ofInt 64 (s:Int) &&& BitVec.ofInt 64 1).toNat:Nat)=((s % 2:Nat):Int):=by
 have e2:(BitVec.ofInt 64 (s:Int) &&& BitVec.ofInt 64 1).toNat=s % 2:=by
  rw [BitVec.toNat_and]
  have a1:(BitVec.ofInt 64 (s:Int)).toNat=s:=by rw [ahT];omega
  have a2:(BitVec.ofInt 64 1).toNat=1:=by decide
  rw [a1,a2,Nat.and_one_is_mod]
 rw [e2,FP.kH]
 omega
section
variable {S:List Nat} {w0 w:World} {ae:List aa}
set_option maxHeartbeats 8000000 in
theorem QO (h:Hp S w0 w ae) (j:Nat) {s:Sl} {l:KD} (hr:y5 w s l) (hl:l.length<=10000000) (dw: ∀x∈l,x.1.size<=1000000000000 /\ ∀y∈x.2,y.size<=1000000000000)
  {u:aa} {b:Sl} {bs:List Int} (hj:ae[j]? =some u) (hu:Hp.Reads u b 1 eC bs) (hb:Bytes bs) (qB:bs.length<=9000000000000000) (dF:b.len<=b.cap) {K:Option Addr->Int->World->Prop}
  (hK:(cC l->cT bs 200 (cL bs 200).1 (cL bs 200).2 /\ ∀r1,lZ bs=some r1->cT r1.2 200 (cL r1.2 200).1 (cL r1.2 200).2)->
   (∀a wb w',load l bs=(some a,0)->Hp S w0 w' (ae++ [tW wb a])->K (some ⟨wb,0,none⟩) 0 w') /\ (∀e w',load l bs=(none,e)->Hp S w0 w' ae->K none e w')):WE s b w K:=by
 refine Oi ?_
 unfold f19
 obtain⟨inf,q1,q2,q3,q4⟩:=FT.jC
 have adm:=hr.len
 have gN:=(aft.1 hj).1
 refine T5 h hr hl dw (fun hm wb w1 h=>?_) (fun hm w1 h=>?_)
 case refine_2=>
  refine aE rfl ((hK fun fC=>absurd fC hm).2 65 w1 ?_ h)
  unfold load;rw [if_pos hm]
 refine aF (by simp) ?_
 have hlen:1<=l.length /\ l.length<=12:=⟨hm.2.1,hm.2.2.1⟩
 have gj: ∀{l':List aa},(ae++l')[j]? =some u:=fun{l'}=>by rw [afx gN];exact hj
 refine qq h j gj hu hb qB dF fun ah b2 one w2 l1 bs1 ML h hu1 Ua lr ado tU Ub=>?_
 refine qq h j (by rw [afA];exact gj) hu1 lr (by omega) Ua fun free b3 two w3 l2 RJ Fq h hu2 H3 eU adq Jf Zd=>?_
 have fin:=hK fun _=>⟨ML,fun r1 v5=>by
  cases one with
  | true=>
   rw [(tU rfl).1] at v5
   rw [<-afK v5];exact Fq
  | false=>rw [Ub rfl] at v5;cases v5⟩
 cases one with
 | false=>
  refine aE rfl (fin.2 64 w3 ?_ h.front.front.front)
  unfold load;rw [if_neg (by simpa using hm),Ub rfl]
 | true=>
 obtain⟨tU,A3⟩:=tU rfl
 cases two with
 | false=>
  refine aE rfl (fin.2 64 w3 ?_ h.front.front.front)
  unfold load;rw [if_neg (by simpa using hm),tU];dsimp only;rw [Zd rfl]
 | true=>
 obtain⟨Jf,yH⟩:=Jf rfl
 refine aF (by simp) ?_
 have g0: ∀{l:List aa} (k:Nat),(ae++l)[ae.length+k]? =l[k]? :=fun{l} k=>by rw [afv (by omega)];simp
 have s0: ∀{l:List aa} (k:Nat) (t:aa),(ae++l).set (ae.length+k) t=ae++l.set k t:=fun{l} k t=>by rw [afI _ _ (by omega)];simp
 have h:Hp S w0 w3 (ae++ [tW wb (WA.new l),aj ah 3 1 iv l1,aj free 3 1 iv l2]):=by simpa using h
 have eK: ∀x,cS 200 l1 l2=x->load l bs=(match x with
   | none=>(none,64)
   | some m=>match cE l (m.eA m.ah.length) RJ (fun _=>none) with
    | none=>(none,64)
    | some r=>if r.2= [] then (some ⟨l,m,r.1⟩,0) else (none,64)):=fun x hx=>by
  unfold load;rw [if_neg (by simpa using hm),tU];dsimp only;rw [Jf];dsimp only;rw [hx];try rfl
 refine FI.Qk h (ae.length+1) (ae.length+2) (u:=aj ah 3 1 iv l1) (v:=aj free 3 1 iv l2) (by rw [g0];rfl) (by rw [g0];rfl) Hp.bX Hp.bX (by omega) (fun w4 B6 h=>?_) (fun m MM w4 B6 h=>?_)
 ·-- no pool
  obtain⟨O,h1,back⟩:=h.f1 (i:=ae.length+0) (by rw [g0];rfl) rfl
  obtain⟨q,bK,ht,hk,h2⟩:=kC h1
  refine bg ?_
  refine h2.st (n:=1) 0 rfl (by simp) rfl fun w5 h2=>?_
  refine aE rfl (fin.2 64 w5 (by rw [eK _ B6]) ?_)
  have:=back (t':=ao) (rest:= []) rfl rfl (h2.EC.trim 1)
  rw [afH,s0] at this
  exact this.front
 have h:Hp S w0 w4 (ae++ [tW wb (WA.new l)]++ [aj ah 3 1 iv l1,aj free 3 1 iv l2]++ [ay 149 MM m]):=by simpa using h
 have h:=h.dY
 have h:Hp S w0 w4 (ae++ [tW wb (WA.new l),ay 149 MM m]):=by simpa using h
 obtain⟨O,h1,back⟩:=h.f2r (i:=ae.length+0) (i':=ae.length+1) (j:=j) (by omega) (by omega) (by omega) (by rw [g0];rfl) (by rw [g0];rfl) gj rfl rfl
 clear h
 obtain⟨wE,mZ⟩:=FI.Af B6
 obtain⟨q,adr,Vz,Eh,h⟩:=kC h1
 have eK:=eK _ B6
 dsimp only at eK
 have y7:Hp.Reads u.ro b3 1 eC RJ:=⟨fun{w O} h=>hu2.rd h⟩
 refine bg ?_
 refine h.st (n:=1) 0 rfl (by simp) rfl fun w5 h=>?_
 refine aF (by simp) ?_
 have h:=h.gC [0,1,2,3,8,5,6,7,9] (by decide) (ts:=({ q with pb:=MM}:WH).all wb ⟨l,m,fun _=>none,[]⟩ ao++ [u.ro]) rfl
 refine bg ?_
 refine h.ld (n:=1) (k:=.p) (x:=some ⟨MM,0,none⟩) 0 rfl rfl ?_
 refine FI.Mr h 4 (m:=m) wE.toOk rfl fun r2 w6 h=>?_
 have h:=h.up (A:=({ q with pb:=MM}:WH).all wb ⟨l,m,fun _=>none,[]⟩ ao)
 have yX:=h.len (s:=r2) 8 rfl
 have Cx:(m.eA m.ah.length).length<=200:=by
  have h1:=af.gB m m.ah.length
  have h2:=wE.toOk.fe
  omega
 have bE:(m.eA m.ah.length).Nodup:=by
  rw [agE]
  refine ahX (fun{x y} h e=>?_) (FI.iA m m.ah.length).2
  rw [e] at h;omega
 have cP: ∀e,e∈m.eA m.ah.length↔m.is e.1 e.2=true:=fun e=>vo wE.toOk
 generalize m.eA m.ah.length=es at eK h yX Cx bE cP ⊢
 have Cy:kinds ({ q with pb:=MM}:WH).xs=l:=Eh
 have Sd:eD l (fun _=>none) (fun e=>((fun _=>none:bM->Option PL) e).map aG) ({ q with pb:=MM}:WH).cD:=Vz
 generalize ({ q with pb:=MM}:WH)=q' at h Cy Sd
 refine⟨fun b4 t62 mm w'=> ∃(k:Nat) (cur:List Int) (row:bM->Option PL) (q:WH),t62=k /\ k<=es.length /\ mm=es.length - k /\ cE l (es.drop k) cur row=cE l es RJ (fun _=>none) /\ eD l row (fun e=>(row e).map aG) q.cD /\ kinds q.xs=l /\ (∀e,(row e).isSome=true↔e∈es.take k) /\ (∀e p,row e=some p->dX (flat p)) /\
   Hp.Reads u.ro b4 1 eC cur /\ b4.len<=b4.cap /\ Bytes cur /\ cur.length<=bs.length /\ Hp O w4 w' (q.all wb ⟨l,m,fun e=>(row e).map aG,[]⟩ ao++ [aj r2 33 2 dz es,u.ro]),
  ⟨es.length,0,RJ,fun _=>none,q',rfl,by omega,rfl,rfl,Sd,Cy,by simp,by simp,y7,H3,eU,by omega,h⟩,?_⟩
 clear h Sd Cy
 rintro b4 t62 mm w7 ⟨k,cur,row,q',rfl,hk,rfl,cq,ht,Cy,ei,Az,EE,aaQ,yW,qA,h⟩
 have bad: ∀{w':World} {ts:List aa},Hp O w4 w' ts->cE l es RJ (fun _=>none)=none \/ (∃r,cE l es RJ (fun _=>none)=some r /\ r.2≠ [])->K none 64 w':=fun{w' ts} h ff=>by
  refine fin.2 64 w' ?_ ?_
  ·rw [eK]
   rcases ff with ff | ⟨r,hr,aR⟩
   ·rw [ff]
   ·rw [hr];dsimp only;rw [if_neg aR]
  ·have h2:=h.EC.EC.trim 2
   have:=back (t':=ao) (u':=ao) (rest:= []) rfl rfl rfl h2
   rw [afH,s0,s0] at this
   exact this.front
 have DD:=h.df (u:=u.ro) 9 rfl EE
 have cU:(kinds q'.xs).length=q'.xs.length:=by simp [kinds]
 have wo:q'.xs.length<=12:=by rw [Cy] at cU;omega
 have pa: ∀x∈l,x.2.length<=4:=fun x hx=>(hm.1 x hx).1
 have h4: ∀x∈q'.xs,x.2.2.length<=4:=fun x hx=>pa (x.1,x.2.2) (by rw [<-Cy];exact afQ.2 ⟨x,hx,rfl⟩)
 by_cases ar:k < es.length
 ·refine aE (by simp;omega) ?_
  have hx:es[k]? =some es[k]:=by simp [ar]
  have xi:es.drop k=es[k] :: es.drop (k+1):=agf ar
  have cX:es.take (k+1)=es.take k++ [es[k]]:=afG ar
  have sV:es[k] ∉ es.take k:=fun Qt=>by
   obtain⟨j0,Ib⟩:=afT Qt
   have Ic:=(aft.1 Ib).1
   rw [agc] at Ib
   split at Ib
   ·have:=(agF (i:=j0) (j:=k) (l:=es) (by simp at Ic;omega) bE).1 (by rw [Ib,hx])
    simp at Ic;omega
   ·cases Ib
  generalize es[k]=e at hx xi cX sV
  rw [xi] at cq
  refine h.sq (s:=r2) (l:=es) (f:=dz) (n:=2) (e:=33) 8 rfl (by omega) (by rw [afu];exact hx) aP fun ad hc=>?_
  refine ep (k:=.i .i64) (x:=e.1) (hc 0 (by omega)) rfl ?_
  refine j8 (k:=.i .i64) (x:=e.2) (hc 1 (by omega)) rfl ?_
  refine h.nw (c:= [_,_]) fun xb w8 h=>?_
  have h:=h.up (A:=q'.all wb ⟨l,m,fun e=>(row e).map aG,[]⟩ ao)
  refine h.iR 8 rfl (by simp) rfl fun w9 h=>?_
  refine h.st (n:=1) 8 rfl (by simp) rfl fun pj h=>?_
  have h:Hp O w4 pj (q'.all wb ⟨l,m,fun e=>(row e).map aG,[]⟩ ao++ [ai xb 33 [.int .i64 e.1,.int .i64 e.2],aj r2 33 2 dz es,u.ro]):=h
  refine FP.uU h 10 (u:=u.ro) rfl EE yW (by omega) ?_
  have QP:=bz yW
  have Ze:=cq
  rw [cE] at cq
  generalize hgu:ax cur=gu at QP cq ⊢
  obtain⟨set,sz⟩:=gu
  dsimp only at QP cq ⊢
  obtain⟨s0',s1',z0,z1,z10,_⟩:=QP
  refine⟨fun w'=> ¬(sz=0 \/ set % 2=1 \/ set / 2 ^ (l.length+1)≠0) /\ w'=pj,?_,?_⟩
  ·by_cases hz:sz=0
   ·refine aE (by simp [hz]) (bad h (.inl ?_))
    rw [<-cq,if_pos (.inl hz)]
   refine aF (by simpa using hz) ?_
   obtain⟨sn,rfl⟩: ∃sn:Nat,set=sn:=⟨set.toNat,by omega⟩
   rw [DC (by omega)]
   by_cases Ie:sn % 2=1
   ·refine aE (by simp [Ie]) (bad h (.inl ?_))
    rw [<-cq,if_pos (.inr (.inl (by omega)))]
   refine aF (by simp;omega) ?_
   have I4:IntKind.i64.wrap ((s.len:Int)+1)=((l.length+1:Nat):Int):=by rw [aB (by omega) (by omega)];omega
   rw [I4,afu,show min (l.length+1) 64=l.length+1 by omega]
   refine⟨by omega,?_⟩
   have Zf:Int.fdiv (sn:Int) (2 ^ (l.length+1))=(sn:Int) / 2 ^ (l.length+1):=ag4 _ (by exact_mod_cast Nat.zero_le _)
   rw [Zf]
   by_cases qt:(sn:Int) / 2 ^ (l.length+1)=0
   ·refine aF (by simp [qt]) ⟨?_,rfl⟩
    rintro(h | h | h)
    ·exact hz h
    ·omega
    ·exact h qt
   ·refine aE (by simpa using qt) (bad h (.inl ?_))
    rw [<-cq,if_pos (.inr (.inr qt))]
  rintro w' ⟨fY,rfl⟩
  rw [if_neg fY] at cq
  simp only [not_or,ahW] at fY
  obtain⟨hz,hev,qt⟩:=fY
  have QQ:set < 8192:=by
   obtain⟨sn,rfl⟩: ∃sn:Nat,set=sn:=⟨set.toNat,by omega⟩
   have e:((sn:Int) / 2 ^ (l.length+1))=((sn / 2 ^ (l.length+1):Nat):Int):=by simp
   rw [e] at qt
   have:sn < 2 ^ (l.length+1):=by
    rcases ahY sn (2 ^ (l.length+1)) with h | h
    ·exact h
    ·have:=Nat.div_pos h (ain _);omega
   have:=ahh this (ag1 (n:=2) (by omega) (show l.length+1<=13 by omega))
   omega
  refine Hp.jT (s:=b4) EE DD bx (by omega) (by omega) (by omega) (agr _) (by omega) fun b5 Uc Lw VR=>?_
  have e1:(cur.take ((b4.len:Nat):Int).toNat).drop sz.toNat=cur.drop sz.toNat:=by rw [afu,afE (by omega)]
  rw [e1] at Uc
  have Ud:b5.len<=b5.cap:=by rw [Lw,VR];omega
  have I4:IntKind.i64.wrap ((s.len:Int)+1)=((q'.xs.length+1:Nat):Int):=by rw [<-cU,Cy,aB (by omega) (by omega)];omega
  rw [I4,aB (n:=set) (by omega) (by omega)]
  refine nS h 0 2 3 (cells:= [_,_,_]) rfl rfl rfl wo h4 s0' (by omega) (q:=q'.xs.length) (afV _) ?_
  rw [Cy,<-cU,Cy]
  have Zg:=fR pa set l.length
  have h:=(h.nil 2 1 iv).up (A:=q'.all wb ⟨l,m,fun e=>(row e).map aG,[]⟩ ao)
  refine⟨fun b6 values t96 m3 w'=> ∃(n:Nat) (dg vs:List Int),t96=n /\ n<=eL l set l.length /\ m3=eL l set l.length - n /\ vs.length=n /\ cZ (eL l set l.length) (cur.drop sz.toNat)=(cZ (eL l set l.length - n) dg).map (fun r=>(vs++r.1,r.2)) /\ dX vs /\
    Hp.Reads u.ro b6 1 eC dg /\ b6.len<=b6.cap /\ Bytes dg /\ dg.length<=bs.length /\ Hp O w4 w' (q'.all wb ⟨l,m,fun e=>(row e).map aG,[]⟩ ao++ [aj values 2 1 iv vs,ai xb 33 [.int .i64 e.1,.int .i64 e.2],aj r2 33 2 dz es,u.ro]),
   ⟨eL l set l.length,0,cur.drop sz.toNat,[],rfl,by omega,rfl,rfl,by simp,(fun x hx=>by cases hx),Uc,Ud,(fun x hx=>yW x (ag2 hx)),by rw [af4];omega,h⟩,?_⟩
  clear h
  rintro b6 values t96 m3 wx ⟨n,dg,vs,rfl,hn,rfl,gi,gK,xD,Lx,Ue,VS,Zh,h⟩
  have QR:=h.df (u:=u.ro) 11 rfl Lx
  have adu:=h.len (s:=values) 8 rfl
  by_cases adv:n < eL l set l.length
  ·refine aE (by simp;omega) ?_
   refine FP.Am h 11 (u:=u.ro) rfl Lx VS (by omega) ?_
   have Zi:=bz VS
   obtain⟨Zj,Zk,y0,y1,y10,_⟩:=Zi
   have Zl:fi dg=(lT (ax dg).1,(ax dg).2):=rfl
   have FU:eL l set l.length - n=(eL l set l.length - (n+1))+1:=by omega
   rw [FU,cZ] at gK
   by_cases Ig:(fi dg).2=0
   ·refine aE (by simp [Ig]) (bad h (.inl ?_))
    rw [if_pos Ig] at gK
    rw [<-cq,gK];rfl
   ·refine aF (by simpa using Ig) ?_
    rw [if_neg Ig] at gK
    refine h.dr fun z9 h=>?_
    have hy:(fi dg).2=(ax dg).2:=rfl
    refine Hp.jT (s:=b6) Lx QR bx (by omega) (by omega) (by omega) (agr _) (by omega) fun b7 Uf Zm hc7=>?_
    have e2:(dg.take ((b6.len:Nat):Int).toNat).drop (fi dg).2.toNat=dg.drop (fi dg).2.toNat:=by rw [afu,afE (by omega)]
    rw [e2] at Uf
    refine h.bL 8 ((fi dg).1) (c:= [_]) rfl aq FT.eO q1 q3 q2 rfl rfl (by simp [iv,Value.oneCell']) (by rw [q4];omega) (by omega) fun tl MC h _ _=>?_
    refine⟨eL l set l.length - (n+1),by omega,n+1,dg.drop (fi dg).2.toNat,vs++ [(fi dg).1],by rw [aB (by omega) (by omega)];omega,by omega,rfl,by simp [gi],?_,?_,Uf,by rw [Zm,hc7];omega,(fun x hx=>VS x (ag2 hx)),by rw [af4];omega,h⟩
    ·rw [gK,Option.map_map]
     congr 1
     funext r
     simp
    ·intro x hx
     rcases afB.1 hx with hx | hx
     ·exact xD x hx
     ·simp only [afF] at hx
      subst hx
      rw [Zl]
      exact DB Zj Zk
  ·refine aF (by simp;omega) ?_
   obtain rfl:n=eL l set l.length:=by omega
   rw [af9,cZ] at gK
   have gK:cZ (eL l set l.length) (cur.drop sz.toNat)=some (vs,dg):=by rw [gK];simp
   rw [gK] at cq
   dsimp only at cq
   have rf:=vj gi
   have qC:=AG gi
   have Rw:=AH (v:=vs) hlen.2 s0' (by omega) qt
   generalize fJ l set vs=p at cq rf qC Rw
   refine h.cx (k:=.i .i64) (x:=e.1) 9 rfl rfl ?_
   refine h.ld (n:=1) (k:=.i .i64) (x:=e.2) 9 rfl rfl ?_
   have HR:row e=none:=by
    cases hr:row e with
    | none=>rfl
    | some p0=>exact absurd ((ei e).1 (by rw [hr];rfl)) sV
   have HS: ∀L:List bM,L.Nodup->(∀x∈L,(row x).isSome=true)->L.length < 200:=fun L Rq hL=>by
    have:=u7 wE.toOk (L:=e :: L) (by
     rw [ags]
     exact⟨fun Qt=>(by have:=hL _ Qt;rw [HR] at this;cases this),Rq⟩) (fun x hx=>by
     rcases af1.1 hx with rfl | hx
     ·exact(cP _).1 (afz (by assumption))
     ·exact(cP x).1 (ahH ((ei x).1 (hL x hx))))
    simp only [af6] at this
    omega
   have h:=nk h
   rw [<-rf] at h
   rw [<-Rw]
   refine tx h (row:=row) (e:=e) (p:=p) (by rw [Cy];exact ht) (by rw [Cy];exact hm) HR (by rw [Cy];exact qC) HS Hp.bX fun T' z9 D3 h=>?_
   have h:Hp O w4 z9 (({ q' with T:=T'}:WH).all wb ⟨l,m,aH (fun e=>(row e).map aG) e (some (aG p)),[]⟩ (aj values 2 1 iv (flat p))++(ao :: [ai xb 33 [.int .i64 e.1,.int .i64 e.2],aj r2 33 2 dz es,u.ro])):=h
   have h:=nk h
   have h:Hp O w4 z9 (({ q' with T:=T'}:WH).all wb ⟨l,m,aH (fun e=>(row e).map aG) e (some (aG p)),[]⟩ ao++ [aj values 2 1 iv (flat p),ai xb 33 [.int .i64 e.1,.int .i64 e.2]]++ [aj r2 33 2 dz es,u.ro]):=h
   have h:=h.dY
   have A8:aH (fun e=>(row e).map aG) e (some (aG p))=fun x=>(aH row e (some p) x).map aG:=(gG row e (some p)).symm
   rw [A8] at h
   refine⟨es.length - (k+1),by omega,k+1,dg,aH row e (some p),{ q' with T:=T'},by rw [aB (by omega) (by omega)];omega,by omega,rfl,?_,?_,Cy,fun x=>?_,fun x p' Br=>?_,Lx,Ue,VS,Zh,h⟩
   ·rw [<-cq]
   ·rw [<-A8]
    have:=D3
    rw [Cy] at this
    exact this
   ·rw [cX]
    unfold aH
    by_cases Fj:x=e
    ·rw [if_pos Fj];simp [Fj]
    ·rw [if_neg Fj,ei x];simp [Fj]
   ·unfold aH at Br
    split at Br
    ·obtain rfl:=afK Br
     rw [rf];exact xD
    ·exact Az x p' Br
 ·refine aF (by simp;omega) ?_
  have bG:k=es.length:=by omega
  subst bG
  rw [agq (afV _),cE] at cq
  rw [agJ] at ei
  by_cases Ly:cur= []
  ·refine aF (by simp;rw [<-DD,Ly];rfl) ?_
   have QS:load l bs=(some ⟨l,m,row⟩,0):=by rw [eK,<-cq];dsimp only;rw [if_pos Ly]
   have QT:WA.Ok ⟨l,m,row⟩:=⟨wE,mZ,hm,(fun e=>by
    have h1:=ei e
    have h2:=cP e
    show (row e).isSome=m.is e.1 e.2
    cases ha:(row e).isSome with
    | true=>exact(h2.1 (h1.1 ha)).symm
    | false=>
     cases hb:m.is e.1 e.2 with
     | false=>rfl
     | true=>rw [h1.2 (h2.2 hb)] at ha;cases ha),Az⟩
   refine fin.1 _ wb w7 QS ?_
   have h:Hp O w4 w7 (q'.all wb ⟨l,m,fun e=>(row e).map aG,[]⟩ ao++ [aj r2 33 2 dz es,u.ro]):=h
   have h2:=jM (u:=ao) (m:=⟨l,m,fun e=>(row e).map aG,[]⟩) (q:=q') (b:=wb) (a:=⟨l,m,row⟩) (rest:= []) QT ht Cy rfl rfl (by rw [afH];exact h.front)
   have h3:=h2.grow (Fr.refl _ _) (t:=ao) (O:= []) rfl (by simp) rfl
   have:=back (t':=tW wb ⟨l,m,row⟩) (u':=ao) (rest:= []) rfl rfl rfl h3
   rw [afH,s0,s0] at this
   have this:Hp S w0 w7 (ae++ [tW wb ⟨l,m,row⟩]++ [ao]):=by simpa using this
   exact this.front
  ·have kx:0 < cur.length:=List.length_pos_iff.2 Ly
   refine aE (by simp;omega) (bad h (.inr ⟨(row,cur),cq.symm,Ly⟩))
end
end Go.Proofs.YtcccjgmekakabaaGreat.FW
end

section
namespace Go.Proofs.YtcccjgmekakabaaGreat.FW
open F
open Go Go.Den Go.Proofs
open FI (af cS dW)
open FT (bM)
open FP (aV eI lT bI bS aT cw dX cT Acc ax fi bz k8)
theorem sG {ah:List Int}: ∀{free:List Int} {m m':af},dW ah free m=some m'->m'.free=m.free++free /\ m'.ah=m.ah /\ m'.alive.length=m.alive.length /\ ∀i:Nat,ah.getD i 0>=1000000->m'.alive.getD i false=m.alive.getD i false
 | [],m,m',h=>by rw [dW] at h;cases h;simp
 | i :: r,m,m',h=>by
  rw [dW] at h
  split at h
  ·cases h
  ·rename_i hc
   obtain⟨h1,h2,h3,h4⟩:=sG h
   refine⟨by rw [h1];simp,h2,by rw [h3];simp,fun j hj=>?_⟩
   rw [h4 j hj]
   show (m.alive.set i.toNat false).getD j false=_
   rw [FI.kY,if_neg]
   rintro⟨rfl,_⟩
   exact hc (.inr (.inr (.inr hj)))
theorem Cz {ah free:List Int} {m:af} (h:cS 200 ah free=some m):m.aM=ah /\ m.free=free:=by
 unfold cS at h
 split at h
 ·cases h
 rename_i hc
 simp only [not_or,ahW] at hc
 obtain⟨h1,h2,h3,h4⟩:=sG h
 refine⟨?_,by rw [h1];rfl⟩
 apply agd
 intro i
 unfold af.aM
 rw [List.getElem?_mapIdx,h2]
 show Option.map _ (ah.map fun g=>if 1000000 < g then 1000000 else g)[i]? =_
 rw [afC]
 cases hg:ah[i]? with
 | none=>rfl
 | some g=>
  have ky:=(aft.1 hg).1
  have Ra:ah.getD i 0=g:=by rw [afO,hg];rfl
  have hr:=hc.2.2.2 g (afz hg)
  have gI:g>=1000000->m.alive.getD i false=decide (g<=1000000):=fun iL=>by
   rw [h4 i (by rw [Ra];exact iL)]
   show (ah.map fun g=>decide (g<=1000000)).getD i false=_
   rw [afO,afC,hg];rfl
  have gK:m.bt ((i:Nat):Int)=m.alive.getD i false:=by
   unfold af.bt
   simp
  simp only [agy,afy,gK]
  by_cases iL:g>=1000000
  ·rw [gI iL]
   by_cases h5:g<=1000000
   ·have:g=1000000:=by omega
    subst this
    simp
   ·have:g=1000001:=by omega
    subst this
    simp
  ·rw [if_neg (by omega),if_neg (by omega)]
theorem Ih {n:Int} (h0:0<=n):eI (lT n)=n:=by
 unfold eI lT
 split <;> split <;> omega
theorem oC: ∀(n:Nat) (bs v r:List Int),Bytes bs->cZ n bs=some (v,r)->v.length=n /\ bs=bI v++r /\ Bytes r
 | 0,bs,v,r,hb,h=>by
  rw [cZ] at h
  cases h
  exact⟨rfl,rfl,hb⟩
 | n+1,bs,v,r,hb,h=>by
  rw [cZ] at h
  split at h
  ·cases h
  rename_i aR
  obtain⟨x,hx,he⟩:=af2.1 h
  obtain⟨v',r'⟩:=x
  obtain⟨rfl,rfl⟩:=agK he
  have iV:Bytes (bs.drop (fi bs).2.toNat):=fun y hy=>hb y (ag2 hy)
  obtain⟨h1,h2,h3⟩:=oC n _ _ _ iV hx
  have hk:(ax bs).2≠0:=aR
  have hr:=bz hb
  have e1:aV (eI (fi bs).1)=bs.take (ax bs).2.toNat:=by
   show aV (eI (lT (ax bs).1))=_
   rw [Ih hr.1,k8 hb hk]
  refine⟨by simp [h1],?_,h3⟩
  have e2:bI ((fi bs).1 :: v')=aV (eI (fi bs).1)++bI v':=by unfold bI;rw [age]
  rw [e2,e1,afA,<-h2]
  exact(agp _ _).symm
theorem oD {ks:KD} (hl:ks.length<=12): ∀(es:List bM) (bs:List Int) (row CA:bM->Option PL) (r:List Int),es.Nodup->Bytes bs->cE ks es bs row=some (CA,r)->
  (∀e,e ∉ es->CA e=row e) /\ bs=(es.flatMap fun e=>lW ((CA e).getD []))++r
 | [],bs,row,CA,r,_,_,h=>by
  rw [cE] at h
  cases h
  exact⟨fun _ _=>rfl,rfl⟩
 | e :: es,bs,row,CA,r,bE,hb,h=>by
  rw [cE] at h
  split at h
  ·cases h
  rename_i hc
  simp only [not_or,ahW] at hc
  obtain⟨c1,c2,c3⟩:=hc
  have hr:=bz hb
  have lr:Bytes (bs.drop (ax bs).2.toNat):=fun y hy=>hb y (ag2 hy)
  split at h
  ·cases h
  rename_i x hx
  obtain⟨v,r1⟩:=x
  obtain⟨g1,g2,g3⟩:=oC _ _ _ _ lr hx
  have aR:e ∉ es:=(ags.1 bE).1
  obtain⟨h1,h2⟩:=oD hl es r1 _ CA r (ags.1 bE).2 g3 h
  have MN:CA e=some (fJ ks (ax bs).1 v):=by rw [h1 e aR];unfold aH;rw [if_pos rfl]
  refine⟨fun x hx=>?_,?_⟩
  ·rw [h1 x (fun h=>hx (by simp [h]))]
   unfold aH
   rw [if_neg (fun h=>hx (by simp [h]))]
  ·rw [age,MN]
   show bs=(aV (aG (fJ ks (ax bs).1 v))++bI (flat (fJ ks (ax bs).1 v)))++_++r
   rw [AH hl hr.1 (by omega) c3,vj g1,k8 hb c1,afA,afA,<-h2,<-g2]
   exact(agp _ _).symm
theorem xK {bs:List Int} {l r:List Int} (hR:cT bs 200 (cL bs 200).1 (cL bs 200).2) (h:lZ bs=some (l,r)):bs=bS l++r:=by
 unfold lZ at h
 split at h
 ·cases h
 rename_i hc
 obtain⟨rfl,rfl⟩:=agK (afK h)
 have aR:(cL bs 200).2≠0:=fun e=>hc (.inl e)
 obtain⟨⟨_,_,_,_,rest,he⟩,hs⟩:=hR.2.1 aR
 generalize cL bs 200=p at hs he ⊢
 rw [hs,afu]
 subst he
 rw [ahJ]
theorem EM {ks:KD} {bs:List Int} {a:WA} (hb:Bytes bs) (hR:cT bs 200 (cL bs 200).1 (cL bs 200).2) (Fq: ∀r1,lZ bs=some r1->cT r1.2 200 (cL r1.2 200).1 (cL r1.2 200).2) (h:load ks bs=(some a,0)):a.snap=bs /\ a.ks=ks /\ cC ks:=by
 unfold load at h
 split at h
 ·cases h
 rename_i hm
 have hm:cC ks:=by simpa using hm
 split at h
 ·cases h
 rename_i r1 v5
 split at h
 ·cases h
 rename_i r2 yX
 split at h
 ·cases h
 rename_i m B6
 split at h
 ·cases h
 rename_i r hr
 split at h
 ·rename_i Lz
  obtain⟨l1,b1⟩:=r1
  obtain⟨l2,b2⟩:=r2
  obtain⟨row,b3⟩:=r
  obtain rfl:(⟨ks,m,row⟩:WA)=a:=afK (agK h).1
  obtain⟨e1,e2⟩:=Cz B6
  have k1:=xK hR v5
  have k2:=xK (Fq _ v5) yX
  dsimp only at Lz k2 hr
  have lr:Bytes b1:=fun y hy=>hb y (by rw [k1];exact ahj _ hy)
  have eU:Bytes b2:=fun y hy=>lr y (by rw [k2];exact ahj _ hy)
  have bE:(m.eA m.ah.length).Nodup:=by
   rw [agE]
   refine ahX (fun{x y} h e=>?_) (FI.iA m m.ah.length).2
   rw [e] at h;omega
  obtain⟨_,k3⟩:=oD hm.2.2.1 _ _ _ _ _ bE eU hr
  refine⟨?_,rfl,hm⟩
  unfold WA.snap WA.all
  dsimp only
  rw [e1,e2]
  rw [Lz,afH] at k3
  rw [k1,k2,k3,afA]
 ·cases h
end Go.Proofs.YtcccjgmekakabaaGreat.FW
end

section
namespace Go.Proofs.YtcccjgmekakabaaGreat.FI
open F
open Go Go.Den Go.Proofs
section
variable {S:List Nat} {w0 w:World} {ae:List aa}
theorem QU (h:Hp S w0 w ae) {n:Int} (h1:1<=n) (h2:n<=200) {K:Option Addr->Int->World->Prop} (hK: ∀b w',Hp S w0 w' (ae++ [ay 177 b ⟨n,[],[],[]⟩])->K (some ⟨b,0,none⟩) 0 w'):Vj n w K:=by
 refine Gy ?_
 unfold f77
 have n1: ¬n < 1:=by omega
 have n2: ¬n > 200:=by omega
 refine aF (by simp [n1,n2]) ?_
 refine(Hp.qY w).nw (c:= [_,_,_,_]) fun b w1 h1=>?_
 have h1:=h1.nil 3 1 iv
 have h1:=h1.nil 4 1 bv
 have h1:=h1.nil 3 1 iv
 exact hK b w1 (h.r0 rfl (fg (m:=⟨n,[],[],[]⟩) (sg:=⟨none,0,0⟩) (sa:=⟨none,0,0⟩) (sf:=⟨none,0,0⟩) (rest:= []) h1))
theorem Ii {n:Int} (hn:n < 1 \/ 200 < n) {K:Option Addr->Int->World->Prop} (hK:K none 1 w):Vj n w K:=by
 refine Gy ?_
 unfold f77
 refine aE ?_ hK
 by_cases h:n < 1
 ·simp [h]
 ·simp [h];omega
theorem rE {m:af} (hm:m.Ok) {i:Int} (h0:0<=i) (h1:i < m.ah.length):m.alive[i.toNat]? =some (m.bt i):=by
 have hl:i.toNat < m.alive.length:=by rw [hm.len];omega
 simp [af.bt,h0,hl]
theorem qu {m:af} {i:Int} (h0:0<=i) (h1:i < m.ah.length):m.ah[i.toNat]? =some (m.gen i):=by
 have hl:i.toNat < m.ah.length:=by omega
 simp [af.gen,hl]
theorem xL {m:af} (hm:m.Ok) {i:Int} (h: ¬(0<=i /\ i < m.ah.length)):m.bt i=false:=by
 cases hl:m.bt i with
 | false=>rfl
 | true=>exact absurd (ji hm hl) h
theorem Ij (h:Hp S w0 w ae) (i:Nat) {b:Nat} {m:af} (hm:m.Ok) (hi:(ae[i]?).map aa.holds=some (ay 177 b m).holds) {x g:Int} {K:Bool->World->Prop}
  (hK: ∀w',Hp S w0 w' ae->K (m.is x g) w'):NG (some ⟨b,0,none⟩) x g w K:=by
 refine Kf ?_
 unfold f129
 obtain⟨sg,sa,sf,h1⟩:=qa h i hi
 have hl:=h1.len 1 rfl
 have fin: ∀{w':World} {q:Bool},Hp [] w w' []->q=m.is x g->K q w':=fun hf hq=>by
  rw [hq];exact hK _ (h.cB hf.fr)
 refine h1.nw (c:= [_,_]) fun e w1 h1=>?_
 refine h1.dr fun w1 h1=>?_
 refine h1.cx (x:=x) 4 rfl rfl ?_
 by_cases c0:0<=x
 ·refine aE (by simpa using c0) ?_
  refine h1.cx (x:=x) 4 rfl rfl ?_
  refine bg ?_
  refine h1.ld (x:=sg) 0 rfl rfl ?_
  by_cases c1:x < (m.ah.length:Int)
  ·refine aE (by simp;omega) ?_
   refine bg ?_
   refine h1.ld (x:=sa) 0 rfl rfl ?_
   refine h1.cx (x:=x) 4 rfl rfl ?_
   refine h1.e9 (k:=.b) (x:=m.bt x) 2 rfl c0 (rE hm c0 c1) lP rfl ?_
   cases gK:m.bt x with
   | true=>
    refine aE rfl ?_
    refine bg ?_
    refine h1.ld (x:=sg) 0 rfl rfl ?_
    refine h1.cx (x:=x) 4 rfl rfl ?_
    refine h1.e9 (k:=.i .i64) (x:=m.gen x) 1 rfl c0 (qu c0 c1) aq rfl ?_
    refine h1.ld (x:=g) 4 rfl rfl ?_
    exact fin (h1.trim 0) (by simp [af.is,gK])
   | false=>exact aF (by simp) (fin (h1.trim 0) (by simp [af.is,gK]))
  ·exact aF (by simp;omega) (fin (h1.trim 0) (by simp [af.is,xL hm (i:=x) (by omega)]))
 ·exact aF (by simpa using c0) (fin (h1.trim 0) (by simp [af.is,xL hm (i:=x) (by omega)]))
theorem xM {m:af} (hm:m.Ok) {k:Nat} (hk:k < m.ah.length):m.eA (k+1)=m.eA k++(if m.bt k=true then [((k:Int),m.gen k)] else []):=by
 rw [af.eA]
 split <;> simp
theorem QV (h:Hp S w0 w ae) (i:Nat) {b:Nat} {m:af} (hm:m.Ok) (hi:(ae[i]?).map aa.holds=some (ay 177 b m).holds) {K:Sl->World->Prop}
  (hK: ∀s w',Hp S w0 w' (ae++ [aj s 33 2 dz (m.eA m.ah.length)])->K s w'):ND (some ⟨b,0,none⟩) w K:=by
 refine Kc ?_
 unfold f127
 obtain⟨sg,sa,sf,h1⟩:=qa h i hi
 have hl:=h1.len 1 rfl
 have h2:=hm.fe
 have h1:=h1.nil 33 2 dz
 obtain⟨inf,q1,q2,q3,q4⟩:=Dh
 refine⟨fun s t mm w'=> ∃k:Nat,t=k /\ k<=m.ah.length /\ mm=m.ah.length - k /\ Hp [] w w' [(ai b 177 [.int .i64 m.aA,.slice sg.a sg.len sg.cap,.slice sa.a sa.len sa.cap,.slice sf.a sf.len sf.cap]).ro,(aj sg 3 1 iv m.ah).ro,(aj sa 4 1 bv m.alive).ro,(aj sf 3 1 iv m.free).ro,aj s 33 2 dz (m.eA k)],⟨m.ah.length,0,rfl,by omega,rfl,h1⟩,?_⟩
 rintro s t mm w2 ⟨k,rfl,hk,rfl,h1⟩
 refine bg ?_
 refine h1.ld (x:=sg) 0 rfl rfl ?_
 by_cases ar:k < m.ah.length
 ·refine aE (by simp;omega) ?_
  refine bg ?_
  refine h1.ld (x:=sa) 0 rfl rfl ?_
  refine h1.e9 (k:=.b) (x:=m.bt k) 2 rfl (by omega) (rE hm (by omega) (by omega)) lP rfl ?_
  have hu:=af.gB m k
  cases gK:m.bt k with
  | true=>
   refine aE rfl ?_
   refine bg ?_
   refine h1.ld (x:=sg) 0 rfl rfl ?_
   refine h1.e9 (k:=.i .i64) (x:=m.gen k) 1 rfl (by omega) (qu (by omega) (by omega)) aq rfl ?_
   have eQ:=h1.len 4 rfl
   refine h1.bL (c:= [_,_]) 4 ((k:Int),m.gen k) rfl aP Mm q1 q3 q2 rfl rfl (by simp [dz,Value.oneCell']) (by rw [q4];omega) (by omega) fun s2 w1 h1 jO _=>?_
   refine⟨m.ah.length - (k+1),by omega,k+1,by rw [aB (by omega) (by omega)];omega,by omega,rfl,?_⟩
   have e:=xM hm ar
   rw [if_pos gK] at e
   rw [e]
   exact h1
  | false=>
   refine aF (by simp) ?_
   refine⟨m.ah.length - (k+1),by omega,k+1,by rw [aB (by omega) (by omega)];omega,by omega,rfl,?_⟩
   have e:=xM hm ar
   rw [gK,if_neg (by simp),afH] at e
   rw [e]
   exact h1
 ·refine aF (by simp;omega) ?_
  obtain rfl:k=m.ah.length:=by omega
  exact hK _ _ (h.r0 rfl (h1.oV 4 rfl))
theorem DE (h:Hp S w0 w ae) (i:Nat) {b:Nat} {m:af} (hl:m.free.length<=1000000000) (hi:(ae[i]?).map aa.holds=some (ay 177 b m).holds) {x:Int} {K:Bool->World->Prop}
  (hK:K (decide (x∈m.free)) w):JG (some ⟨b,0,none⟩) x w K:=by
 refine KE ?_
 unfold f158
 obtain⟨sg,sa,sf,h1⟩:=qa h i hi
 have cW:=h1.len 3 rfl
 refine⟨fun t mm w'=> ∃k:Nat,t=k /\ k<=m.free.length /\ mm=m.free.length - k /\ x ∉ m.free.take k /\ w'=w,⟨m.free.length,0,rfl,by omega,rfl,by simp,rfl⟩,?_⟩
 rintro t mm w2 ⟨k,rfl,hk,rfl,da,rfl⟩
 refine bg ?_
 refine h1.ld (x:=sf) 0 rfl rfl ?_
 by_cases ar:k < m.free.length
 ·refine aE (by simp;omega) ?_
  refine bg ?_
  refine h1.ld (x:=sf) 0 rfl rfl ?_
  refine h1.e9 (k:=.i .i64) (y:=m.free[k]) (x:=m.free[k]) 3 rfl (by omega) (by simp [ar]) aq rfl ?_
  by_cases he:m.free[k]=x
  ·refine aE (by simpa using he) ?_
   have:x∈m.free:=he ▸ afR ar
   rw [decide_eq_true this] at hK
   exact hK
  ·refine aF (by simpa using he) ?_
   refine⟨m.free.length - (k+1),by omega,k+1,by rw [aB (by omega) (by omega)];omega,by omega,rfl,?_,rfl⟩
   rw [ag5,afD ar]
   simp only [Option.toList_some,afB,afF,not_or]
   exact⟨da,fun h=>he h.symm⟩
 ·refine aF (by simp;omega) ?_
  rw [afE (by omega)] at da
  rw [decide_eq_false da] at hK
  exact hK
end
end Go.Proofs.YtcccjgmekakabaaGreat.FI
end

section
namespace Go.Proofs.YtcccjgmekakabaaGreat.FI
open F
open Go Go.Den Go.Proofs
section
variable {S:List Nat} {w0 w:World} {ae:List aa}
theorem LA (h:Hp S w0 w ae) (i:Nat) {b:Nat} {m:af} (hm:m.Ok) (hi:ae[i]? =some (ay 177 b m)) {K:Int->Int->Int->World->Prop}
  (hK: ∀w',Hp S w0 w' (ae.set i (ay 177 b m.bu.1))->K m.bu.2.1.1 m.bu.2.1.2 m.bu.2.2 w'):NK (some ⟨b,0,none⟩) w K:=by
 refine Kj ?_
 unfold f133
 obtain⟨O,h1,back⟩:=h.f1 hi rfl
 obtain⟨sg,sa,sf,h1⟩:=nR h1 (i:=0) rfl
 have sB:=h1.len 1 rfl
 have gI:=h1.len 2 rfl
 have ee:=h1.len 3 rfl
 have hfc:=h1.cap 3 rfl
 have yz:=hm.fe
 have hlen:=hm.len
 unfold af.bu at hK
 refine h1.nw (c:= [_,_]) fun a w1 h1=>?_
 refine bg ?_
 refine h1.ld (x:=sf) 0 rfl rfl ?_
 cases hf:m.free with
 | cons x rest=>
  simp only [hf] at hK
  rw [hf] at h1 ee
  simp only [af6] at ee
  obtain⟨x0,x1,x2,x3⟩:=hm.free x (by rw [hf];simp)
  refine aE (by simp;omega) ?_
  refine bg ?_
  refine h1.ld (x:=sf) 0 rfl rfl ?_
  refine h1.e9 (k:=.i .i64) (y:=x) (x:=x) 3 rfl (by omega) rfl aq rfl ?_
  refine bg ?_
  refine h1.ld (x:=sf) 0 rfl rfl ?_
  refine h1.cut 3 (s:=sf) rfl aq (by omega) (by omega) (by omega) (by omega) (by omega) fun s h1 eQ Ff _=>?_
  have e0:((x :: rest).take ((sf.len:Int)).toNat).drop (1:Int).toNat=rest:=by
   rw [afE (by simp;omega)];rfl
  rw [e0] at h1
  refine bg ?_
  refine h1.st 0 rfl (by simp) rfl fun w1 h1=>?_
  refine bg ?_
  refine h1.ld (x:=sg) 0 rfl rfl ?_
  refine h1.e9 (k:=.i .i64) (x:=m.gen x) 1 rfl x0 (qu x0 x1) aq rfl ?_
  refine h1.mL 1 rfl x0 (by omega) aq (y:=IntKind.i64.wrap (m.gen x+1)) rfl rfl fun w1 h1=>?_
  have iL:=hm.gen x0 x1
  have ew:IntKind.i64.wrap (m.gen x+1)=m.gen x+1:=aB (by omega) (by omega)
  rw [ew] at h1
  refine bg ?_
  refine h1.ld (x:=sa) 0 rfl rfl ?_
  refine h1.mL 2 rfl x0 (by omega) lP (y:=true) rfl rfl fun w1 h1=>?_
  refine bg ?_
  refine h1.ld (x:=sg) 0 rfl rfl ?_
  refine h1.e9 (k:=.i .i64) (y:=m.gen x+1) (x:=m.gen x+1) 1 rfl x0 (by rw [afX (by omega)]) aq rfl ?_
  simp only [af3,aga,afN,afZ] at h1
  refine h1.iR 4 rfl (by simp) rfl fun w1 h1=>?_
  refine h1.st 4 rfl (by simp) rfl fun w1 h1=>?_
  refine h1.cx (x:=x) 4 rfl rfl ?_
  refine h1.ld (x:=m.gen x+1) 4 rfl rfl ?_
  have h3:=back (t':=ay 177 b (m.cu x rest)) (rest:= []) rfl rfl (fg (m:=m.cu x rest) (rest:= []) (h1.GC 0 1 2 3 (by decide) rfl rfl rfl rfl))
  rw [afH] at h3
  exact hK _ h3
 | nil=>
  simp only [hf] at hK
  rw [hf] at ee
  simp only [agU] at ee
  refine aF (by simp;omega) ?_
  refine h1.dr fun w1 h1=>?_
  refine bg ?_
  refine h1.ld (x:=sg) 0 rfl rfl ?_
  refine bg ?_
  refine h1.cx (x:=m.aA) 0 rfl rfl ?_
  by_cases hl:(m.ah.length:Int) < m.aA
  ·simp only [if_pos hl] at hK
   refine aF (by simp;omega) ?_
   obtain⟨inf,q1,q2,q3,q4⟩:=lN
   obtain⟨Hr,r1,r2,r3,r4⟩:=B1
   refine bg ?_
   refine h1.ld (x:=sg) 0 rfl rfl ?_
   refine h1.bL (c:= [_]) 1 1 rfl aq dR q1 q3 q2 rfl rfl (by simp [iv,Value.oneCell']) (by rw [q4];omega) (by omega) fun s2 w1 h1 jO _=>?_
   refine bg ?_
   refine h1.st 0 rfl (by simp) rfl fun w1 h1=>?_
   refine bg ?_
   refine h1.ld (x:=sa) 0 rfl rfl ?_
   refine h1.bL (c:= [_]) 2 true rfl lP ox r1 r3 r2 rfl rfl (by simp [bv,Value.oneCell']) (by rw [r4];omega) (by omega) fun s3 w1 h1 I1 _=>?_
   refine bg ?_
   refine h1.st 0 rfl (by simp) rfl fun w1 h1=>?_
   refine bg ?_
   refine h1.ld (x:=s2) 0 rfl rfl ?_
   simp only [af3,aga,afN,afZ] at h1
   have ew:IntKind.i64.wrap ((s2.len:Int) - 1)=m.ah.length:=by rw [aB (by omega) (by omega)];omega
   rw [ew]
   refine h1.iR 4 rfl (by simp) rfl fun w1 h1=>?_
   refine h1.st 4 rfl (by simp) rfl fun w1 h1=>?_
   refine h1.cx (x:=(m.ah.length:Int)) 4 rfl rfl ?_
   refine h1.ld (x:=(1:Int)) 4 rfl rfl ?_
   have h4:=h1.GC 0 1 2 3 (by decide) rfl rfl rfl rfl
   have h3:=back (t':=ay 177 b m.cV) (rest:= []) rfl rfl (fg (m:=m.cV) (rest:= []) h4)
   rw [afH] at h3
   exact hK _ h3
  ·simp only [if_neg hl] at hK
   refine aE (by simp;omega) ?_
   refine h1.iR 4 rfl (by simp) rfl fun w1 h1=>?_
   refine h1.st 4 rfl (by simp) rfl fun w1 h1=>?_
   refine h1.cx (x:=(0:Int)) 4 rfl rfl ?_
   refine h1.ld (x:=(0:Int)) 4 rfl rfl ?_
   simp only [af3,aga,afN,afZ] at h1
   have h4:=h1.GC 0 1 2 3 (by decide) rfl rfl rfl rfl
   have h3:=back (t':=ay 177 b m) (rest:= []) rfl rfl (fg (m:=m) (rest:= []) h4)
   rw [afH] at h3
   exact hK _ h3
theorem LB (h:Hp S w0 w ae) (i:Nat) {b:Nat} {m:af} (hm:m.Ok) (hi:ae[i]? =some (ay 177 b m)) {x g:Int} {K:Int->World->Prop}
  (hK: ∀w',Hp S w0 w' (ae.set i (ay 177 b (m.kZ x g).1))->K (m.kZ x g).2 w'):WX (some ⟨b,0,none⟩) x g w K:=by
 refine Py ?_
 unfold f73
 have yz:=hm.fe
 have hlen:=hm.len
 have Ug:=Ok.yB hm
 obtain⟨O,h1,back⟩:=h.f1 hi rfl
 refine h1.nw (c:= [_,_]) fun e w1 h1=>?_
 refine h1.cx (x:=x) 1 rfl rfl ?_
 refine h1.ld (x:=g) 1 rfl rfl ?_
 refine Ij h1 0 hm rfl fun w1 h1=>?_
 unfold af.kZ at hK
 cases vW:m.is x g with
 | false=>
  simp only [vW,agD,if_false] at hK
  refine aE rfl ?_
  have h3:=back (rest:= []) rfl rfl (h1.oV 0 rfl)
  rw [afH] at h3
  exact hK _ h3
 | true=>
  simp only [vW,if_true] at hK
  refine aF (by simp) ?_
  obtain⟨gK,hg⟩:=af.jG.1 vW
  obtain⟨x0,x1⟩:=ji hm gK
  refine h1.dr fun w1 h1=>?_
  obtain⟨sg,sa,sf,h1⟩:=nR h1 (i:=0) rfl
  have ee:=h1.len 4 rfl
  simp only [af3,aga,afN,afZ] at h1
  refine bg ?_
  refine h1.ld (x:=sa) 0 rfl rfl ?_
  refine h1.cx (x:=x) 1 rfl rfl ?_
  refine h1.mL 3 rfl x0 (by omega) lP (y:=false) rfl rfl fun w1 h1=>?_
  refine h1.ld (x:=g) 1 rfl rfl ?_
  by_cases VT:g < 1000000
  ·refine aE (by simpa using VT) ?_
   refine bg ?_
   refine h1.ld (x:=sf) 0 rfl rfl ?_
   have h1:=h1.nil 3 1 iv
   obtain⟨inf,q1,q2,q3,q4⟩:=lN
   refine h1.gY 5 4 (s:=⟨none,0,0⟩) rfl rfl Hp.bX aq dR q1 q3 q2 rfl (by simp [iv,Value.oneCell']) (by rw [q4];show (0+sf.len)*8<=_;omega) (by show 0+sf.len<=_;omega) fun r w1 h1 fv _=>?_
   have adx:r.len=sf.len:=by rw [fv];exact agH _
   refine h1.cx (x:=x) 1 rfl rfl ?_
   refine h1.bL (c:= [_]) 5 x rfl aq dR q1 q3 q2 rfl rfl (by simp [iv,Value.oneCell']) (by rw [q4];omega) (by omega) fun s w1 h1 _ _=>?_
   refine bg ?_
   refine h1.st 0 rfl (by simp) rfl fun w1 h1=>?_
   simp only [af3,aga,afN,afZ] at h1
   have h4:=h1.GC 0 2 3 5 (by decide) rfl rfl rfl rfl
   have em:(m.dj x g).free=m.free++ [x]:=by unfold af.dj;rw [if_pos VT]
   have h4:Hp O w w1 [ai b 177 [.int .i64 (m.dj x g).aA,.slice sg.a sg.len sg.cap,.slice sa.a sa.len sa.cap,.slice s.a s.len s.cap],aj sg 3 1 iv (m.dj x g).ah,aj sa 4 1 bv (m.dj x g).alive,aj s 3 1 iv (m.dj x g).free]:=by
    rw [em];exact h4
   have h3:=back (rest:= []) rfl rfl (fg (m:=m.dj x g) (rest:= []) h4)
   rw [afH] at h3
   exact hK _ h3
  ·refine aF (by simpa using VT) ?_
   have h4:=h1.GC 0 2 3 4 (by decide) rfl rfl rfl rfl
   have em:(m.dj x g).free=m.free:=by unfold af.dj;rw [if_neg VT]
   have h4:Hp O w w1 [ai b 177 [.int .i64 (m.dj x g).aA,.slice sg.a sg.len sg.cap,.slice sa.a sa.len sa.cap,.slice sf.a sf.len sf.cap],aj sg 3 1 iv (m.dj x g).ah,aj sa 4 1 bv (m.dj x g).alive,aj sf 3 1 iv (m.dj x g).free]:=by
    rw [em];exact h4
   have h3:=back (rest:= []) rfl rfl (fg (m:=m.dj x g) (rest:= []) h4)
   rw [afH] at h3
   exact hK _ h3
theorem Ik (h:Hp S w0 w ae) (i:Nat) {b:Nat} {m:af} (hm:m.Hl) (hi:(ae[i]?).map aa.holds=some (ay 177 b m).holds) {K:Sl->Sl->World->Prop}
  (hK: ∀g f w',Hp S w0 w' (ae++ [aj g 3 1 iv m.aM,aj f 3 1 iv m.free])->K g f w'):NS (some ⟨b,0,none⟩) w K:=by
 refine Kq ?_
 unfold f144
 have yz:=hm.fe
 have hlen:=hm.len
 have Ug:=Ok.yB hm.toOk
 obtain⟨sg,sa,sf,h1⟩:=qa h i hi
 have sB:=h1.len 1 rfl
 have ee:=h1.len 3 rfl
 have h1:=h1.nil 3 1 iv
 obtain⟨inf,q1,q2,q3,q4⟩:=lN
 refine⟨fun s t mm w'=> ∃k:Nat,t=k /\ k<=m.ah.length /\ mm=m.ah.length - k /\ Hp [] w w' [(ai b 177 [.int .i64 m.aA,.slice sg.a sg.len sg.cap,.slice sa.a sa.len sa.cap,.slice sf.a sf.len sf.cap]).ro,(aj sg 3 1 iv m.ah).ro,(aj sa 4 1 bv m.alive).ro,(aj sf 3 1 iv m.free).ro,aj s 3 1 iv (m.aM.take k)],⟨m.ah.length,0,rfl,by omega,rfl,h1⟩,?_⟩
 rintro s t mm w2 ⟨k,rfl,hk,rfl,h1⟩
 refine bg ?_
 refine h1.ld (x:=sg) 0 rfl rfl ?_
 by_cases ar:k < m.ah.length
 ·refine aE (by simp;omega) ?_
  refine bg ?_
  refine h1.ld (x:=sg) 0 rfl rfl ?_
  refine h1.e9 (k:=.i .i64) (x:=m.gen k) 1 rfl (by omega) (qu (by omega) (by omega)) aq rfl ?_
  refine DE (h.cB h1.fr) i (by omega) hi ?_
  refine bg ?_
  refine h1.ld (x:=sa) 0 rfl rfl ?_
  refine h1.e9 (k:=.b) (x:=m.bt k) 2 rfl (by omega) (rE hm.toOk (by omega) (by omega)) lP rfl ?_
  have eQ:=h1.len 4 rfl
  simp only [afM,uS] at eQ
  have cX: ∀x,m.aM[k]? =some x->m.aM.take (k+1)=m.aM.take k++ [x]:=fun x hx=>by rw [ag5,hx];rfl
  have RL:=Cd ar
  have iL:=hm.toOk.gen (i:=(k:Int)) (by omega) (by omega)
  by_cases hc:m.bt k=false /\ (k:Int) ∉ m.free
  ·refine aE (by rw [hc.1,decide_eq_false hc.2];rfl) ?_
   have hg:m.gen k=1000000:=by
    refine Classical.byContradiction fun aR=>hc.2 (hm.dead k (by omega) (by omega) hc.1 (by omega))
   rw [if_pos ⟨hg,hc.1⟩,hg] at RL
   refine h1.bL (c:= [_]) 4 1000001 rfl aq dR q1 q3 q2 rfl rfl (by simp [iv,Value.oneCell']) (by rw [q4];omega) (by omega) fun s2 w1 h1 _ _=>?_
   refine⟨m.ah.length - (k+1),by omega,k+1,by rw [aB (by omega) (by omega)];omega,by omega,rfl,?_⟩
   rw [cX _ RL]
   exact h1
  ·refine aF ?_ ?_
   ·cases gK:m.bt k with
    | true=>simp
    | false=>
     have:(k:Int)∈m.free:=Classical.byContradiction fun hn=>hc ⟨gK,hn⟩
     rw [decide_eq_true this];simp
   rw [if_neg] at RL
   ·refine h1.bL (c:= [_]) 4 (m.gen k) rfl aq dR q1 q3 q2 rfl rfl (by simp [iv,Value.oneCell']) (by rw [q4];omega) (by omega) fun s2 w1 h1 _ _=>?_
    refine⟨m.ah.length - (k+1),by omega,k+1,by rw [aB (by omega) (by omega)];omega,by omega,rfl,?_⟩
    rw [cX _ RL]
    exact h1
   ·rintro⟨g1,g2⟩
    refine hc ⟨g2,fun uR=>?_⟩
    have:=(hm.free _ uR).2.2.2
    omega
 ·refine aF (by simp;omega) ?_
  have bG:m.aM.take k=m.aM:=afE (by rw [uS];omega)
  rw [bG] at h1
  refine bg ?_
  refine h1.ld (x:=sf) 0 rfl rfl ?_
  have h1:=h1.nil 3 1 iv
  refine h1.gY 5 3 (s:=⟨none,0,0⟩) rfl rfl (⟨Hp.bX.rd⟩:Hp.Reads (aj sf 3 1 iv m.free).ro sf 1 iv m.free) aq dR q1 q3 q2 rfl (by simp [iv,Value.oneCell']) (by rw [q4];show (0+sf.len)*8<=_;omega) (by show 0+sf.len<=_;omega) fun s' w' h1 _ _=>?_
  exact hK s s' w' (h.r0 (rest:= [_,_]) rfl (h1.PS 4 5 (by omega) rfl rfl))
end
end Go.Proofs.YtcccjgmekakabaaGreat.FI
end

section
namespace Go.Proofs.YtcccjgmekakabaaGreat.FW
open F
open Go Go.Den Go.Proofs
open FI (af ay)
open FT (az di bM cc dz aP gm bD iv aq)
structure RH where
 K:Sl
 p:Nat
 L:Sl
abbrev RH.cells (q:RH):List Value:= [.slice q.K.a q.K.len q.K.cap,.pointer (some ⟨q.p,0,none⟩),.slice q.L.a q.L.len q.L.cap]
def WA.fits (a:WA):Prop:=a.Ok /\ ∀e p,a.row e=some p->p.fit a.ks
def iT (b:Nat) (a:WA):aa:=KK fun q:RH=>kz a.fits (aX (ai b 73 q.cells) (aX (aD q.K a.ks) (aX (ay 177 q.p a.au) (aZ q.L a.rows))))
theorem LC {k:Nat} {c:Int} (hc: ¬kW k c):(cond (!(cond (cond (decide (c>=97)) (decide (c<=122)) false) true (cond (decide (c>=65)) (decide (c<=90)) false))) (cond (((k:Nat):Int) ==0) true (!(cond (cond (decide (c>=48)) (decide (c<=57)) false) true (c ==95)))) false)=true:=by
 unfold kW at hc
 have h1: ¬(c>=97 /\ c<=122):=fun h=>hc (.inl (.inl h))
 have h2: ¬(c>=65 /\ c<=90):=fun h=>hc (.inl (.inr h))
 have e1:(cond (decide (c>=97)) (decide (c<=122)) false)=false:=by by_cases g:c>=97 <;> simp [g] <;> omega
 have e2:(cond (decide (c>=65)) (decide (c<=90)) false)=false:=by by_cases g:c>=65 <;> simp [g] <;> omega
 rw [e1,e2]
 by_cases Eh:k=0
 ·simp [Eh]
 ·have h3: ¬(c=95 \/ (48<=c /\ c<=57)):=fun h=>hc (.inr ⟨Eh,h⟩)
  have:(((k:Nat):Int) ==0)=false:=by simpa using Eh
  have h4:(c ==95)=false:=by simp;omega
  have e3:(cond (decide (c>=48)) (decide (c<=57)) false)=false:=by by_cases g:c>=48 <;> simp [g] <;> omega
  simp [this,h4,e3]
theorem Il {k:Nat} {c:Int} (hc:kW k c): ¬(cond (!(cond (cond (decide (c>=97)) (decide (c<=122)) false) true (cond (decide (c>=65)) (decide (c<=90)) false))) (cond (((k:Nat):Int) ==0) true (!(cond (cond (decide (c>=48)) (decide (c<=57)) false) true (c ==95)))) false)=true:=by
 unfold kW at hc
 by_cases h1:c>=97 /\ c<=122
 ·simp [h1.1,h1.2]
 ·by_cases h2:c>=65 /\ c<=90
  ·simp [h2.1,h2.2]
  ·obtain⟨Eh,hc⟩:k≠0 /\ (c=95 \/ (48<=c /\ c<=57)):=by omega
   have:(((k:Nat):Int) ==0)=false:=by simpa using Eh
   rcases hc with rfl | ⟨h3,h4⟩
   ·simp [this]
   ·simp [this,h3,h4]
theorem CB {s:ByteArray} {w:World} {K:Bool->World->Prop} (hs:s.size<=1000000000000) (hK:K (decide (ez (bV s))) w):NY s w K:=by
 refine KA ?_
 unfold f155
 have eQ:=mX s
 refine⟨fun t m w'=> ∃k:Nat,t=k /\ k<=s.size /\ m=s.size - k /\ (∀i,(hi:i < (bV s).length)->i < k->kW i (bV s)[i]) /\ w'=w,⟨s.size,0,rfl,by omega,rfl,fun i _ h=>by omega,rfl⟩,?_⟩
 rintro t m w2 ⟨k,rfl,hk,rfl,bF,rfl⟩
 by_cases ar:k < s.size
 ·refine aE (by simp;omega) ?_
  have cU:k < (bV s).length:=by omega
  have hb:s[((k:Nat):Int).toNat]? =some (s[k]'ar):=by rw [afu];exact getElem?_pos s k ar
  have kO:(((s[k]'ar).toNat:Nat):Int)=(bV s)[k]:=by simp [bV];rfl
  refine⟨by omega,s[k]'ar,hb,?_⟩
  rw [kO]
  ·by_cases hc:kW k (bV s)[k]
   ·refine aF (Il hc) ⟨s.size - (k+1),by omega,k+1,by rw [aB (by omega) (by omega)];omega,by omega,rfl,fun i hi Fa=>?_,rfl⟩
    by_cases BZ:i < k
    ·exact bF i hi BZ
    ·obtain rfl:i=k:=by omega
     exact hc
   ·refine aE (LC hc) ?_
    have da: ¬ez (bV s):=fun hw=>hc (hw.1 k cU)
    rwa [decide_eq_false da] at hK
 ·refine aF (by simp;omega) ?_
  have e:(cond (decide ((s.size:Int)>=1)) (decide ((s.size:Int)<=16)) false)=decide (ez (bV s)):=by
   by_cases he:1<=s.size
   ·by_cases Yk:s.size<=16
    ·have:ez (bV s):=⟨fun i hi=>bF i hi (by omega),fun e=>by rw [e] at eQ;simp at eQ;omega,by omega⟩
     simp [this];omega
    ·have: ¬ez (bV s):=fun hw=>Yk (by have:=hw.2.2;omega)
     simp [this];omega
   ·have: ¬ez (bV s):=fun hw=>hw.2.1 (af7 (by omega))
    simp [this];omega
  rw [e];exact hK
section
variable {S:List Nat} {w0 w:World} {ae:List aa}
theorem sH (h:Hp S w0 w ae) (j:Nat) {u:aa} {s:Sl} {L:List ByteArray} (hj:(ae[j]?).map aa.holds=some u.holds) (hu:Hp.Reads u s 1 sv L) (hl:L.length<=1000000000) (dw: ∀x∈L,x.size<=1000000000000) {K:Bool->World->Prop}
  (hK: ∀w',Hp S w0 w' ae->K (decide (bo L)) w'):Jz s w K:=by
 refine J8 ?_
 unfold f123
 have eQ:=h.df j hj hu
 refine⟨fun t m w'=> ∃k:Nat,t=k /\ k<=L.length /\ m=L.length - k /\ (∀i,(hi:i < L.length)->i < k->ez (bV L[i]) /\ L[i] ∉ L.take i) /\ Hp S w0 w' ae,⟨L.length,0,rfl,by omega,rfl,fun i _ h=>by omega,h⟩,?_⟩
 clear h
 rintro t m w2 ⟨k,rfl,hk,rfl,bF,h⟩
 by_cases ar:k < L.length
 ·refine aE (by simp;omega) ?_
  refine h.dd (k:=.s) (u:=u) (y:=L[k]) (x:=L[k]) j hj hu (by omega) (by simp [ar]) cR rfl ?_
  refine CB (dw _ (afR ar)) ?_
  by_cases hw:ez (bV L[k])
  ·refine aF (by simpa using hw) ?_
   refine⟨fun t m w'=> ∃q:Nat,t=q /\ q<=k /\ m=k - q /\ L[k] ∉ L.take q /\ Hp S w0 w' ae,⟨k,0,rfl,by omega,rfl,by simp,h⟩,?_⟩
   clear h
   rintro t m w3 ⟨q,rfl,hq,rfl,hnq,h⟩
   by_cases Rr:q < k
   ·refine aE (by simp;omega) ?_
    refine h.dr fun w4 h=>?_
    have QM:q < L.length:=by omega
    refine h.dd (k:=.s) (u:=u) (y:=L[q]) (x:=L[q]) j hj hu (by omega) (by simp [QM]) cR rfl ?_
    refine h.dd (k:=.s) (u:=u) (y:=L[k]) (x:=L[k]) j hj hu (by omega) (by simp [ar]) cR rfl ?_
    by_cases he:L[q]=L[k]
    ·refine aE (by rw [he];exact rC _) ?_
     have:=hK _ h
     have da: ¬bo L:=fun hw=>(hw k ar).2 (by rw [<-he];exact List.mem_take_iff_getElem.2 ⟨q,by omega,rfl⟩)
     rwa [decide_eq_false da] at this
    ·refine aF (by rw [Dd];simpa using he) ⟨k - (q+1),by omega,q+1,by rw [aB (by omega) (by omega)];omega,by omega,rfl,fun hm=>?_,h⟩
     rw [afG QM] at hm
     rcases afB.1 hm with hm | hm
     ·exact hnq hm
     ·simp only [afF] at hm
      exact he hm.symm
   ·refine aF (by simp;omega) ⟨L.length - (k+1),by omega,k+1,by rw [aB (by omega) (by omega)];omega,by omega,rfl,fun i hi Fa=>?_,h⟩
    by_cases BZ:i < k
    ·exact bF i hi BZ
    ·obtain rfl:i=k:=by omega
     obtain rfl:q=i:=by omega
     exact⟨hw,hnq⟩
  ·refine aE (by simpa using hw) ?_
   have:=hK _ h
   have da: ¬bo L:=fun h=>hw (h k ar).1
   rwa [decide_eq_false da] at this
 ·refine aF (by simp;omega) ?_
  have:=hK _ h
  have mY:bo L:=fun i hi=>bF i hi (by omega)
  rwa [decide_eq_true mY] at this
set_option maxHeartbeats 2000000 in
theorem EN {s:Sl} {l:KD} (hr:y5 w s l) (hl:l.length<=10000000) (dw: ∀x∈l,x.2.length<=10000000 /\ x.1.size<=1000000000000 /\ ∀y∈x.2,y.size<=1000000000000) {K:Bool->World->Prop}
  (hK: ∀w',Fr [] w w'->K (decide (cC l)) w'):WU s w K:=by
 refine Pt ?_
 unfold f68
 obtain⟨wk,i1,i2,i3,i4⟩:=wk
 obtain⟨ys,O,rfl,hO⟩:=hr
 have h:Hp [] w w [(fZ s ys).ro]:=(Hp.init w).ey hO (by simp)
 have eQ:=h.df (u:=fZ s ys) (s:=s) (l:=ys) (f:=du) (n:=2) 0 rfl nr
 have cU:(kinds ys).length=ys.length:=by simp [kinds]
 have pW:=vl h (s:=s) (xs:=ys) 0 rfl
 rw [cU] at hl
 have h:=h.nil 9 1 sv
 refine⟨fun names t mm w'=> ∃k:Nat,t=k /\ k<=ys.length /\ mm=ys.length - k /\ (∀q,(hq:q < ys.length)->q < k->(ys[q]).2.2.length<=4 /\ bo (ys[q]).2.2) /\ Hp [] w w' [(fZ s ys).ro,aj names 9 1 sv ((ys.take k).map (·.1))],⟨ys.length,0,rfl,by omega,rfl,fun q _ h=>by omega,h⟩,?_⟩
 clear h
 rintro names t mm w2 ⟨k,rfl,hk,rfl,bF,h⟩
 by_cases ar:k < ys.length
 ·refine aE (by simp;omega) ?_
  have hx:ys[k]? =some ys[k]:=by simp [ar]
  have cP:ys[k]∈ys:=afR ar
  have KZ:=dw (ys[k].1,ys[k].2.2) (afQ.2 ⟨_,cP,rfl⟩)
  have cX:ys.take (k+1)=ys.take k++ [ys[k]]:=afG ar
  have sx: ∀q,(hq:q < ys.length)->q=k->((ys[k]).2.2.length<=4 /\ bo (ys[k]).2.2)->(ys[q]).2.2.length<=4 /\ bo (ys[q]).2.2:=fun q hq e h=>by subst e;exact h
  have dF:=pW _ cP
  generalize ys[k]=x at hx KZ cX cP sx dF
  have ady:x.2.2.length<=10000000:=KZ.1
  have no: ¬(x.2.2.length<=4 /\ bo x.2.2)-> ¬cC (kinds ys):=fun da hm=>da (hm.1 (x.1,x.2.2) (afQ.2 ⟨x,cP,rfl⟩))
  have H9: ∀{w':World} {l:List aa},Hp [] w w' ((fZ s ys).ro :: l)-> ∃o,cf w' s 2 du ys o:=fun{w' l} h=>by
   obtain⟨O,_,⟨o,g,_⟩,_⟩:=h.n9 (i:=0) rfl
   exact⟨o,g⟩
  obtain⟨o,hR⟩:=H9 h
  refine cf.ix aU hR (by omega) (x:=x) (by rw [afu];exact hx) fun ad hc=>?_
  refine j8 (k:=.sl) (x:=x.2.1) (hc 1 (by omega)) rfl ?_
  refine sH h 0 (u:=fZ s ys) rfl (xI hx) (by omega) KZ.2.2 fun w3 h=>?_
  refine⟨fun w'=>(x.2.2.length<=4 /\ bo x.2.2) /\ Hp [] w w' [(fZ s ys).ro,aj names 9 1 sv ((ys.take k).map (·.1))],?_,?_⟩
  ·by_cases hw:bo x.2.2
   ·refine aF (by simpa using hw) ?_
    obtain⟨o,hR⟩:=H9 h
    refine cf.ix aU hR (by omega) (x:=x) (by rw [afu];exact hx) fun ad hc=>?_
    refine j8 (k:=.sl) (x:=x.2.1) (hc 1 (by omega)) rfl ?_
    by_cases h4:x.2.1.len > 4
    ·refine aE (by simp;omega) ?_
     have:=hK _ h.1
     rwa [decide_eq_false (no fun hh=>by omega)] at this
    ·exact aF (by simp;omega) ⟨⟨by omega,hw⟩,h⟩
   ·refine aE (by simpa using hw) ?_
    have:=hK _ h.1
    rwa [decide_eq_false (no fun hh=>hw hh.2)] at this
  clear h hR
  rintro w6 ⟨fY,h⟩
  obtain⟨o,hR⟩:=H9 h
  refine cf.ix aU hR (by omega) (x:=x) (by rw [afu];exact hx) fun ad hc=>?_
  refine ep (k:=.s) (x:=x.1) (hc 0 (by omega)) rfl ?_
  have kF:=h.len (s:=names) (e:=9) (n:=1) (f:=sv) (l:=(ys.take k).map (·.1)) 1 rfl
  rw [afP,afM] at kF
  refine h.bL (c:= [_]) 1 x.1 rfl cR p6 i1 i3 i2 rfl rfl (by simp [sv,Value.oneCell']) (by rw [i4];omega) (by omega) fun mO w7 h _ _=>?_
  refine⟨ys.length - (k+1),by omega,k+1,by rw [aB (by omega) (by omega)];omega,by omega,rfl,fun q hq Rr=>?_,?_⟩
  ·by_cases KN:q < k
   ·exact bF q hq KN
   ·exact sx q hq (by omega) fY
  ·rw [cX,agh]
   exact h
 ·refine aF (by simp;omega) ?_
  rw [afE (by omega)] at h
  have vY:(kinds ys).map (·.1)=ys.map (·.1):=by simp [kinds]
  refine sH h 1 (u:=aj names 9 1 sv (ys.map (·.1))) rfl Hp.bX (by simp;omega) (fun y hy=>by
   obtain⟨x,hx,rfl⟩:=afQ.1 hy
   exact(dw (x.1,x.2.2) (afQ.2 ⟨x,hx,rfl⟩)).2.1) fun w3 h=>?_
  have:=hK _ h.1
  have e:(cond (cond (decide (bo (ys.map (·.1)))) (decide ((s.len:Int)>=1)) false) (decide ((s.len:Int)<=12)) false)=decide (cC (kinds ys)):=by
   by_cases hm:cC (kinds ys)
   ·have h1:=hm.2.1
    have h2:=hm.2.2.1
    have h3:=hm.2.2.2
    rw [vY] at h3
    rw [decide_eq_true hm,decide_eq_true h3]
    simp;omega
   ·rw [decide_eq_false hm]
    by_cases hw:bo (ys.map (·.1))
    ·have: ¬(1<=ys.length /\ ys.length<=12):=fun hh=>hm ⟨fun y hy=>by
      obtain⟨x,hx,rfl⟩:=afQ.1 hy
      obtain⟨q,hq,rfl⟩:=agQ.1 hx
      exact bF q hq (by omega),by omega,by omega,by rw [vY];exact hw⟩
     rw [decide_eq_true hw]
     by_cases h1:1<=ys.length
     ·have: ¬ys.length<=12:=fun h=>this ⟨h1,h⟩
      simp;omega
     ·simp;omega
    ·rw [decide_eq_false hw];rfl
  rw [e];exact this
end
end Go.Proofs.YtcccjgmekakabaaGreat.FW
end

section
namespace Go.Proofs.YtcccjgmekakabaaGreat.FW
open F
open Go Go.Den Go.Proofs
open FI (af ay)
open FT (az di bM cc dz aP gm bD iv aq)
def iN (s:Sl) (xs:List PV):aa:=
  { holds:=fun w O=>(∀k∈O,k < w.heap.size) /\ (∃o,cf w s 2 cY xs o /\ ∀k∈o,k∈O) /\ ∀x∈xs,∃o,cf w x.2.1 1 iv x.2.2 o /\ ∀k∈o,k∈O
    fr:=fun{S w w' O} h hf hn=>⟨fun k hk=>by have:=h.1 k hk;have:=hf.size;omega,by
      obtain⟨_,⟨o,h1,h2⟩,h3⟩:=h
      refine⟨⟨o,h1.fr hf (fun k hk=>hn k (h2 k hk)),h2⟩,fun x hx=>?_⟩
      obtain⟨o,h4,h5⟩:=h3 x hx
      exact⟨o,h4.fr hf (fun k hk=>hn k (h5 k hk)),h5⟩⟩
    lt:=fun h=>h.1}
theorem bT {u:aa} {s:Sl} {xs:List PV} (hu:u.holds=(iN s xs).holds):Hp.Reads u s 2 cY xs:=⟨fun{w O} h=>by
 rw [hu] at h
 obtain⟨_,⟨o,h1,_⟩,_⟩:=h
 exact⟨o,h1⟩⟩
theorem lj {u:aa} {s:Sl} {xs:List PV} (hu:u.holds=(iN s xs).holds) {x:PV} (hx:x∈xs):Hp.Reads u x.2.1 1 iv x.2.2:=⟨fun{w O} h=>by
 rw [hu] at h
 obtain⟨_,_,h2⟩:=h
 obtain⟨o,h3,_⟩:=h2 x hx
 exact⟨o,h3⟩⟩
theorem vK.DF {w:World} {s:Sl} {l:List Part} (h:vK w s l): ∃(xs:List PV) (O:List Nat),xs.map bN=l /\ (iN s xs).holds w O:=by
 obtain⟨xs,h1,⟨o,h2⟩,h3⟩:=h
 refine⟨xs,List.range w.heap.size,h1,fun k hk=>agC.1 hk,⟨o,h2,fun k hk=>agC.2 (h2.lt k hk)⟩,fun x hx=>?_⟩
 obtain⟨o,h4⟩:=h3 x hx
 exact⟨o,h4,fun k hk=>agC.2 (h4.lt k hk)⟩
theorem vK.len {w:World} {s:Sl} {l:List Part} (h:vK w s l):l.length=s.len:=by
 obtain⟨xs,h1,⟨o,h2⟩,_⟩:=h
 rw [<-h1,afP];exact h2.1
section
variable {S:List Nat} {w0 w:World} {ae:List aa}
theorem vp (h:Hp S w0 w ae) {s:Sl} {l:List Int} (hr: ∃o,cf w s 1 iv l o) (hl:l.length<=1000000000) {K:Sl->World->Prop} (hK: ∀r w',Hp S w0 w' (ae++ [aj r 2 1 iv l])->K r w'):Vk s w K:=by
 refine PE ?_
 unfold f79
 obtain⟨inf,q1,q2,q3,q4⟩:=FT.jC
 obtain⟨o,hR⟩:=hr
 have eQ:=hR.1
 have h1:Hp [] w w [(kG s 1 iv l).ro]:=(Hp.init w).ey hR (by simp)
 have h1:=h1.nil 2 1 iv
 refine h1.gY 1 0 (s:=⟨none,0,0⟩) (s2:=s) (u:=(kG s 1 iv l).ro) rfl rfl ⟨fun{w O} h=>⟨O,h⟩⟩ aq FT.eO q1 q3 q2 rfl (by simp [iv,Value.oneCell']) (by rw [q4];show (0+s.len)*8<=_;omega) (by show 0+s.len<=_;omega) fun r w2 h1 _ _=>?_
 exact hK r w2 (h.r0 (rest:= [aj r 2 1 iv l]) rfl (h1.gC [1] (by decide) rfl))
theorem sI (h:Hp S w0 w ae) (j:Nat) {u:aa} {s:Sl} {l:List Int} (hj:ae[j]? =some u) (hu:Hp.Reads u s 1 iv l) (hl:l.length<=1000000000) {K:Sl->World->Prop} (hK: ∀r w',Hp S w0 w' (ae++ [aj r 2 1 iv l])->K r w'):JD s w K:=by
 refine Ks ?_
 unfold f146
 obtain⟨inf,q1,q2,q3,q4⟩:=FT.jC
 have QD:=(aft.1 hj).1
 have eQ:=h.df j (by rw [hj];rfl) hu
 have h:=h.nil 2 1 iv
 refine⟨fun out t8 mm w'=> ∃k:Nat,t8=k /\ k<=l.length /\ mm=l.length - k /\ Hp S w0 w' (ae++ [aj out 2 1 iv (l.take k)]),⟨l.length,0,rfl,by omega,rfl,h⟩,?_⟩
 clear h
 rintro out t8 mm w2 ⟨k,rfl,hk,rfl,h⟩
 have kA:=h.len (s:=out) ae.length (by rw [afU];rfl)
 rw [afM] at kA
 by_cases ar:k < l.length
 ·refine aE (by simp;omega) ?_
  refine h.dd (k:=.i .i64) (u:=u) (y:=l[k]) (x:=l[k]) j (by rw [afx QD,hj];rfl) hu (by omega) (by simp [ar]) aq rfl ?_
  refine h.bL ae.length (l[k]) (c:= [_]) afU aq FT.eO q1 q3 q2 rfl rfl (by simp [iv,Value.oneCell']) (by rw [q4];omega) (by omega) fun bH w3 h _ _=>?_
  rw [ch,<-afG ar] at h
  exact⟨l.length - (k+1),by omega,k+1,by rw [aB (by omega) (by omega)];omega,by omega,rfl,h⟩
 ·refine aF (by simp;omega) ?_
  rw [afE (by omega)] at h
  exact hK out w2 h
set_option maxHeartbeats 2000000 in
theorem rF (h:Hp S w0 w ae) {s:Sl} {l:List Part} (hr:vK w s l) (hl:l.length<=1000000000) (hv: ∀x∈l,x.2.length<=1000000000) {K:Sl->World->Prop} (hK: ∀r w',Hp S w0 w' (ae++ [bn r l])->K r w'):WN s w K:=by
 refine Ox ?_
 unfold f27
 obtain⟨inf,i1,i2,i3,i4⟩:=xC
 obtain⟨xs,O,rfl,hO⟩:=hr.DF
 have h1:Hp [] w w [(iN s xs).ro]:=(Hp.init w).ey hO (by simp)
 have eQ:=h1.df (u:=iN s xs) (s:=s) (l:=xs) (f:=cY) (n:=2) 0 rfl (bT rfl)
 have h1:=h1.gE 36 2 cY tV bN
 rw [afP] at hl
 refine⟨fun out t mm w'=> ∃k:Nat,t=k /\ k<=xs.length /\ mm=xs.length - k /\ Hp [] w w' [(iN s xs).ro,bn out ((xs.take k).map bN)],⟨xs.length,0,rfl,by omega,rfl,h1⟩,?_⟩
 clear h1
 rintro out t mm w2 ⟨k,rfl,hk,rfl,h1⟩
 have kA:=(h1.gF (s:=out) (l:=(xs.take k).map bN) 1 rfl).1
 rw [afP,afM] at kA
 by_cases ar:k < xs.length
 ·refine aE (by simp;omega) ?_
  refine h1.dr fun w3 h1=>?_
  have hx:xs[k]? =some xs[k]:=by simp [ar]
  have cX:xs.take (k+1)=xs.take k++ [xs[k]]:=afG ar
  have jU:xs[k]∈xs:=afR ar
  generalize xs[k]=x at hx cX jU
  have I3:x.2.2.length<=1000000000:=hv (bN x) (ahf jU)
  have hu:(iN s xs).ro.holds=(iN s xs).holds:=rfl
  refine h1.vH (s:=s) (l:=xs) (f:=cY) (n:=2) 0 rfl (bT hu) (by omega) (by rw [afu];exact ar) fun ad ye=>?_
  rw [afu]
  refine h1.pX (k:=.i .i64) (v:=x.1) 0 rfl (bT hu) ye aW hx rfl ?_
  refine h1.vH (s:=s) (l:=xs) (f:=cY) (n:=2) 0 rfl (bT hu) (by omega) (by rw [afu];exact ar) fun Fo QW=>?_
  rw [afu]
  refine h1.A6 (m:=1) (k:=.sl) (v:=x.2.1) 0 rfl (bT hu) QW aW hx rfl ?_
  have Zn: ∃o,cf w3 x.2.1 1 iv x.2.2 o:=by
   obtain⟨O',mv⟩:=h1.n9 (i:=0) rfl
   exact(lj (u:=(iN s xs).ro) hu jU).rd mv
  refine vp h1 Zn I3 fun r w4 h1=>?_
  refine⟨h1.C6 0 rfl (bT hu) ye aW hx rfl,?_⟩
  have h1:Hp [] w w4 [(iN s xs).ro,bn out ((xs.take k).map bN),tV (x.1,r,x.2.2)]:=h1
  refine h1.jL 1 2 (by decide) (x.1,r,x.2.2) (c:= [_,_]) rfl rfl rfl aW qj i1 i3 i2 rfl rfl (by simp [cY,Value.oneCell']) (by rw [i4];omega) (by omega) fun bH w5 h1 Mf=>?_
  have h1:Hp [] w w5 ([(iN s xs).ro,bn bH ((xs.take k).map bN++ [bN (x.1,r,x.2.2)])]++ [ao]):=h1
  have h1:=h1.front
  refine⟨xs.length - (k+1),by omega,k+1,by rw [aB (by omega) (by omega)];omega,by omega,rfl,?_⟩
  rw [cX,agh]
  exact h1
 ·refine aF (by simp;omega) ?_
  rw [afE (by omega)] at h1
  exact hK out w2 (h.r0 (rest:= [bn out (xs.map bN)]) rfl (h1.gC [1] (by decide) rfl))
set_option maxHeartbeats 2000000 in
theorem yO (h:Hp S w0 w ae) {s:Sl} {l:KD} (hr:y5 w s l) (hl:l.length<=1000000000) (hv: ∀x∈l,x.2.length<=1000000000) {K:Sl->World->Prop} (hK: ∀r w',Hp S w0 w' (ae++ [aD r l])->K r w'):W1 s w K:=by
 refine PD ?_
 unfold f78
 obtain⟨wk,j1,j2,j3,j4⟩:=wk
 obtain⟨inf,i1,i2,i3,i4⟩:=xg
 obtain⟨xs,O,rfl,hO⟩:=hr
 have h1:Hp [] w w [(fZ s xs).ro]:=(Hp.init w).ey hO (by simp)
 have hu:(fZ s xs).ro.holds=(fZ s xs).holds:=rfl
 have eQ:=h1.df (u:=fZ s xs) (s:=s) (l:=xs) (f:=du) (n:=2) 0 rfl nr
 have pW:=vl h1 (s:=s) (xs:=xs) 0 rfl
 have cU:(kinds xs).length=xs.length:=by simp [kinds]
 rw [cU] at hl
 have h1:=h1.gE 107 2 du tF lg
 refine⟨fun out t mm w'=> ∃k:Nat,t=k /\ k<=xs.length /\ mm=xs.length - k /\ Hp [] w w' [(fZ s xs).ro,aD out ((xs.take k).map lg)],⟨xs.length,0,rfl,by omega,rfl,h1⟩,?_⟩
 clear h1
 rintro out t mm w2 ⟨k,rfl,hk,rfl,h1⟩
 have kA:=(h1.gF (s:=out) (l:=(xs.take k).map lg) 1 rfl).1
 rw [afP,afM] at kA
 by_cases ar:k < xs.length
 ·refine aE (by simp;omega) ?_
  have hx:xs[k]? =some xs[k]:=by simp [ar]
  have cX:xs.take (k+1)=xs.take k++ [xs[k]]:=afG ar
  have jU:xs[k]∈xs:=afR ar
  generalize xs[k]=x at hx cX jU
  have I3:x.2.2.length<=1000000000:=hv (x.1,x.2.2) (afQ.2 ⟨x,jU,rfl⟩)
  have EL:=(pW x jU).2
  have H9: ∀{w':World} {l:List aa},Hp [] w w' ((fZ s xs).ro :: l)-> ∃o,cf w' s 2 du xs o:=fun{w' l} h=>by
   obtain⟨O,_,⟨o,g,_⟩,_⟩:=h.n9 (i:=0) rfl
   exact⟨o,g⟩
  obtain⟨o,hR⟩:=H9 h1
  refine cf.ix aU hR (by omega) (x:=x) (by rw [afu];exact hx) fun ad hc=>?_
  refine ep (k:=.s) (x:=x.1) (hc 0 (by omega)) rfl ?_
  refine h1.nw (c:= [_,_]) fun kb w3 h1=>?_
  refine h1.iR 2 rfl (by simp) rfl fun w4 h1=>?_
  refine h1.st (n:=1) 2 rfl (by simp) rfl fun w5 h1=>?_
  refine h1.dr fun w6 h1=>?_
  have h1:Hp [] w w6 [(fZ s xs).ro,aD out ((xs.take k).map lg),ai kb 107 [.string x.1,.slice none 0 0]]:=h1
  refine h1.ld (n:=1) (k:=.sl) (x:=⟨none,0,0⟩) 2 rfl rfl ?_
  obtain⟨o,hR⟩:=H9 h1
  refine cf.ix aU hR (by omega) (x:=x) (by rw [afu];exact hx) fun ad hc=>?_
  refine j8 (k:=.sl) (x:=x.2.1) (hc 1 (by omega)) rfl ?_
  have h1:=h1.nil 9 1 sv
  have h1:Hp [] w w6 [(fZ s xs).ro,aD out ((xs.take k).map lg),ai kb 107 [.string x.1,.slice none 0 0],aj ⟨none,0,0⟩ 9 1 sv []]:=h1
  refine h1.gY 3 0 (s:=⟨none,0,0⟩) (s2:=x.2.1) (u:=(fZ s xs).ro) rfl rfl (l0 hu hx) cR p6 j1 j3 j2 rfl (by simp [sv,Value.oneCell']) (by rw [j4];show (0+x.2.1.len)*16<=_;omega) (by show 0+x.2.1.len<=_;omega) fun f w7 h1 ee _=>?_
  refine h1.st (n:=1) 2 rfl (by simp) rfl fun w8 h1=>?_
  have h1:Hp [] w w8 [(fZ s xs).ro,aD out ((xs.take k).map lg),ai kb 107 [.string x.1,.slice f.a f.len f.cap],tF (x.1,f,x.2.2)]:=h1
  refine h1.cx (k:=.s) (x:=x.1) 2 rfl rfl ?_
  refine h1.ld (n:=1) (k:=.sl) (x:=f) 2 rfl rfl ?_
  refine h1.jL 1 3 (by decide) (x.1,f,x.2.2) (c:= [_,_]) rfl rfl rfl aU dR i1 i3 i2 rfl rfl (by simp [du,Value.oneCell']) (by rw [i4];omega) (by omega) fun bH w9 h1 Mf=>?_
  have h1:Hp [] w w9 ([(fZ s xs).ro,aD bH ((xs.take k).map lg++ [lg (x.1,f,x.2.2)])]++ [ai kb 107 [.string x.1,.slice f.a f.len f.cap],ao]):=h1
  have h1:=h1.front
  refine⟨xs.length - (k+1),by omega,k+1,by rw [aB (by omega) (by omega)];omega,by omega,rfl,?_⟩
  rw [cX,agh]
  exact h1
 ·refine aF (by simp;omega) ?_
  rw [afE (by omega)] at h1
  exact hK out w2 (h.r0 (rest:= [aD out (kinds xs)]) rfl (h1.gC [1] (by decide) rfl))
theorem tz {b:Nat} {a:WA} {rest:List aa} (h:Hp S w0 w (iT b a :: rest)):
  ∃q:RH,a.fits /\ Hp S w0 w (ai b 73 q.cells :: aD q.K a.ks :: ay 177 q.p a.au :: aZ q.L a.rows :: rest):=by
 obtain⟨q,h⟩:=h.oX (i:=0) rfl (fun _=>rfl)
 obtain⟨hf,h⟩:=h.nO (i:=0) rfl rfl
 refine⟨q,hf,?_⟩
 have h:=h.split (i:=0) rfl rfl rfl
 have h:Hp S w0 w ([ai b 73 q.cells]++rest++ [aX (aD q.K a.ks) (aX (ay 177 q.p a.au) (aZ q.L a.rows))]):=h
 have h:=h.up
 have h:=h.split (i:=1) rfl rfl rfl
 have h:Hp S w0 w ([ai b 73 q.cells,aD q.K a.ks]++rest++ [aX (ay 177 q.p a.au) (aZ q.L a.rows)]):=h
 have h:=h.up
 have h:=h.split (i:=2) rfl rfl rfl
 have h:Hp S w0 w ([ai b 73 q.cells,aD q.K a.ks,ay 177 q.p a.au]++rest++ [aZ q.L a.rows]):=h
 exact h.up
theorem qv {b:Nat} {a:WA} (q:RH) {rest:List aa} (hf:a.fits) (h:Hp S w0 w (ai b 73 q.cells :: aD q.K a.ks :: ay 177 q.p a.au :: aZ q.L a.rows :: rest)):Hp S w0 w (iT b a :: rest):=by
 have h:=h.aL (i:=2) (j:=3) (by omega) rfl rfl rfl rfl
 have h:=h.aL (i:=1) (j:=2) (by omega) rfl rfl rfl rfl
 have h:=h.aL (i:=0) (j:=1) (by omega) rfl rfl rfl rfl
 have h:=h.jA (i:=0) hf rfl rfl
 have h:=h.mg (f:=fun q:RH=>kz a.fits (aX (ai b 73 q.cells) (aX (aD q.K a.ks) (aX (ay 177 q.p a.au) (aZ q.L a.rows))))) (i:=0) q rfl rfl
 have h:Hp S w0 w (iT b a :: ao :: ao :: ao :: rest):=h
 exact h.fc.fc.fc
end
end Go.Proofs.YtcccjgmekakabaaGreat.FW
end

section
namespace Go.Proofs.YtcccjgmekakabaaGreat.FW
open F
open Go Go.Den Go.Proofs
open FI (af ay)
open FT (az di bM cc dz aP gm bD iv aq)
open FP (dX)
theorem pe (p:PL): ∀k,∀y∈aY p k,∃i:Nat,y.1=((i+1:Nat):Int) /\ i < k /\ p[i]? =some (some y.2)
 | 0,y,hy=>by simp [aY] at hy
 | k+1,y,hy=>by
  rw [aY] at hy
  rcases afB.1 hy with hy | hy
  ·obtain⟨i,h1,h2,h3⟩:=pe p k y hy
   exact⟨i,h1,by omega,h3⟩
  ·split at hy
   ·rename_i v hv
    simp only [afF] at hy
    subst hy
    exact⟨k,rfl,by omega,getD_some hv⟩
   ·cases hy
theorem lk {a:WA} {p:PL} (hl:a.ks.length<=12) (h4: ∀x∈a.ks,x.2.length<=4) (hf:p.fit a.ks) (hr:dX (flat p)):(partsOf p).length<=12 /\ ∀y∈partsOf p,y.2.length<=4 /\ dX y.2 /\ 1<=y.1 /\ y.1<=12:=by
 have yG:=hf.1
 refine⟨by have:=g9 p p.length;unfold partsOf;omega,fun y hy=>?_⟩
 obtain⟨i,h1,h2,h3⟩:=pe p _ y hy
 have hk:a.ks[i]? =some (a.ks[i]'(by omega)):=afD _
 refine⟨?_,fun z hz=>hr z (ag0.2 ⟨some y.2,afz h3,hz⟩),by omega,by omega⟩
 have:=hf.2 i y.2 _ h3 hk
 have:=h4 _ (afz hk)
 omega
def cG (l:List Part):Int:=(l.map fun x=>(2:Int) ^ x.1.toNat).sum
theorem vq (l m:List Part):cG (l++m)=cG l+cG m:=by simp [cG]
theorem Im (p:PL) (o:Option (List Int)):jb (p++ [o])=jb p+if o.isSome=true then 2 ^ p.length else 0:=by
 induction p with
 | nil=>cases o <;> simp [jb]
 | cons x p ih=>
  rw [af3]
  simp only [jb,ih,af6,Nat.pow_succ]
  cases o <;> simp <;> omega
theorem oE (p:PL): ∀k,k<=p.length->cG (aY p k)=(jb (none :: p.take k):Nat)
 | 0,_=>by simp [aY,cG,jb]
 | k+1,hk=>by
  have ih:=oE p k (by omega)
  have hp:p[k]? =some p[k]:=by simp [show k < p.length by omega]
  have hg:p.getD k none=p[k]:=by rw [afO,hp];rfl
  rw [aY,vq,ih,afG (by omega),<-af3,Im,hg]
  cases p[k] with
  | none=>simp [cG]
  | some v=>
   have hl:(p.take k).length=k:=by rw [afM];omega
   simp [cG,hl]
theorem mb (p:PL):cG (partsOf p)=aG p:=by
 unfold partsOf aG
 rw [oE p p.length (afV _),agJ]
theorem EO {l:List Part} (h: ∀y∈l,1<=y.1 /\ y.1<=12):0<=cG l /\ cG l<=4096*l.length:=by
 induction l with
 | nil=>simp [cG]
 | cons x l ih=>
  have:=ih (fun y hy=>h y (by simp [hy]))
  have hx:=h x (by simp)
  have e:cG (x :: l)=2 ^ x.1.toNat+cG l:=by simp [cG]
  have h1:(2:Nat) ^ x.1.toNat<=2 ^ 12:=ag1 (by omega) (by omega)
  have h2:((2:Int) ^ x.1.toNat)=((2 ^ x.1.toNat:Nat):Int):=by simp
  rw [e,h2,af6]
  generalize 2 ^ x.1.toNat=q at h1
  omega
theorem kf {a:WA} (bK:a.Ok):a.all.length<=200:=by
 have h1:=af.gB a.au a.au.ah.length
 have h2:=bK.u6.fe
 show (a.au.eA a.au.ah.length).length<=200
 omega
theorem n6 {a:WA} (hf:a.fits) {r:gL} (hr:r∈a.rows): ∃p,r.1∈a.all /\ a.row r.1=some p /\ r.2=partsOf p /\ p.fit a.ks /\ dX (flat p):=by
 obtain⟨e,he,rfl⟩:=afQ.1 hr
 obtain⟨p,hp⟩:=hH hf.1 he
 refine⟨p,he,hp,?_,hf.2 _ p hp,hf.1.RB _ p hp⟩
 unfold WA.k9
 rw [hp];rfl
section
variable {S:List Nat} {w0 w:World} {ae:List aa}
theorem vr {s:Sl} {l:List Part} (hr:vK w s l) (hl:l.length<=12) (hk: ∀y∈l,1<=y.1 /\ y.1<=12) {K:Int->World->Prop} (hK:K (cG l) w):Ju s w K:=by
 refine JS ?_
 unfold f104
 have eQ:=hr.len
 obtain⟨xs,rfl,⟨o,hR⟩,_⟩:=hr
 rw [afP] at hl eQ
 refine⟨fun n t mm w'=> ∃k:Nat,n=cG ((xs.map bN).take k) /\ t=k /\ k<=xs.length /\ mm=xs.length - k /\ w'=w,⟨xs.length,0,by simp [cG],rfl,by omega,rfl,rfl⟩,?_⟩
 rintro n t mm w2 ⟨k,rfl,rfl,cU,rfl,rfl⟩
 by_cases ar:k < xs.length
 ·refine aE (by simp;omega) ?_
  have hx:xs[k]? =some xs[k]:=by simp [ar]
  have cX:(xs.map bN).take (k+1)=(xs.map bN).take k++ [bN xs[k]]:=by
   rw [afG (by simpa using ar)];simp
  have Lr:=hk (bN xs[k]) (ahf (afR ar))
  generalize xs[k]=x at hx cX Lr
  have Lr:1<=x.1 /\ x.1<=12:=Lr
  refine cf.ix aW hR (by omega) (x:=x) (by rw [afu];exact hx) fun ad hc=>?_
  refine ep (k:=.i .i64) (x:=x.1) (hc 0 (by omega)) rfl ?_
  refine⟨by omega,xs.length - (k+1),by omega,k+1,?_,by rw [aB (by omega) (by omega)];omega,by omega,rfl,rfl⟩
  have hb:=EO (l:=(xs.map bN).take k) (fun y hy=>hk y (ahH hy))
  rw [afM] at hb
  have e:cG ((xs.map bN).take (k+1))=cG ((xs.map bN).take k)+2 ^ x.1.toNat:=by
   rw [cX,vq];simp [cG,bN]
  rw [e]
  have hm:min (Int.toNat x.1) 64=x.1.toNat:=by omega
  rw [hm]
  have h1:(2:Nat) ^ x.1.toNat<=2 ^ 12:=ag1 (by omega) (by omega)
  have h2:((2:Int) ^ x.1.toNat)=((2 ^ x.1.toNat:Nat):Int):=by simp
  rw [h2]
  generalize 2 ^ x.1.toNat=q at h1
  generalize cG ((xs.map bN).take k)=z at hb
  rw [aB (n:=(1:Int)*(q:Int)) (by omega) (by omega),aB (by omega) (by omega)]
  omega
 ·refine aF (by simp;omega) ?_
  rw [afE (by simp;omega)]
  exact hK
set_option maxHeartbeats 2000000 in
theorem LD (h:Hp S w0 w ae) (i:Nat) {b:Nat} {a:WA} (hi:ae[i]? =some (iT b a)) {K:Sl->World->Prop} (hK: ∀r w',Hp S w0 w' (ae++ [aZ r a.rows])->K r w'):WQ (some ⟨b,0,none⟩) w K:=by
 refine OE ?_
 unfold f42
 obtain⟨inf,i1,i2,i3,i4⟩:=vc
 obtain⟨O,h1,back⟩:=h.f1 hi rfl
 clear h
 obtain⟨q,hf,h⟩:=tz h1
 clear h1
 have fv:a.rows.length<=200:=by have:=kf hf.1;unfold WA.rows;rw [afP];exact this
 obtain⟨xs,iF,h⟩:=h.dy (i:=3) rfl
 have h:=h.gE 75 3 rdv gJ fj
 have h:Hp O w w [ai b 73 q.cells,aD q.K a.ks,ay 177 q.p a.au,aj q.L 75 3 rdv xs,an (xs.map gJ),aZ ⟨none,0,0⟩ []]:=h
 have kS:xs.length=a.rows.length:=by rw [<-iF,afP]
 have Uh:=h.len (s:=q.L) 3 rfl
 refine⟨fun out t mm w'=> ∃k:Nat,t=k /\ k<=xs.length /\ mm=xs.length - k /\ Hp O w w' [ai b 73 q.cells,aD q.K a.ks,ay 177 q.p a.au,aj q.L 75 3 rdv xs,an (xs.map gJ),aZ out ((xs.take k).map fj)],⟨xs.length,0,rfl,by omega,rfl,h⟩,?_⟩
 clear h
 rintro out t mm w2 ⟨k,rfl,hk,rfl,h⟩
 have kA:=(h.gF (s:=out) (l:=(xs.take k).map fj) (e:=75) (n:=3) (cells:=rdv) (sub:=gJ) (vis:=fj) 5 rfl).1
 rw [afP,afM] at kA
 refine bg ?_
 refine h.ld (n:=2) (k:=.sl) (x:=q.L) 0 rfl rfl ?_
 by_cases ar:k < xs.length
 ·refine aE (by simp;omega) ?_
  have hx:xs[k]? =some xs[k]:=by simp [ar]
  have cX:xs.take (k+1)=xs.take k++ [xs[k]]:=afG ar
  have jU:xs[k]∈xs:=afR ar
  generalize xs[k]=x at hx cX jU
  obtain⟨p,_,_,lx,Fs,qD⟩:=n6 hf (r:=fj x) (by rw [<-iF];exact ahf jU)
  have lx:x.2.2=partsOf p:=lx
  obtain⟨rf,qC⟩:=lk hf.1.len.2 hf.1.four Fs qD
  refine h.dr fun w3 h=>?_
  refine bg ?_
  refine h.ld (n:=2) (k:=.sl) (x:=q.L) 0 rfl rfl ?_
  refine h.vH (s:=q.L) (l:=xs) (f:=rdv) (n:=3) (u:=aj q.L 75 3 rdv xs) 3 rfl Hp.bX (by omega) (by rw [afu];exact ar) fun ad ye=>?_
  rw [afu]
  refine h.pX (k:=.i .i64) (v:=x.1.1) (u:=aj q.L 75 3 rdv xs) 3 rfl Hp.bX ye cd hx rfl ?_
  refine h.A6 (m:=1) (k:=.i .i64) (v:=x.1.2) (u:=aj q.L 75 3 rdv xs) 3 rfl Hp.bX ye cd hx rfl ?_
  refine bg ?_
  refine h.ld (n:=2) (k:=.sl) (x:=q.L) 0 rfl rfl ?_
  refine h.vH (s:=q.L) (l:=xs) (f:=rdv) (n:=3) (u:=aj q.L 75 3 rdv xs) 3 rfl Hp.bX (by omega) (by rw [afu];exact ar) fun Fo QW=>?_
  rw [afu]
  refine h.A6 (m:=2) (k:=.sl) (v:=x.2.1) (u:=aj q.L 75 3 rdv xs) 3 rfl Hp.bX QW cd hx rfl ?_
  have Zn:vK w3 x.2.1 x.2.2:=by
   obtain⟨O',mv⟩:=h.n9 (i:=4) rfl
   obtain⟨O2,h4⟩:=vh mv (afQ.2 ⟨x,jU,rfl⟩)
   exact Ct h4
  refine rF h Zn (by rw [lx];omega) (fun y hy=>by rw [lx] at hy;have:=(qC y hy).1;omega) fun r w4 h=>?_
  refine⟨h.C6 (u:=aj q.L 75 3 rdv xs) 3 rfl Hp.bX ye cd hx rfl,h.PX (m:=1) (u:=aj q.L 75 3 rdv xs) 3 rfl Hp.bX ye cd hx rfl,h.IZ (n:=2) 0 rfl rfl,?_⟩
  have h:Hp O w w4 [ai b 73 q.cells,aD q.K a.ks,ay 177 q.p a.au,aj q.L 75 3 rdv xs,an (xs.map gJ),aZ out ((xs.take k).map fj),gJ (x.1,r,x.2.2)]:=h
  refine h.jL 5 6 (by decide) (x.1,r,x.2.2) (c:= [_,_,_]) rfl rfl rfl cd qk i1 i3 i2 rfl rfl (by simp [rdv,Value.oneCell']) (by rw [i4];omega) (by omega) fun bH w5 h Mf=>?_
  have h:Hp O w w5 ([ai b 73 q.cells,aD q.K a.ks,ay 177 q.p a.au,aj q.L 75 3 rdv xs,an (xs.map gJ),aZ bH ((xs.take k).map fj++ [fj (x.1,r,x.2.2)])]++ [ao]):=h
  have h:=h.front
  refine⟨xs.length - (k+1),by omega,k+1,by rw [aB (by omega) (by omega)];omega,by omega,rfl,?_⟩
  rw [cX,agh]
  exact h
 ·refine aF (by simp;omega) ?_
  rw [afE (by omega),iF] at h
  have h:=h.dE (i:=3) (j:=4) (e:=75) (n:=3) (cells:=rdv) (sub:=gJ) (vis:=fj) (s:=q.L) (xs:=xs) (l:=a.rows) (by decide) rfl rfl iF
  have h:Hp O w w2 (ai b 73 q.cells :: aD q.K a.ks :: ay 177 q.p a.au :: aZ q.L a.rows :: [aZ out a.rows]):=h.gC [0,1,2,3,5] (by decide) rfl
  have h:=qv q hf h
  have:=back (rest:= [aZ out a.rows]) rfl rfl h
  rw [Hp.cK hi] at this
  exact hK out w2 this
end
end Go.Proofs.YtcccjgmekakabaaGreat.FW
end

section
namespace Go.Proofs.YtcccjgmekakabaaGreat.FW
open F
open Go Go.Den Go.Proofs
open FI (af ay)
open FT (az di bM cc dz aP gm bD iv aq)
open FP (dX tB aV eI bS bI aT cw)
theorem Ui:Tryz.prog.underlying 101=some (.slice 157):=by kernel_rfl
theorem QX: ∃inf:TypeInfo,Tryz.prog.info? 157=some inf /\ inf.zero=some (.agg #[.int .i64 0,.int .i64 0]) /\ inf.size=2 /\ inf.bytes=16:=fE (by kernel_rfl)
abbrev RX:=bM×Sl×List PV
abbrev EP (x:RX):List Value:= [.int .i64 x.1.1,.int .i64 x.1.2,.slice x.2.1.a x.2.1.len x.2.1.cap]
theorem DG (x:RX):(EP x).length=3:=rfl
def Ft (x:RX):gL:=(x.1,x.2.2.map bN)
def Zo (w:World) (O:List Nat) (x:RX):Prop:=(∃o,cf w x.2.1 2 cY x.2.2 o /\ ∀k∈o,k∈O) /\ ∀y∈x.2.2,∃o,cf w y.2.1 1 iv y.2.2 o /\ ∀k∈o,k∈O
def mq (L:Sl) (xs:List RX):aa:=
  { holds:=fun w O=>(∀k∈O,k < w.heap.size) /\ (∃o,cf w L 3 EP xs o /\ ∀k∈o,k∈O) /\ ∀x∈xs,Zo w O x
    fr:=fun{S w w' O} h hf hn=>⟨fun k hk=>by have:=h.1 k hk;have:=hf.size;omega,by
      obtain⟨_,⟨o,h1,h2⟩,h3⟩:=h
      refine⟨⟨o,h1.fr hf (fun k hk=>hn k (h2 k hk)),h2⟩,fun x hx=>?_⟩
      obtain⟨⟨o,h4,h5⟩,h6⟩:=h3 x hx
      refine⟨⟨o,h4.fr hf (fun k hk=>hn k (h5 k hk)),h5⟩,fun y hy=>?_⟩
      obtain⟨o,h7,h8⟩:=h6 y hy
      exact⟨o,h7.fr hf (fun k hk=>hn k (h8 k hk)),h8⟩⟩
    lt:=fun h=>h.1}
theorem xN {α β:Type} {P:α->β->Prop}: ∀l:List α,(∀x∈l,∃y,P x y)-> ∃m:List β,m.length=l.length /\ ∀(i:Nat) (x:α),l[i]? =some x-> ∃y,m[i]? =some y /\ P x y
 | [],_=>⟨[],rfl,fun i x h=>by simp at h⟩
 | x :: l,h=>by
  obtain⟨y,hy⟩:=h x (by simp)
  obtain⟨m,h1,h2⟩:=xN l (fun z hz=>h z (by simp [hz]))
  refine⟨y :: m,by simp [h1],fun i z hz=>?_⟩
  cases i with
  | zero=>simp only [afJ,afy] at hz;subst hz;exact⟨y,rfl,hy⟩
  | succ i=>simpa using h2 i z (by simpa using hz)
theorem LF {w:World} {L:Sl} {l:List gL} (h:VP w L l): ∃(xs:List RX) (O:List Nat),xs.map Ft=l /\ (mq L xs).holds w O:=by
 obtain⟨xs,rfl,⟨o,h2⟩,h3⟩:=h
 obtain⟨m,h4,h5⟩:=xN (P:=fun(x:RV) (z:RX)=>z.1=x.1 /\ z.2.1=x.2.1 /\ z.2.2.map bN=x.2.2 /\ Zo w (List.range w.heap.size) z) xs fun x hx=>by
  obtain⟨ys,q1,⟨o,q2⟩,q3⟩:=h3 x hx
  refine⟨(x.1,x.2.1,ys),rfl,rfl,q1,⟨o,q2,fun k hk=>agC.2 (q2.lt k hk)⟩,fun y hy=>?_⟩
  obtain⟨o,q4⟩:=q3 y hy
  exact⟨o,q4,fun k hk=>agC.2 (q4.lt k hk)⟩
 have gz: ∀(i:Nat) (z:RX),m[i]? =some z-> ∃x,xs[i]? =some x /\ z.1=x.1 /\ z.2.1=x.2.1 /\ z.2.2.map bN=x.2.2 /\ Zo w (List.range w.heap.size) z:=fun i z hz=>by
  have ky:=(aft.1 hz).1
  have hx:xs[i]? =some (xs[i]'(by omega)):=afD _
  obtain⟨z',xp,hp⟩:=h5 i _ hx
  obtain rfl:z=z':=afK (hz.symm.trans xp)
  exact⟨_,hx,hp⟩
 refine⟨m,List.range w.heap.size,?_,fun k hk=>agC.1 hk,⟨o,?_,fun k hk=>agC.2 (h2.lt k hk)⟩,fun z hz=>?_⟩
 ·apply agd
  intro i
  rw [afC,afC]
  cases hm:m[i]? with
  | none=>
   have:xs[i]? =none:=by rw [List.getElem?_eq_none_iff] at hm ⊢;omega
   rw [this];rfl
  | some z=>
   obtain⟨x,hx,q1,_,q3,_⟩:=gz i z hm
   rw [hx]
   show some (z.1,z.2.2.map bN)=some (x.1,x.2.2)
   rw [q1,q3]
 ·have e:m.flatMap EP=xs.flatMap rdv:=by
   have:m.map EP=xs.map rdv:=by
    apply agd
    intro i
    rw [afC,afC]
    cases hm:m[i]? with
    | none=>
     have:xs[i]? =none:=by rw [List.getElem?_eq_none_iff] at hm ⊢;omega
     rw [this];rfl
    | some z=>
     obtain⟨x,hx,q1,q2,_,_⟩:=gz i z hm
     rw [hx]
     show some (EP z)=some (rdv x)
     unfold EP rdv
     rw [q1,q2]
   rw [List.flatMap_def,List.flatMap_def,this]
  unfold cf at h2 ⊢
  rw [e,h4];exact h2
 ·obtain⟨i,hi,rfl⟩:=agQ.1 hz
  obtain⟨_,_,_,_,_,q⟩:=gz i _ (afD hi)
  exact q
theorem dU {u:aa} {L:Sl} {xs:List RX} (hu:u.holds=(mq L xs).holds):Hp.Reads u L 3 EP xs:=⟨fun{w O} h=>by
 rw [hu] at h
 obtain⟨_,⟨o,h1,_⟩,_⟩:=h
 exact⟨o,h1⟩⟩
theorem n7 {u:aa} {L:Sl} {xs:List RX} (hu:u.holds=(mq L xs).holds) {x:RX} (hx:x∈xs):Hp.Reads u x.2.1 2 cY x.2.2:=⟨fun{w O} h=>by
 rw [hu] at h
 obtain⟨_,_,h2⟩:=h
 obtain⟨⟨o,h3,_⟩,_⟩:=h2 x hx
 exact⟨o,h3⟩⟩
theorem rG {u:aa} {L:Sl} {xs:List RX} (hu:u.holds=(mq L xs).holds) {x:RX} (hx:x∈xs) {y:PV} (hy:y∈x.2.2):Hp.Reads u y.2.1 1 iv y.2.2:=⟨fun{w O} h=>by
 rw [hu] at h
 obtain⟨_,_,h2⟩:=h
 obtain⟨_,h3⟩:=h2 x hx
 obtain⟨o,h4,_⟩:=h3 y hy
 exact⟨o,h4⟩⟩
theorem Io {u:aa} {L:Sl} {xs:List RX} (hu:u.holds=(mq L xs).holds) {x:RX} (hx:x∈xs) {w:World} {O:List Nat} (h:u.holds w O):vK w x.2.1 (x.2.2.map bN):=
 ⟨x.2.2,rfl,(n7 hu hx).rd h,fun y hy=>(rG hu hx hy).rd h⟩
section
variable {S:List Nat} {w0 w:World} {ae:List aa}
theorem tA (h:Hp S w0 w ae) (i:Nat) {b:Nat} {a:WA} (hi:(ae[i]?).map aa.holds=some (iT b a).holds):
  ∃(q:RH) (xs:List RX),a.fits /\ xs.map Ft=a.rows /\ Hp [] w w [(ai b 73 q.cells).ro,(ay 177 q.p a.au).ro,(mq q.L xs).ro]:=by
 obtain⟨O,q,hf,O1,O2,h1,⟨O3,O4,h2,⟨O5,O6,h3,h4,_⟩,_⟩,_⟩:=h.dQ hi
 obtain⟨xs,O7,h5,h6⟩:=LF (Cu h4)
 exact⟨q,xs,hf,h5,(((Hp.init w).ey h1 (by simp)).ey h3 (by simp)).ey h6 (by simp)⟩
def rH (a:WA) (L:List bM) (s:Int):Option Int:=
 if (L.filter fun e=>decide ((a.row e).map aG=some s)).length=0 then none else some (((L.filter fun e=>decide ((a.row e).map aG=some s)).length:Nat):Int)
theorem DH {l:List (Int×Int)} {q:Nat} {k v:Int} (hq:q < l.length) (aR: ∀(j:Nat) (hj:j < l.length),j < q->(l[j]).1≠k) (hk:(l[q]).1=k):oY l k v=l.set q (k,v) /\ gh l k=some (l[q]).2:=by
 have hf:(l.map (·.1)).findIdx? (fun b=>decide (b=k))=some q:=by
  rw [agB]
  refine⟨by simpa using hq,by simpa using hk,fun j hj=>?_⟩
  simpa using aR j (by omega) hj
 unfold oY gh
 rw [hf]
 exact⟨rfl,by simp [hq]⟩
theorem AO {l:List (Int×Int)} {k v:Int} (aR: ∀(j:Nat) (hj:j < l.length),(l[j]).1≠k):oY l k v=l++ [(k,v)] /\ gh l k=none:=by
 have hf:(l.map (·.1)).findIdx? (fun b=>decide (b=k))=none:=by
  rw [ahm]
  intro x hx
  obtain⟨y,hy,rfl⟩:=afQ.1 hx
  obtain⟨j,hj,rfl⟩:=agQ.1 hy
  simpa using aR j hj
 unfold oY gh
 rw [hf]
 exact⟨rfl,rfl⟩
theorem AP {a:WA} {L:List bM} {e:bM} {p:PL} (hp:a.row e=some p) {f:Int->Option Int} (hf: ∀s,f s=rH a L s) (s:Int):rH a (L++ [e]) s=if s=aG p then some ((f (aG p)).getD 0+1) else f s:=by
 rw [hf,hf]
 unfold rH
 rw [List.filter_append]
 by_cases hs:s=aG p
 ·subst hs
  have e1: [e].filter (fun e=>decide ((a.row e).map aG=some (aG p)))= [e]:=by simp [hp]
  rw [e1,if_pos rfl,afw,if_neg (by simp)]
  split
  ·rename_i h0
   rw [h0];rfl
  ·simp
 ·have e1: [e].filter (fun e=>decide ((a.row e).map aG=some s))= []:=by simp [hp];exact fun h=>hs h.symm
  rw [e1,if_neg hs,afH]
set_option maxHeartbeats 4000000 in
theorem ER (h:Hp S w0 w ae) (i:Nat) {b:Nat} {a:WA} (hi:(ae[i]?).map aa.holds=some (iT b a).holds) {K:Sl->World->Prop}
  (hK: ∀r zs w',(zs.map (·.1)).Nodup->(∀s,a.shape s=gh zs s)->zs.length<=200->Hp S w0 w' (ae++ [aj r 157 2 rD zs])->K r w'):WR (some ⟨b,0,none⟩) w K:=by
 refine OG ?_
 unfold f44
 obtain⟨inf,i1,i2,i3,i4⟩:=QX
 obtain⟨q,xs,hf,iF,h1⟩:=tA h i hi
 have gI:=kf hf.1
 have fv:xs.length=a.all.length:=by
  have:=congrArg List.length iF
  rw [afP] at this
  unfold WA.rows at this
  rw [afP] at this
  exact this
 have hu:(mq q.L xs).ro.holds=(mq q.L xs).holds:=rfl
 have Uh:=h1.df (u:=mq q.L xs) (s:=q.L) (l:=xs) (f:=EP) (n:=3) 2 rfl (dU rfl)
 have h1:=h1.nil 157 2 rD
 refine⟨fun out t mm w'=> ∃(k:Nat) (zs:List (Int×Int)),t=k /\ k<=xs.length /\ mm=xs.length - k /\ zs.length<=k /\ (zs.map (·.1)).Nodup /\ (∀s,gh zs s=rH a (a.all.take k) s) /\ Hp [] w w' [(ai b 73 q.cells).ro,(ay 177 q.p a.au).ro,(mq q.L xs).ro,aj out 157 2 rD zs],⟨xs.length,0,[],rfl,by omega,rfl,by simp,by simp,fun s=>by simp [rH,GO],h1⟩,?_⟩
 clear h1
 rintro out t mm w2 ⟨k,zs,rfl,hk,rfl,hzk,Ip,RM,h1⟩
 have kA:=h1.len (s:=out) 3 rfl
 refine bg ?_
 refine h1.ld (n:=2) (k:=.sl) (x:=q.L) 0 rfl rfl ?_
 by_cases ar:k < xs.length
 ·refine aE (by simp;omega) ?_
  have hx:xs[k]? =some xs[k]:=by simp [ar]
  have jU:xs[k]∈xs:=afR ar
  have DI:a.rows[k]? =some (Ft xs[k]):=by rw [<-iF,afC,hx];rfl
  generalize xs[k]=x at hx jU DI
  obtain⟨p,VU,hp,lx,Fs,qD⟩:=n6 hf (r:=Ft x) (afz DI)
  have lx:x.2.2.map bN=partsOf p:=lx
  have hp:a.row x.1=some p:=hp
  have hae:a.all[k]? =some x.1:=by
   unfold WA.rows at DI
   rw [afC] at DI
   obtain⟨e,he,h3⟩:=af2.1 DI
   have:e=x.1:=(agK h3).1
   rw [he,this]
  have Zp:a.all.take (k+1)=a.all.take k++ [x.1]:=by
   rw [ag5,hae];rfl
  obtain⟨rf,qC⟩:=lk hf.1.len.2 hf.1.four Fs qD
  refine bg ?_
  refine h1.ld (n:=2) (k:=.sl) (x:=q.L) 0 rfl rfl ?_
  refine h1.vH (s:=q.L) (l:=xs) (f:=EP) (n:=3) 2 rfl (dU hu) (by omega) (by rw [afu];exact ar) fun ad ye=>?_
  rw [afu]
  refine h1.A6 (m:=2) (k:=.sl) (v:=x.2.1) 2 rfl (dU hu) ye DG hx rfl ?_
  obtain⟨O',mv⟩:=h1.n9 (i:=2) rfl
  refine vr (Io (u:=(mq q.L xs).ro) hu jU mv) (by rw [lx];exact rf) (fun y hy=>by rw [lx] at hy;exact(qC y hy).2.2) ?_
  rw [lx,mb]
  have me:=AP (L:=a.all.take k) hp RM
  rw [<-Zp] at me
  generalize aG p=set at me
  refine⟨fun k2 w'=> ∃r:Nat,k2=r /\ r<=zs.length /\ (∀(j:Nat) (hj:j < zs.length),j < r->(zs[j]).1≠set) /\ (∀hr:r < zs.length,(zs[r]).1=set) /\ Hp [] w w' [(ai b 73 q.cells).ro,(ay 177 q.p a.au).ro,(mq q.L xs).ro,aj out 157 2 rD zs],?_,?_⟩
  ·refine⟨fun t mm w'=> ∃r:Nat,t=r /\ r<=zs.length /\ mm=zs.length - r /\ (∀(j:Nat) (hj:j < zs.length),j < r->(zs[j]).1≠set) /\ Hp [] w w' [(ai b 73 q.cells).ro,(ay 177 q.p a.au).ro,(mq q.L xs).ro,aj out 157 2 rD zs],⟨zs.length,0,rfl,by omega,rfl,fun j _ h=>by omega,h1⟩,?_⟩
   clear h1
   rintro t mm w3 ⟨r,rfl,hr,rfl,da,h1⟩
   by_cases fv:r < zs.length
   ·refine aE (by simp;omega) ?_
    have hz:zs[r]? =some zs[r]:=by simp [fv]
    refine h1.sq (s:=out) (l:=zs) (f:=rD) (n:=2) (e:=157) 3 rfl (by omega) (by rw [afu];exact hz) nZ fun Fo jE=>?_
    refine ep (k:=.i .i64) (x:=(zs[r]).1) (jE 0 (by omega)) rfl ?_
    by_cases he:(zs[r]).1=set
    ·exact aF (by simpa using he) ⟨r,rfl,hr,da,fun _=>he,h1⟩
    ·refine aE (by simpa using he) ⟨zs.length - (r+1),by omega,r+1,by rw [aB (by omega) (by omega)];omega,by omega,rfl,fun j hj IU=>?_,h1⟩
     by_cases DR:j < r
     ·exact da j hj DR
     ·obtain rfl:j=r:=by omega
      exact he
   ·exact aF (by simp;omega) ⟨r,rfl,hr,da,fun h=>absurd h fv,h1⟩
  clear h1
  rintro k2 w3 ⟨r,rfl,hr,da,mY,h1⟩
  refine⟨fun fa w'=> ∃(Uj:List (Int×Int)) (n:Nat),Uj[r]? =some (set,(n:Int)) /\ Uj.set r (set,(n:Int)+1)=oY zs set ((gh zs set).getD 0+1) /\ n<=200 /\ Hp [] w w' [(ai b 73 q.cells).ro,(ay 177 q.p a.au).ro,(mq q.L xs).ro,aj fa 157 2 rD Uj],?_,?_⟩
  ·by_cases fv:r < zs.length
   ·obtain⟨e1,e2⟩:=DH (v:=(gh zs set).getD 0+1) fv da (mY fv)
    have hn: ∃n:Nat,(zs[r]).2=n /\ n<=200:=by
     have:=RM set
     rw [e2] at this
     unfold rH at this
     split at this
     ·cases this
     ·have hle:=ahZ (fun e=>decide ((a.row e).map aG=some set)) (a.all.take k)
      rw [afM] at hle
      exact⟨_,afK this,by omega⟩
    obtain⟨n,tU,Jf⟩:=hn
    have hz:zs[r]? =some (set,(n:Int)):=by rw [afD fv,<-tU,<-mY fv]
    refine aF (by simp;omega) ⟨zs,n,hz,?_,Jf,h1⟩
    rw [e1,e2,ag9,tU]
   ·obtain rfl:r=zs.length:=by omega
    obtain⟨e1,e2⟩:=AO (v:=(gh zs set).getD 0+1) (fun j hj=>da j hj hj)
    refine aE (by simp;omega) ?_
    refine h1.bL 3 ((set,(0:Int)):Int×Int) (c:= [_,_]) rfl nZ Ui i1 i3 i2 rfl rfl (by simp [rD,Value.oneCell']) (by rw [i4];omega) (by omega) fun bH w4 h1 _ _=>?_
    exact⟨zs++ [(set,0)],0,by simp,by rw [e1,e2];simp,by omega,h1⟩
  clear h1
  rintro fa w4 ⟨Uj,n,hz,mw,hn,h1⟩
  refine h1.sq (s:=fa) (l:=Uj) (f:=rD) (n:=2) (e:=157) 3 rfl (by omega) (by rw [afu];exact hz) nZ fun Fo jE=>?_
  refine j8 (k:=.i .i64) (x:=(n:Int)) (jE 1 (by omega)) rfl ?_
  have VE:IntKind.i64.wrap ((n:Int)+1)=(n:Int)+1:=aB (by omega) (by omega)
  rw [VE]
  refine h1.Db 3 (y:=((set,(n:Int)):Int×Int)) (y':=(set,(n:Int)+1)) (m:=1) rfl (by omega) (by rw [afu];exact hz) nZ (by omega) rfl rfl fun w5 h1=>?_
  rw [afu,mw] at h1
  have Fh:(oY zs set ((gh zs set).getD 0+1)).length<=zs.length+1:=by
   rw [<-mw,agi]
   by_cases fv:r < zs.length
   ·obtain⟨e1,e2⟩:=DH (v:=(gh zs set).getD 0+1) fv da (mY fv)
    have:=congrArg List.length mw
    rw [e1,agi,agi] at this
    omega
   ·obtain rfl:r=zs.length:=by omega
    obtain⟨e1,e2⟩:=AO (v:=(gh zs set).getD 0+1) (fun j hj=>da j hj hj)
    have:=congrArg List.length mw
    rw [e1,agi,afw] at this
    simp at this
    omega
  refine⟨xs.length - (k+1),by omega,k+1,oY zs set ((gh zs set).getD 0+1),by rw [aB (by omega) (by omega)];omega,by omega,rfl,by omega,wZ _ _ _ Ip,fun s=>?_,h1⟩
  rw [zD,me]
 ·refine aF (by simp;omega) ?_
  have Qs: ∀s,a.shape s=gh zs s:=fun s=>by
   rw [RM,afE (by omega)]
   rfl
  exact hK out zs w2 Ip Qs (by omega) (h.r0 (rest:= [aj out 157 2 rD zs]) rfl (h1.gC [3] (by decide) rfl))
end
end Go.Proofs.YtcccjgmekakabaaGreat.FW
end

section
namespace Go.Proofs.YtcccjgmekakabaaGreat.FW
open F
open Go Go.Den Go.Proofs
open FI (af ay)
open FT (az di bM cc dz aP gm bD iv aq)
open FP (dX tB aV eI bS bI aT cw)
section
variable {S:List Nat} {w0 w:World} {ae:List aa}
set_option maxHeartbeats 2000000 in
theorem ES (h:Hp S w0 w ae) (i j:Nat) {b:Nat} {q:RH} {m:af} (hm:m.Hl) (hi:(ae[i]?).map aa.holds=some (ai b 73 q.cells).holds) (hj:(ae[j]?).map aa.holds=some (ay 177 q.p m).holds) {K:Sl->World->Prop}
  (hK: ∀s w',Hp S w0 w' (ae++ [tB s (bS m.aM++bS m.free)])->K s w'):Nv (some ⟨b,0,none⟩) w K:=by
 refine JT ?_
 unfold f105
 obtain⟨g1,g2,g3,g4⟩:=lX hm.toOk
 have r1:=fH m.aM
 have r2:=fH m.free
 have get: ∀{l:List aa} (k:Nat),(ae++l)[ae.length+k]? =l[k]? :=fun{l} k=>by rw [afv (by omega)];simp
 refine bg ?_
 refine h.ld (n:=1) (k:=.p) (x:=some ⟨q.p,0,none⟩) i hi rfl ?_
 refine FI.Ik h j hm hj fun g f w1 h=>?_
 refine sI h (ae.length+0) (u:=aj g 3 1 iv m.aM) (by rw [get];rfl) Hp.bX (by omega) fun r w2 h=>?_
 rw [afA] at h
 refine FP.qf h (ae.length+0) (ae.length+2) (u:=aj g 3 1 iv m.aM) (b:=⟨none,0,0⟩) (bs:= []) (by rw [get];rfl) H2 (u':=aj r 2 1 iv m.aM) (l:=m.aM) (by rw [get];rfl) Hp.bX g1 (by omega) (by simp) fun s w3 h=>?_
 rw [afA] at h
 refine sI h (ae.length+1) (u:=aj f 3 1 iv m.free) (by rw [get];rfl) Hp.bX (by omega) fun r2' w4 h=>?_
 rw [afA] at h
 refine FP.qf h (ae.length+3) (ae.length+4) (u:=tB s ([]++bS m.aM)) (bs:=bS m.aM) (by rw [get];rfl) Hp.bX (u':=aj r2' 2 1 iv m.free) (l:=m.free) (by rw [get];rfl) Hp.bX g3 (by omega) (by omega) fun s2 w5 h=>?_
 have h:Hp S w0 w5 (ae++ [aj g 3 1 iv m.aM,aj f 3 1 iv m.free,aj r 2 1 iv m.aM,tB s ([]++bS m.aM),aj r2' 2 1 iv m.free]++ [tB s2 (bS m.aM++bS m.free)]):=by
  simp only [afA,af3,aga] at h ⊢
  exact h
 exact hK s2 w5 h.nT
def iO (l:List gL):List Int:=l.flatMap fun r=>aV (cG r.2)++r.2.flatMap fun y=>bI y.2
theorem Iq (l m:List gL):iO (l++m)=iO l++iO m:=by unfold iO;rw [af5]
def fw (l:List Part):List Int:=l.flatMap fun y=>bI y.2
theorem Ir (l m:List Part):fw (l++m)=fw l++fw m:=by unfold fw;rw [af5]
theorem AQ {l:List Part} (h: ∀y∈l,y.2.length<=4):(fw l).length<=40*l.length:=by
 induction l with
 | nil=>simp [fw]
 | cons y l ih=>
  have:=ih (fun z hz=>h z (by simp [hz]))
  have h1:=h y (by simp)
  have h2:=cw y.2
  have e:fw (y :: l)=bI y.2++fw l:=by simp [fw]
  rw [e,afw,af6]
  omega
theorem AR {l:List gL} (h: ∀r∈l,r.2.length<=12 /\ ∀y∈r.2,y.2.length<=4):(iO l).length<=490*l.length:=by
 induction l with
 | nil=>simp [iO]
 | cons r l ih=>
  have:=ih (fun z hz=>h z (by simp [hz]))
  obtain⟨h1,h2⟩:=h r (by simp)
  have h3:=AQ h2
  have h4:=aT (cG r.2)
  have e:iO (r :: l)=(aV (cG r.2)++fw r.2)++iO l:=by simp [iO,fw]
  rw [e,afw,afw,af6]
  omega
theorem DJ {a:WA} (hf:a.fits):iO a.rows=a.all.flatMap fun e=>lW ((a.row e).getD []):=by
 unfold iO WA.rows
 rw [List.flatMap_map]
 have key: ∀L:List bM,(∀e∈L,e∈a.all)->(L.flatMap fun e=>aV (cG (a.k9 e).2)++(a.k9 e).2.flatMap fun y=>bI y.2)=L.flatMap fun e=>lW ((a.row e).getD []):=by
  intro L
  induction L with
  | nil=>simp
  | cons e L ih=>
   intro hL
   obtain⟨p,hp⟩:=hH hf.1 (hL e (by simp))
   rw [age,age,ih (fun x hx=>hL x (by simp [hx]))]
   congr 1
   have e1:(a.k9 e).2=partsOf p:=by unfold WA.k9;rw [hp];rfl
   rw [e1,mb,xE,hp]
   rfl
 exact key a.all (fun e he=>he)
set_option maxHeartbeats 4000000 in
theorem AS (h:Hp S w0 w ae) (i:Nat) {b:Nat} {a:WA} (hi:(ae[i]?).map aa.holds=some (iT b a).holds) {K:Sl->World->Prop}
  (hK: ∀s w',Hp S w0 w' (ae++ [tB s a.snap])->K s w'):WS (some ⟨b,0,none⟩) w K:=by
 refine OI ?_
 unfold f46
 obtain⟨q,xs,hf,iF,h1⟩:=tA h i hi
 have gI:=kf hf.1
 have fv:xs.length=a.all.length:=by
  have:=congrArg List.length iF
  rw [afP] at this
  unfold WA.rows at this
  rw [afP] at this
  exact this
 have hu:(mq q.L xs).ro.holds=(mq q.L xs).holds:=rfl
 have Uh:=h1.df (u:=mq q.L xs) (s:=q.L) (l:=xs) (f:=EP) (n:=3) 2 rfl (dU rfl)
 have Is: ∀r∈a.rows,(r.2.length<=12 /\ ∀y∈r.2,y.2.length<=4):=fun r hr=>by
  obtain⟨p,VU,hp,lx,Fs,qD⟩:=n6 hf hr
  obtain⟨rf,qC⟩:=lk hf.1.len.2 hf.1.four Fs qD
  rw [lx]
  exact⟨rf,fun y hy=>(qC y hy).1⟩
 refine ES h1 0 1 (m:=a.au) hf.1.Ck rfl rfl fun s1 w1 h1=>?_
 have hhd:(bS a.au.aM++bS a.au.free).length<=10000:=by
  obtain⟨g1,g2,g3,g4⟩:=lX hf.1.u6
  have r1:=fH a.au.aM
  have r2:=fH a.au.free
  rw [afw];omega
 have hsn:a.snap=bS a.au.aM++bS a.au.free++iO a.rows:=by rw [DJ hf];rfl
 rw [hsn] at hK
 generalize bS a.au.aM++bS a.au.free=hd at h1 hhd hK
 refine⟨fun s t mm w'=> ∃k:Nat,t=k /\ k<=xs.length /\ mm=xs.length - k /\ Hp [] w w' [(ai b 73 q.cells).ro,(ay 177 q.p a.au).ro,(mq q.L xs).ro,tB s (hd++iO (a.rows.take k))],⟨xs.length,0,rfl,by omega,rfl,by simpa [iO] using h1⟩,?_⟩
 clear h1
 rintro s t mm w2 ⟨k,rfl,hk,rfl,h1⟩
 refine bg ?_
 refine h1.ld (n:=2) (k:=.sl) (x:=q.L) 0 rfl rfl ?_
 by_cases ar:k < xs.length
 ·refine aE (by simp;omega) ?_
  have hx:xs[k]? =some xs[k]:=by simp [ar]
  have jU:xs[k]∈xs:=afR ar
  have DI:a.rows[k]? =some (Ft xs[k]):=by rw [<-iF,afC,hx];rfl
  generalize xs[k]=x at hx jU DI
  obtain⟨p,VU,hp,lx,Fs,qD⟩:=n6 hf (r:=Ft x) (afz DI)
  have lx:x.2.2.map bN=partsOf p:=lx
  have Zq:a.rows.take (k+1)=a.rows.take k++ [Ft x]:=by rw [ag5,DI];rfl
  obtain⟨rf,qC⟩:=lk hf.1.len.2 hf.1.four Fs qD
  have ED:=AR (l:=a.rows.take k) (fun r hr=>Is r (ahH hr))
  rw [afM] at ED
  refine bg ?_
  refine h1.ld (n:=2) (k:=.sl) (x:=q.L) 0 rfl rfl ?_
  refine h1.vH (s:=q.L) (l:=xs) (f:=EP) (n:=3) 2 rfl (dU hu) (by omega) (by rw [afu];exact ar) fun ad ye=>?_
  rw [afu]
  refine h1.A6 (m:=2) (k:=.sl) (v:=x.2.1) 2 rfl (dU hu) ye DG hx rfl ?_
  obtain⟨O',mv⟩:=h1.n9 (i:=2) rfl
  refine vr (Io (u:=(mq q.L xs).ro) hu jU mv) (by rw [lx];exact rf) (fun y hy=>by rw [lx] at hy;exact(qC y hy).2.2) ?_
  have qH:=hU p
  have Ba:=hY (p:=p) (by rw [Fs.1];exact hf.1.len.2)
  have e0:cG (x.2.2.map bN)=aG p:=by rw [lx,mb]
  have e1:IntKind.u64.wrap (cG (x.2.2.map bN))=aG p:=by rw [e0,FP.kH];omega
  rw [e1]
  refine FP.k5 h1 3 (u:=tB s (hd++iO (a.rows.take k))) (l:=hd++iO (a.rows.take k)) rfl Hp.bX qH (by omega) (by rw [afw];omega) fun s2 w3 h1=>?_
  have h1:Hp [] w w3 [(ai b 73 q.cells).ro,(ay 177 q.p a.au).ro,(mq q.L xs).ro,tB s2 (hd++iO (a.rows.take k)++aV (aG p))]:=h1.gC [0,1,2,4] (by decide) rfl
  have dh:=aT (aG p)
  have wC:(hd++iO (a.rows.take k)++aV (aG p)).length<=200000:=by rw [afw,afw];omega
  have Lu:hd++iO (a.rows.take k)++aV (aG p)++fw (x.2.2.map bN)=hd++iO (a.rows.take (k+1)):=by
   rw [Zq,Iq]
   have:iO [Ft x]=aV (aG p)++fw (x.2.2.map bN):=by
    rw [<-e0];simp [iO,fw,Ft]
   rw [this];simp
  generalize hd++iO (a.rows.take k)++aV (aG p)=pre at h1 wC Lu
  have Y4:=h1.df (s:=x.2.1) (l:=x.2.2) (f:=cY) (n:=2) (u:=(mq q.L xs).ro) 2 rfl (n7 hu jU)
  have vI:x.2.2.length<=12:=by rw [<-lx,afP] at rf;exact rf
  have RC: ∀y∈x.2.2,y.2.2.length<=4 /\ dX y.2.2:=fun y hy=>by
   have:=qC (bN y) (by rw [<-lx];exact ahf hy)
   exact⟨this.1,this.2.1⟩
  refine⟨fun s t mm w'=> ∃j:Nat,t=j /\ j<=x.2.2.length /\ mm=x.2.2.length - j /\ Hp [] w w' [(ai b 73 q.cells).ro,(ay 177 q.p a.au).ro,(mq q.L xs).ro,tB s (pre++fw ((x.2.2.map bN).take j))],⟨x.2.2.length,0,rfl,by omega,rfl,by simpa [fw] using h1⟩,?_⟩
  clear h1
  rintro s3 t mm w4 ⟨j,rfl,hj,rfl,h1⟩
  by_cases gN:j < x.2.2.length
  ·refine aE (by simp;omega) ?_
   have hy:x.2.2[j]? =some x.2.2[j]:=by simp [gN]
   have I5:x.2.2[j]∈x.2.2:=afR gN
   have cX:(x.2.2.map bN).take (j+1)=(x.2.2.map bN).take j++ [bN x.2.2[j]]:=by
    rw [afG (by simpa using gN)];simp
   generalize x.2.2[j]=y at hy I5 cX
   obtain⟨QA,xD⟩:=RC y I5
   have G8:=AQ (l:=(x.2.2.map bN).take j) (fun z hz=>by
    obtain⟨z',xp,rfl⟩:=afQ.1 (ahH hz)
    exact(RC z' xp).1)
   rw [afM] at G8
   have gi:=h1.df (s:=y.2.1) (l:=y.2.2) (f:=iv) (n:=1) (u:=(mq q.L xs).ro) 2 rfl (rG hu jU I5)
   refine⟨fun s t mm w'=> ∃r:Nat,t=r /\ r<=y.2.2.length /\ mm=y.2.2.length - r /\ Hp [] w w' [(ai b 73 q.cells).ro,(ay 177 q.p a.au).ro,(mq q.L xs).ro,tB s (pre++fw ((x.2.2.map bN).take j)++bI (y.2.2.take r))],⟨y.2.2.length,0,rfl,by omega,rfl,by simpa [bI] using h1⟩,?_⟩
   clear h1
   rintro s4 t mm w5 ⟨r,rfl,hr,rfl,h1⟩
   have QN: ∀{K:Sl->Prop},K y.2.1->Ix x.2.1.a x.2.1.len ((j:Nat):Int) 2 fun(a2:Addr)=>Ld .sl w5 (a2.add 1) K:=fun{K} hK=>by
    refine h1.vH (s:=x.2.1) (l:=x.2.2) (f:=cY) (n:=2) (u:=(mq q.L xs).ro) 2 rfl (n7 hu jU) (by omega) (by rw [afu];exact gN) fun ad ye=>?_
    rw [afu]
    exact h1.A6 (m:=1) (k:=.sl) (v:=y.2.1) (u:=(mq q.L xs).ro) 2 rfl (n7 hu jU) ye aW hy rfl hK
   refine QN ?_
   by_cases Cg:r < y.2.2.length
   ·refine aE (by simp;omega) (QN ?_)
    have hz:y.2.2[r]? =some y.2.2[r]:=by simp [Cg]
    have Zr:=xD _ (afR Cg)
    have dw:bI (y.2.2.take (r+1))=bI (y.2.2.take r)++aV (eI y.2.2[r]):=by
     unfold bI
     rw [afG Cg,af5];simp
    have Fc:=cw (y.2.2.take r)
    rw [afM] at Fc
    generalize y.2.2[r]=z at hz Zr dw
    refine h1.dd (k:=.i .i64) (u:=(mq q.L xs).ro) (y:=z) (x:=z) 2 rfl (rG hu jU I5) (by omega) (by rw [afu];exact hz) aq rfl ?_
    refine FP.jd h1 3 rfl Hp.bX Zr.1 Zr.2 (by rw [afw,afw];omega) fun s5 w6 h1=>?_
    have h1:Hp [] w w6 [(ai b 73 q.cells).ro,(ay 177 q.p a.au).ro,(mq q.L xs).ro,tB s5 (pre++fw ((x.2.2.map bN).take j)++bI (y.2.2.take r)++aV (eI z))]:=h1.gC [0,1,2,4] (by decide) rfl
    refine⟨y.2.2.length - (r+1),by omega,r+1,by rw [aB (by omega) (by omega)];omega,by omega,rfl,?_⟩
    rw [dw,<-afA]
    exact h1
   ·refine aF (by simp;omega) ⟨x.2.2.length - (j+1),by omega,j+1,by rw [aB (by omega) (by omega)];omega,by omega,rfl,?_⟩
    rw [afE (l:=y.2.2) (by omega)] at h1
    rw [cX,Ir]
    have:fw [bN y]=bI y.2.2:=by simp [fw,bN]
    rw [this,<-afA]
    exact h1
  ·refine aF (by simp;omega) ⟨xs.length - (k+1),by omega,k+1,by rw [aB (by omega) (by omega)];omega,by omega,rfl,?_⟩
   rw [afE (by simp;omega),Lu] at h1
   exact h1
 ·refine aF (by simp;omega) ?_
  have Cg:a.rows.length=xs.length:=by rw [<-iF,afP]
  rw [afE (by omega)] at h1
  exact hK s w2 (h.r0 (rest:= [tB s (hd++iO a.rows)]) rfl (h1.gC [3] (by decide) rfl))
end
end Go.Proofs.YtcccjgmekakabaaGreat.FW
end

section
namespace Go.Proofs.YtcccjgmekakabaaGreat.FP
open F
open Go Go.Den Go.Proofs
def Told (form n:Int) (cur:List Int) (X:List Int) (last runs:Int) (bj:List Int):Prop:=
 ∀l rest,cur=bd form l++rest->(l.length:Int)=n->dX l->
  ((form=0 \/ form=1)->runs=0 /\ ∃k,X=l.take k /\ k<=l.length /\ bj=(if form=0 then bI (l.drop k) else iB last (l.drop k))++rest) /\
  (form=2-> ∃D T,bY l=D++T /\ X=expand D /\ bj=T.flatMap fG++rest /\ runs=T.length)
theorem Told.start {form n:Int} {cur:List Int} (hf:form=0 \/ form=1):Told form n cur [] 0 0 cur:=by
 intro l rest hc iS hr
 refine⟨fun _=>⟨rfl,0,rfl,by omega,?_⟩,fun h=>by omega⟩
 rw [hc]
 rcases hf with rfl | rfl <;> rfl
theorem vu {T:List (Int×Int)} (h: ∀y∈T,1<=y.1):T.length<=(expand T).length:=by
 induction T with
 | nil=>simp
 | cons y T ih=>
  have h1:=h y (by simp)
  have h2:=ih (fun z hz=>h z (by simp [hz]))
  simp only [expand,age,afw,agN,af6] at h2 ⊢
  omega
theorem Told.done {form n:Int} {cur X bj:List Int} {last runs:Int} (h:Told form n cur X last runs bj) (hf:form=0 \/ form=1 \/ form=2) (qi:n<=X.length \/ (form=2 /\ runs<=0)) {l rest:List Int} (hc:cur=bd form l++rest) (iS:(l.length:Int)=n) (hr:dX l):X=l /\ bj=rest /\ runs=0:=by
 obtain⟨g1,g2⟩:=h l rest hc iS hr
 by_cases iH:form=2
 ·obtain⟨D,T,e1,e2,e3,e4⟩:=g2 iH
  have wB:=je l
  rw [e1] at wB
  have hT:T= []:=by
   rcases qi with h | h
   ·have hp:=vu (T:=T) (fun y hy=>(jK none l y (by show y∈bY l;rw [e1];simp [hy])).1)
    have yH:=congrArg List.length wB
    simp only [expand,af5,afw] at yH hp
    rw [e2] at h
    simp only [expand] at h
    exact af7 (by omega)
   ·exact af7 (by omega)
  subst hT
  rw [afH] at wB
  exact⟨by rw [e2,wB],by rw [e3];rfl,by rw [e4];rfl⟩
 ·have wK:form=0 \/ form=1:=by
   rcases hf with h | h | h
   ·exact .inl h
   ·exact .inr h
   ·exact absurd h iH
  obtain⟨e0,k,e1,e2,e3⟩:=g1 wK
  have Mv:X.length=k:=by rw [e1,afM];omega
  have hk:k=l.length:=by
   rcases qi with h | h
   ·omega
   ·omega
  subst hk
  rw [agJ] at e1
  rw [ahN] at e3
  refine⟨e1,?_,e0⟩
  rw [e3]
  rcases wK with rfl | rfl <;> simp [bI,iB]
end Go.Proofs.YtcccjgmekakabaaGreat.FP
end

section
namespace Go.Proofs.YtcccjgmekakabaaGreat.FP
open F
open Go Go.Den Go.Proofs
theorem Told.one {form n:Int} {cur X bj:List Int} {last:Int} (h:Told form n cur X last 0 bj) (hf:form=0 \/ form=1) (ar:(X.length:Int) < n) {y fF:Int} (yZ:y=(if form=1 then IntKind.i64.wrap (lT (ax bj).1+last) else lT (ax bj).1)) (gA:form=1->fF=y):
  Told form n cur (X++ [y]) fF 0 (bj.drop (ax bj).2.toNat) /\ ∀l rest,cur=bd form l++rest->(l.length:Int)=n->dX l->(ax bj).2≠0:=by
 have key: ∀l rest,cur=bd form l++rest->(l.length:Int)=n->dX l->(ax bj).2≠0 /\ ∃k,X++ [y]=l.take k /\ k<=l.length /\ bj.drop (ax bj).2.toNat=(if form=0 then bI (l.drop k) else iB fF (l.drop k))++rest:=by
  intro l rest hc iS hr
  obtain⟨_,k,g2,g3,g4⟩:=(h l rest hc iS hr).1 hf
  have Mv:X.length=k:=by rw [g2,afM];omega
  have cU:k < l.length:=by omega
  have hd:l.drop k=l[k] :: l.drop (k+1):=agf cU
  have cX:l.take (k+1)=l.take k++ [l[k]]:=afG cU
  have Qx:=hr l[k] (afR cU)
  rw [hd] at g4
  generalize l[k]=x at hd cX Qx g4
  rcases hf with rfl | rfl
  ·have e:bj=aV (eI x)++(bI (l.drop (k+1))++rest):=by
    rw [g4,if_pos rfl];simp [bI]
   have hg:=iD Qx.1 Qx.2 (bI (l.drop (k+1))++rest)
   rw [<-e] at hg
   have hp:=cM (eI x)
   rw [if_neg (by omega)] at yZ
   rw [hg,nV] at yZ
   refine⟨by rw [hg];simp;intro h0;rw [h0] at hp;simp at hp,k+1,by rw [cX,<-g2,yZ],by omega,?_⟩
   rw [hg,if_pos rfl,e]
   exact fI _ _ rfl
  ·have e:bj=aV (eI (IntKind.i64.wrap (x - last)))++(iB x (l.drop (k+1))++rest):=by
    rw [g4,if_neg (by omega),iB];simp
   have hg:=iD (qP (x - last)) (qQ (x - last)) (iB x (l.drop (k+1))++rest)
   rw [<-e] at hg
   have hp:=cM (eI (IntKind.i64.wrap (x - last)))
   rw [if_pos rfl,hg,nV] at yZ
   have HE:y=x:=by
    rw [yZ,Ah,Ah]
    split <;> split <;> omega
   have yH:=gA rfl
   refine⟨by rw [hg];simp;intro h0;rw [h0] at hp;simp at hp,k+1,by rw [cX,<-g2,HE],by omega,?_⟩
   rw [hg,if_neg (by omega),yH,HE,e]
   exact fI _ _ rfl
 refine⟨fun l rest hc iS hr=>⟨fun _=>?_,fun h2=>by omega⟩,fun l rest hc iS hr=>(key l rest hc iS hr).1⟩
 exact⟨rfl,(key l rest hc iS hr).2⟩
theorem Told.head {n:Int} {cur:List Int} (tU:n<=100000):
  Told 2 n cur [] 0 (ax cur).1 (cur.drop (ax cur).2.toNat) /\ ∀l rest,cur=bd 2 l++rest->(l.length:Int)=n->dX l->(ax cur).2≠0 /\ (ax cur).1<=n:=by
 have key: ∀l rest,cur=bd 2 l++rest->(l.length:Int)=n->dX l->(ax cur).2≠0 /\ cur.drop (ax cur).2.toNat=(bY l).flatMap fG++rest /\ (ax cur).1=(bY l).length:=by
  intro l rest hc iS hr
  have fv:=jq l
  have e:cur=aV ((bY l).length:Int)++((bY l).flatMap fG++rest):=by
   rw [hc];show yE l++rest=_;simp [yE]
  have hg:=iC (n:=((bY l).length:Int)) (by omega) (by omega) ((bY l).flatMap fG++rest)
  rw [<-e] at hg
  have hp:=cM ((bY l).length:Int)
  refine⟨by rw [hg];simp;intro h0;rw [h0] at hp;simp at hp,?_,by rw [hg]⟩
  rw [hg,e]
  exact fI _ _ rfl
 refine⟨fun l rest hc iS hr=>⟨fun h=>by omega,fun _=>?_⟩,fun l rest hc iS hr=>?_⟩
 ·obtain⟨_,g2,g3⟩:=key l rest hc iS hr
  exact⟨[],bY l,rfl,rfl,g2,g3⟩
 ·obtain⟨g1,_,g3⟩:=key l rest hc iS hr
  have:=jq l
  exact⟨g1,by omega⟩
theorem Told.run {n:Int} {cur X bj:List Int} {last runs:Int} (h:Told 2 n cur X last runs bj) (Ws:0 < runs) (tU:n<=100000) (fF:Int):
  Told 2 n cur (X++List.replicate (ax bj).1.toNat (lT (ax (bj.drop (ax bj).2.toNat)).1)) fF (runs - 1) ((bj.drop (ax bj).2.toNat).drop (ax (bj.drop (ax bj).2.toNat)).2.toNat) /\
  ∀l rest,cur=bd 2 l++rest->(l.length:Int)=n->dX l->(ax bj).2≠0 /\ 1<=(ax bj).1 /\ X.length+(ax bj).1<=n /\ (ax (bj.drop (ax bj).2.toNat)).2≠0:=by
 generalize HI:bj.drop (ax bj).2.toNat=dg
 have canon: ∀l rest,cur=bd 2 l++rest->(l.length:Int)=n->dX l->((ax bj).2≠0 /\ 1<=(ax bj).1 /\ X.length+(ax bj).1<=n /\ (ax dg).2≠0) /\ ∃D T,bY l=D++T /\ X++List.replicate (ax bj).1.toNat (lT (ax dg).1)=expand D /\ dg.drop (ax dg).2.toNat=T.flatMap fG++rest /\ runs - 1=T.length:=by
  intro l rest hc iS hr
  obtain⟨D,T,g2,g3,g4,g5⟩:=(h l rest hc iS hr).2 rfl
  match T,g2,g4,g5 with
  | [],g2,g4,g5=>simp at g5;omega
  | (q,y) :: T,g2,g4,g5=>
   have cP:=jK none l (q,y) (by show (q,y)∈bY l;rw [g2];simp)
   have TG:=hr y cP.2.2
   obtain⟨m1,m2,_⟩:=cP
   dsimp only at m1 m2
   have e1:bj=aV q++(aV (eI y)++(T.flatMap fG++rest)):=by rw [g4];simp [fG]
   have Bc:=iC (n:=q) (by omega) (by omega) (aV (eI y)++(T.flatMap fG++rest))
   rw [<-e1] at Bc
   have e2:dg=aV (eI y)++(T.flatMap fG++rest):=by
    rw [<-HI,Bc,e1];exact fI _ _ rfl
   have Dg:=iD TG.1 TG.2 (T.flatMap fG++rest)
   rw [<-e2] at Dg
   have rf:=cM q
   have qC:=cM (eI y)
   have wB:=je l
   rw [g2] at wB
   have hlen:X.length+q.toNat<=l.length:=by
    rw [<-wB,g3]
    simp only [expand,af5,age,afw,agN]
    omega
   refine⟨⟨?_,by rw [Bc];exact m1,by rw [Bc];dsimp only;omega,?_⟩,D++ [(q,y)],T,by rw [g2];simp,?_,?_,?_⟩
   ·rw [Bc];simp;intro h0;rw [h0] at rf;simp at rf
   ·rw [Dg];simp;intro h0;rw [h0] at qC;simp at qC
   ·rw [Bc,Dg,nV,g3]
    simp [expand]
   ·rw [Dg,e2];exact fI _ _ rfl
   ·simp only [af6] at g5;omega
 exact⟨fun l rest hc iS hr=>⟨fun h=>by omega,fun _=>(canon l rest hc iS hr).2⟩,fun l rest hc iS hr=>(canon l rest hc iS hr).1⟩
def DK (form n:Int) (cur X:List Int) (size:Int):Prop:=
 (size=0 /\ X= [] \/ 0 < size /\ size<=cur.length /\ (X.length:Int)=n /\ dX X) /\
 ∀l rest,(form=0 \/ form=1 \/ form=2)->cur=bd form l++rest->(l.length:Int)=n->dX l->X=l /\ size=((bd form l).length:Int)
theorem DK.none {form n:Int} {cur:List Int} (h: ∀l rest,(form=0 \/ form=1 \/ form=2)->cur=bd form l++rest->(l.length:Int)=n->dX l->False):DK form n cur [] 0:=
 ⟨.inl ⟨rfl,rfl⟩,fun l rest hf hc iS hr=>(h l rest hf hc iS hr).elim⟩
section
variable {S:List Nat} {w0 w:World} {ae:List aa}
set_option maxHeartbeats 4000000 in
theorem AT (h:Hp S w0 w ae) (j:Nat) {u:aa} {b:Sl} {cur:List Int} {form n:Int} (hj:(ae[j]?).map aa.holds=some u.holds) (hu:Hp.Reads u b 1 eC cur) (hb:Bytes cur) (hl:cur.length<=9000000000000000) (dF:b.len<=b.cap)
  (hf0:0<=form) (xz:0 < n) (tU:n<=100000) {K:Sl->Int->World->Prop}
  (hK: ∀s X size w',DK form n cur X size->Hp S w0 w' (ae++ [aj s 2 1 iv X])->K s size w'):NZ b n form w K:=by
 refine KB ?_
 unfold f156
 obtain⟨inf,q1,q2,q3,q4⟩:=jC
 have qB:=h.df j hj hu
 have pn:Hp.Reads u.ro b 1 eC cur:=⟨hu.rd⟩
 have none_:(∀l rest,(form=0 \/ form=1 \/ form=2)->cur=bd form l++rest->(l.length:Int)=n->dX l->False)-> ∀{w':World},Fr [] w w'->K ⟨none,0,0⟩ 0 w':=fun hn w' hf=>hK _ _ _ _ (DK.none hn) ((h.cB hf).nil 2 1 iv)
 have Qu:IntKind.u64.wrap n=n:=by rw [kH];omega
 rw [Qu]
 refine⟨fun at_ runs w'=>w'=w /\ 0<=at_ /\ at_<=cur.length /\ 0<=runs /\ runs<=n /\ (form≠2->runs=0) /\ Told form n cur [] 0 runs (cur.drop at_.toNat),?_,?_⟩
 ·by_cases iH:form=2
  ·subst iH
   refine aE (by simp) ?_
   obtain⟨r0,r1,r2,r3,r4,r5⟩:=bz hb
   obtain⟨t1,t2⟩:=Told.head (cur:=cur) tU
   refine k7 h j hj hu hb hl ?_
   by_cases ff:(ax cur).2=0 \/ n < (ax cur).1
   ·refine aE (by rcases ff with g | g <;> simp [g]) (none_ ?_ (Fr.refl _ _))
    intro l rest _ hc iS hr
    have:=t2 l rest hc iS hr
    omega
   ·simp only [not_or] at ff
    refine aF (by simp [ff.1];omega) ⟨rfl,by omega,by omega,by omega,by omega,by omega,t1⟩
  ·refine aF (by simpa using iH) ⟨rfl,by omega,by omega,by omega,by omega,fun _=>rfl,?_⟩
   by_cases hf:form=0 \/ form=1
   ·exact Told.start hf
   ·exact fun l rest _ _ _=>⟨fun h=>absurd h hf,fun h=>absurd h iH⟩
 rintro at0 aaV w1 ⟨rfl,a0,a1,b0,b1,c0,t0⟩
 have h1:=(h.IY hj).nil 2 1 iv
 simp only [af3,aga] at h1
 refine⟨fun l at_ last runs m w'=> ∃X,0<=at_ /\ at_<=cur.length /\ (X≠ []->0 < at_) /\ dX X /\ (X.length:Int)<=n /\ 0<=runs /\ runs<=n /\ (form≠2->runs=0) /\ Told form n cur X last runs (cur.drop at_.toNat) /\ m=n.toNat - X.length /\ Hp [] w1 w' [u.ro,aj l 2 1 iv X],
  ⟨n.toNat,[],a0,a1,fun h=>absurd rfl h,(by intro x hx;cases hx),by simp;omega,b0,b1,c0,t0,rfl,h1⟩,?_⟩
 clear a0 a1 b0 b1 c0 t0 h1
 rintro l at_ last runs m w2 ⟨X,a0,a1,a2,hX,HG,b0,b1,c0,t0,rfl,h1⟩
 have nH:=h1.len (s:=l) 1 rfl
 have lr:Bytes (cur.drop at_.toNat):=lV hb _
 have aaW:(cur.drop at_.toNat).length=cur.length - at_.toNat:=af4
 by_cases RA:(X.length:Int) < n /\ (form < 2 \/ 0 < runs)
 ·obtain⟨g1,g2⟩:=RA
  refine aE ?_ ?_
  ·have:decide ((l.len:Int) < n)=true:=by simp;omega
   rw [this]
   rcases g2 with g | g <;> simp [g]
  have eN:form=0 \/ form=1 \/ form=2:=by
   by_cases iH:form=2
   ·exact .inr (.inr iH)
   ·have:=c0 iH;omega
  refine⟨fun tC pT many w'=>w'=w2 /\ at_<=tC /\ tC<=cur.length /\ 0<=pT /\ pT<=n /\ (form≠2->pT=0 /\ many=1 /\ tC=at_) /\ 1<=many /\ X.length+many<=n /\ (form=2->many=(ax (cur.drop at_.toNat)).1 /\ pT=runs - 1 /\ cur.drop tC.toNat=(cur.drop at_.toNat).drop (ax (cur.drop at_.toNat)).2.toNat),?_,?_⟩
  ·by_cases iH:form=2
   ·subst iH
    refine aE (by simp) ?_
    refine Hp.jT (s:=b) pn (by omega) bx a0 (by omega) (by omega) (agr _) (by omega) fun s hs eQ Ff=>?_
    have e1:(cur.take ((b.len:Int)).toNat).drop at_.toNat=cur.drop at_.toNat:=by rw [afE (by omega)]
    rw [e1] at hs
    obtain⟨r0,r1,r2,r3,r4,r5⟩:=bz lr
    obtain⟨t1,t2⟩:=t0.run (by omega) tU 0
    refine k7 h1 0 rfl hs lr (by omega) ?_
    have ew:IntKind.u64.wrap (IntKind.i64.wrap (n - (l.len:Int)))=n - X.length:=by
     rw [aB (by omega) (by omega),kH];omega
    rw [ew]
    by_cases ff:(ax (cur.drop at_.toNat)).2=0 \/ (ax (cur.drop at_.toNat)).1 < 1 \/ n - X.length < (ax (cur.drop at_.toNat)).1
    ·refine aE (by rcases ff with g | g | g <;> simp [g]) (none_ ?_ h1.fr)
     intro l rest _ hc iS hr
     have:=t2 l rest hc iS hr
     omega
    ·simp only [not_or] at ff
     have n1: ¬(ax (cur.drop at_.toNat)).1 < 1:=ff.2.1
     have n2: ¬(ax (cur.drop at_.toNat)).1 > n - X.length:=by omega
     refine aF (by simp only [decide_eq_false n1,decide_eq_false n2];simp [ff.1]) ?_
     have e2:IntKind.i64.wrap (at_+(ax (cur.drop at_.toNat)).2)=at_+(ax (cur.drop at_.toNat)).2:=aB (by omega) (by omega)
     have e3:IntKind.u64.wrap (runs - 1)=runs - 1:=by rw [kH];omega
     rw [e2,e3]
     refine⟨rfl,by omega,by omega,by omega,by omega,by omega,by omega,by omega,fun _=>⟨rfl,rfl,?_⟩⟩
     rw [agk]
     congr 1;omega
   ·exact aF (by simpa using iH) ⟨rfl,by omega,by omega,by omega,by omega,fun _=>⟨c0 iH,rfl,rfl⟩,by omega,by omega,fun h=>absurd h iH⟩
  rintro tC pT many w3 ⟨rfl,d0,d1,e0,e1,f0,m0,m1,k0⟩
  have eU:Bytes (cur.drop tC.toNat):=lV hb _
  have uZ:(cur.drop tC.toNat).length=cur.length - tC.toNat:=af4
  refine Hp.jT (s:=b) pn (by omega) bx (by omega) (by omega) (by omega) (agr _) (by omega) fun s2 jO adC adD=>?_
  have e4:(cur.take ((b.len:Int)).toNat).drop tC.toNat=cur.drop tC.toNat:=by rw [afE (by omega)]
  rw [e4] at jO
  obtain⟨r0,r1,r2,r3,r4,r5⟩:=bz eU
  refine qd h1 0 rfl jO eU (by omega) ?_
  have hz:=rj r0 r1
  unfold fi
  -- what comes next
  obtain⟨y,fF,hy,yZ,gA⟩: ∃y fF:Int,(-9223372036854775808<=y /\ y<=9223372036854775807) /\ y=(if form=1 then IntKind.i64.wrap (lT (ax (cur.drop tC.toNat)).1+last) else lT (ax (cur.drop tC.toNat)).1) /\ fF=(if form=1 then y else last):=by
   by_cases c:form=1
   ·exact⟨_,_,⟨qP _,qQ _⟩,by rw [if_pos c],rfl⟩
   ·exact⟨_,_,hz,by rw [if_neg c],rfl⟩
  have next:Told form n cur (X++List.replicate many.toNat y) fF pT ((cur.drop tC.toNat).drop (ax (cur.drop tC.toNat)).2.toNat) /\ ∀l rest,cur=bd form l++rest->(l.length:Int)=n->dX l->(ax (cur.drop tC.toNat)).2≠0:=by
   by_cases iH:form=2
   ·subst iH
    obtain⟨k1,k2,k3⟩:=k0 rfl
    obtain⟨t1,t2⟩:=t0.run (by omega) tU fF
    rw [<-k3] at t1 t2
    rw [<-k1] at t1
    rw [if_neg (by omega)] at yZ
    rw [yZ,k2]
    exact⟨t1,fun l rest hc iS hr=>(t2 l rest hc iS hr).2.2.2⟩
   ·obtain⟨k1,k2,k3⟩:=f0 iH
    have hf:form=0 \/ form=1:=by omega
    subst k2 k3
    rw [c0 iH] at t0
    rw [k1]
    exact t0.one hf g1 yZ (fun h=>by rw [gA,if_pos h])
  obtain⟨t1,t2⟩:=next
  by_cases Zs:(ax (cur.drop tC.toNat)).2=0
  ·refine aE (by simp [Zs]) (none_ ?_ h1.fr)
   intro l rest _ hc iS hr
   exact t2 l rest hc iS hr Zs
  have yV: ¬form > 2:=by omega
  refine aF (by simp [Zs,yV]) ?_
  refine⟨fun MO x' w'=>MO=fF /\ x'=y /\ w'=w3,?_,?_⟩
  ·by_cases c:form=1
   ·refine aE (by simpa using c) ⟨?_,?_,rfl⟩
    ·rw [gA,if_pos c,yZ,if_pos c]
    ·rw [yZ,if_pos c]
   ·refine aF (by simpa using c) ⟨?_,?_,rfl⟩
    ·rw [gA,if_neg c]
    ·rw [yZ,if_neg c]
  rintro MO x' w4 ⟨rfl,rfl,rfl⟩
  refine⟨fun l2 eE m w'=> ∃k:Nat,eE=many - k /\ (k:Int)<=many /\ m=many.toNat - k /\ Hp [] w1 w' [u.ro,aj l2 2 1 iv (X++List.replicate k x')],⟨many.toNat,0,by omega,by omega,rfl,by simpa using h1⟩,?_⟩
  rintro l2 eE m w5 ⟨k,rfl,hk,rfl,h1⟩
  have yH:=h1.len (s:=l2) 1 rfl
  simp only [afw,agN] at yH
  by_cases ar:(k:Int) < many
  ·refine aE (by simp;omega) ?_
   refine h1.bL (c:= [_]) 1 x' rfl aq Dm q1 q3 q2 rfl rfl (by simp [Value.oneCell']) (by rw [q4];omega) (by omega) fun s3 w6 h1 _ _=>?_
   have e3:IntKind.u64.wrap (many - (k:Int) - 1)=many - ((k+1:Nat):Int):=by rw [kH];omega
   refine⟨many.toNat - (k+1),by omega,k+1,e3,by omega,rfl,?_⟩
   simp only [afN,afZ] at h1
   rw [ahG,<-afA]
   exact h1
  refine aF (by simp;omega) ?_
  have hkm:k=many.toNat:=by omega
  subst hkm
  have e5:IntKind.i64.wrap (tC+(ax (cur.drop tC.toNat)).2)=tC+(ax (cur.drop tC.toNat)).2:=aB (by omega) (by omega)
  rw [e5]
  refine⟨n.toNat - (X.length+many.toNat),by omega,X++List.replicate many.toNat x',by omega,by omega,fun _=>by omega,?_,by simp;omega,by omega,by omega,fun h=>(f0 h).1,?_,by simp,h1⟩
  ·intro z xp
   rcases afB.1 xp with xp | xp
   ·exact hX z xp
   ·rw [(List.mem_replicate.1 xp).2];exact hy
  ·rw [agk] at t1
   have:tC.toNat+(ax (cur.drop tC.toNat)).2.toNat=(tC+(ax (cur.drop tC.toNat)).2).toNat:=by omega
   rw [this] at t1
   exact t1
 ·refine aF ?_ ?_
  ·by_cases g1:(X.length:Int) < n
   ·have: ¬(form < 2 \/ 0 < runs):=fun h=>RA ⟨g1,h⟩
    simp only [not_or] at this
    have n1: ¬runs > 0:=this.2
    rw [decide_eq_false this.1,decide_eq_false n1]
    cases decide ((l.len:Int) < n) <;> simp
   ·have n1: ¬((l.len:Int) < n):=by omega
    rw [decide_eq_false n1];simp
  have fin: ∀l' rest,(form=0 \/ form=1 \/ form=2)->cur=bd form l'++rest->(l'.length:Int)=n->dX l'->X=l' /\ cur.drop at_.toNat=rest /\ runs=0:=by
   intro l' rest hf hc iS hr
   refine t0.done hf ?_ hc iS hr
   by_cases g1:(X.length:Int) < n
   ·have: ¬(form < 2 \/ 0 < runs):=fun h=>RA ⟨g1,h⟩
    exact .inr ⟨by omega,by omega⟩
   ·exact .inl (by omega)
  by_cases qi:(X.length:Int)=n /\ runs=0
  ·refine aF (by simp [qi.2];omega) ?_
   have Zt:X≠ []:=by rintro rfl;simp at qi;omega
   refine hK l X at_ w2 ⟨.inr ⟨a2 Zt,a1,qi.1,hX⟩,?_⟩ (h.r0 rfl (h1.oV 1 rfl))
   intro l' rest hf hc iS hr
   obtain⟨p1,p2,_⟩:=fin l' rest hf hc iS hr
   refine⟨p1,?_⟩
   have e6:=congrArg List.length p2
   have e7:=congrArg List.length hc
   rw [afw] at e7
   omega
  ·refine aE ?_ (none_ ?_ h1.fr)
   ·by_cases g1:(X.length:Int)=n
    ·have:runs≠0:=fun h=>qi ⟨g1,h⟩
     simp [this]
    ·have n1:((l.len:Int) !=n)=true:=by simp;omega
     rw [n1];rfl
   ·intro l' rest hf hc iS hr
    obtain⟨p1,p2,p3⟩:=fin l' rest hf hc iS hr
    exact qi ⟨by rw [p1];exact iS,p3⟩
end
end Go.Proofs.YtcccjgmekakabaaGreat.FP
end

section
namespace Go.Proofs.YtcccjgmekakabaaGreat.FP
open F
open Go Go.Den Go.Proofs
theorem ET {f:Int} {l:List Int} (h:l≠ []):1<=(bd f l).length:=by
 cases l with
 | nil=>exact absurd rfl h
 | cons x r=>
  unfold bd
  split
  ·have:=cM (eI x)
   simp only [bI,age,afw];omega
  ·split
   ·have:=cM (eI (IntKind.i64.wrap (x - 0)))
    simp only [iB,afw];omega
   ·have:=cM ((bY (x :: r)).length:Int)
    simp only [yE,afw];omega
section
variable {S:List Nat} {w0 w:World} {ae:List aa}
set_option maxHeartbeats 2000000 in
theorem qw (h:Hp S w0 w ae) (j:Nat) {u:aa} {b:Sl} {bs:List Int} {aA:Int} (hj:(ae[j]?).map aa.holds=some u.holds) (hu:Hp.Reads u b 1 eC bs) (hb:Bytes bs) (hl:bs.length<=9000000000000000) (dF:b.len<=b.cap) {K:Sl->Int->World->Prop}
  (hK: ∀s X size w',cT bs aA X size->Hp S w0 w' (ae++ [aj s 2 1 iv X])->K s size w'):JA b aA w K:=by
 refine J9 ?_
 unfold f124
 have qB:=h.df j hj hu
 have pn:Hp.Reads u.ro b 1 eC bs:=⟨hu.rd⟩
 obtain⟨r0,r1,r2,r3,r4,r5⟩:=bz hb
 have none_:(∀l,¬Acc bs aA l)-> ∀{w':World},Fr [] w w'->K ⟨none,0,0⟩ 0 w':=fun hn w' hf=>hK _ _ _ _ (Cj hn) ((h.cB hf).nil 2 1 iv)
 refine⟨fun m2 w'=>w'=w /\ m2=(if 100000 < aA then 100000 else aA),?_,?_⟩
 ·by_cases hm:100000 < aA
  ·exact aE (by simpa using hm) ⟨rfl,by rw [if_pos hm]⟩
  ·exact aF (by simpa using hm) ⟨rfl,by rw [if_neg hm]⟩
 rintro m2 w1 ⟨rfl,wE⟩
 refine k7 h j hj hu hb hl ?_
 by_cases ff:(ax bs).2=0 \/ aA < 0 \/ m2 < (ax bs).1
 ·refine aE ?_ (none_ ?_ (Fr.refl _ _))
  ·by_cases g1:(ax bs).2=0
   ·simp [g1]
   ·by_cases g2:m2 < 0
    ·simp [g2]
    ·have g3: ¬aA < 0:=by intro h;rw [if_neg (by omega)] at wE;omega
     have g4:m2 < (ax bs).1:=by
      rcases ff with h | h | h
      ·exact absurd h g1
      ·exact absurd h g3
      ·exact h
     have e:IntKind.u64.wrap m2=m2:=by rw [kH];split at wE <;> omega
     have g5:decide ((ax bs).1 > IntKind.u64.wrap m2)=true:=by rw [e];simpa using g4
     rw [g5];simp
  ·intro l cW
   have h2:=cW.head.1
   obtain⟨a0,a1,a2,_⟩:=cW
   rcases ff with h | h | h
   ·rw [h2] at h
    have:=cM l.length
    dsimp only at h
    omega
   ·omega
   ·rw [h2] at h
    dsimp only at h
    split at wE <;> omega
 simp only [not_or] at ff
 obtain⟨hz,hm,hn⟩:=ff
 have adF:0<=m2:=by split at wE <;> omega
 have Rh:(ax bs).1<=aA /\ (ax bs).1<=100000:=by split at wE <;> omega
 have e1:IntKind.u64.wrap m2=m2:=by rw [kH];split at wE <;> omega
 refine aF ?_ ?_
 ·have n1: ¬m2 < 0:=by omega
  have n2: ¬(ax bs).1 > m2:=by omega
  rw [e1,decide_eq_false n1,decide_eq_false n2];simp [hz]
 have ni:=k8 hb hz
 by_cases xz:(ax bs).1=0
 ·refine aE (by simpa using xz) ?_
  rw [xz] at ni
  have e0:aV 0= [0]:=by decide
  rw [e0] at ni
  have YT:(ax bs).2=1:=by
   have:=congrArg List.length ni
   simp only [af6,agU,afM] at this
   omega
  rw [YT]
  refine hK _ [] 1 _ ⟨fun h=>by omega,fun _=>⟨⟨by omega,by simp;omega,by simp,(by intro x hx;cases hx),bs.drop (ax bs).2.toNat,?_⟩,?_⟩,?_⟩ (h.nil 2 1 iv)
  ·have e1:bS []= [0]:=by decide
   rw [e1,ni,agp]
  ·decide
  ·intro l cW
   have h2:=cW.head.1
   rw [h2] at xz
   have:l= []:=af7 (by dsimp only at xz;omega)
   subst this
   exact⟨rfl,by decide⟩
 refine aF (by simpa using xz) ?_
 have uZ:(bs.drop (ax bs).2.toNat).length=bs.length - (ax bs).2.toNat:=af4
 have EB: ∀l,Acc bs aA l->(l.length:Int)=(ax bs).1 /\ l≠ [] /\ ∃rest,bs=bS l++rest /\ bs.drop (ax bs).2.toNat=gO l++rest:=by
  intro l cW
  obtain⟨g1,rest,g2,g3⟩:=cW.head
  have oM:l≠ []:=by
   rintro rfl
   rw [g1] at xz
   exact xz rfl
  rw [if_neg oM] at g3
  refine⟨by rw [g1],oM,rest,g2,?_⟩
  rw [g1]
  exact g3
 by_cases he:(ax bs).2>=(b.len:Int)
 ·refine aE (by simpa using he) (none_ ?_ (Fr.refl _ _))
  intro l cW
  obtain⟨_,_,rest,_,g⟩:=EB l cW
  have hp:=xx l
  have:=congrArg List.length g
  simp only [afw] at this
  omega
 refine aF (by simpa using he) ?_
 refine h.dr fun w2 h=>?_
 obtain⟨form,cur,rq⟩: ∃form cur,bs.drop (ax bs).2.toNat=form :: cur:=by
  cases hc:bs.drop (ax bs).2.toNat with
  | nil=>rw [hc] at uZ;simp at uZ;omega
  | cons x y=>exact⟨x,y,rfl⟩
 have DD:=congrArg List.length rq
 simp only [af6] at DD
 have yW:Bytes (form :: cur):=by rw [<-rq];exact lV hb _
 have hf:=yW form (by simp)
 have TD:IntKind.i64.wrap ((ax bs).2+1)=(ax bs).2+1:=aB (by omega) (by omega)
 rw [TD]
 refine Hp.jT (s:=b) hu (by omega) bx (by omega) (by omega) (by omega) (agr _) (by omega) fun s hs eQ Ff=>?_
 have e3:(bs.take ((b.len:Int)).toNat).drop ((ax bs).2+1).toNat=cur:=by
  rw [afE (by omega),show ((ax bs).2+1).toNat=(ax bs).2.toNat+1 by omega,<-agk,rq];rfl
 rw [e3] at hs
 have gz:bs[(ax bs).2.toNat]? =some form:=by
  have:=congrArg (fun l=>l[0]?) rq
  simpa using this
 refine h.dd (k:=.i .u8) (u:=u) (y:=form) (x:=form) j hj hu (by omega) gz bx rfl ?_
 have Qu:IntKind.i64.wrap (ax bs).1=(ax bs).1:=aB (by omega) (by omega)
 rw [Qu]
 have Iu:(∀l,¬Acc bs aA l)-> ∀{w':World},Fr [] w2 w'->K ⟨none,0,0⟩ 0 w':=fun hn w' hf=>hK _ _ _ _ (Cj hn) ((h.cB hf).nil 2 1 iv)
 refine AT (h.IY hj) 0 (u:=u.ro) rfl ⟨hs.rd⟩ (fun x hx=>yW x (by simp [hx])) (by omega) (by omega) hf.1 (by omega) (by omega) fun o X size w3 Zu h1=>?_
 simp only [af3,aga] at h1
 obtain⟨hd1,YV⟩:=Zu
 -- what a canonical text was read as
 have At: ∀l,Acc bs aA l->X=l /\ form :: cur=gO l++cur.drop size.toNat /\ size≠0:=by
  intro l cW
  obtain⟨g0,g1,rest,g2,g3⟩:=EB l cW
  obtain⟨f,wK,VI⟩:=o8 l
  rw [rq,VI] at g3
  injection g3 with g4 g5
  subst g4
  obtain⟨e1,e2⟩:=YV l rest wK g5 g0 cW.2.2.2.1
  have hp:=ET (f:=form) g1
  refine⟨e1,?_,by omega⟩
  rw [VI,e2,afu,af3]
  congr 1
  rw [g5]
  show bd form l++rest=bd form l++List.drop (bd form l).length (bd form l++rest)
  rw [ahJ]
 by_cases qH:size=0
 ·refine aE (by simpa using qH) (Iu ?_ h1.fr)
  intro l cW
  exact(At l cW).2.2 qH
 refine aF (by simpa using qH) ?_
 have Zv:0 < size /\ size<=cur.length /\ (X.length:Int)=(ax bs).1 /\ dX X:=hd1.elim (fun g=>absurd g.1 qH) id
 obtain⟨p1,p2,p3,p4⟩:=Zv
 refine oB h1 1 rfl Hp.bX p4 (by omega) fun o2 w4 h1=>?_
 simp only [af3,aga] at h1
 refine h1.dr fun w5 h1=>?_
 refine h1.Ef 2 rfl Hp.bX _ (fN (nh X)) ?_
 have ewe:IntKind.i64.wrap ((ax bs).2+1+size)=(ax bs).2+1+size:=aB (by omega) (by omega)
 rw [ewe]
 refine Hp.jT (s:=b) pn (by omega) bx (by omega) (by omega) (by omega) (by omega) (by omega) fun s4 A9 _ _=>?_
 have wC:(bs.take ((ax bs).2+1+size).toNat).drop (ax bs).2.toNat=form :: cur.take size.toNat:=by
  rw [List.drop_take,rq,show ((ax bs).2+1+size).toNat - (ax bs).2.toNat=size.toNat+1 by omega,ah4]
 rw [wC] at A9
 have yx:Bytes (form :: cur.take size.toNat):=by rw [<-ah4];exact uV yW _
 refine h1.Ef 0 (u:=u.ro) rfl A9 _ (fN yx) ?_
 rw [yy,fN (nh X),fN yx]
 by_cases heq:gO X=form :: cur.take size.toNat
 ·refine aF (by simpa using heq) ?_
  have Zt:X≠ []:=by rintro rfl;simp at p3;omega
  have ei:bS X=bs.take ((ax bs).2+1+size).toNat:=by
   unfold bS
   rw [if_neg Zt,heq,p3,ni]
   conv=>rhs;rw [<-agp (ax bs).2.toNat (bs.take ((ax bs).2+1+size).toNat),wC,ah7,ahe (by omega)]
  have hlen:(ax bs).2+1+size=((bS X).length:Int):=by
   rw [ei,afM];omega
  have kx:=Ar X
  refine hK o X _ w5 ⟨fun h=>by omega,fun _=>⟨⟨by omega,by omega,by omega,p4,bs.drop ((ax bs).2+1+size).toNat,?_⟩,hlen⟩,?_⟩ (h.r0 rfl (h1.oV 1 rfl))
  ·rw [ei,agp]
  ·intro l cW
   obtain⟨g,_,_⟩:=At l cW
   rw [<-g];exact⟨rfl,hlen⟩
 ·refine aE (by simpa using heq) (Iu ?_ h1.fr)
  intro l cW
  obtain⟨g,g2,_⟩:=At l cW
  apply heq
  rw [g]
  have e5:(form :: cur.take size.toNat)++cur.drop size.toNat=gO l++cur.drop size.toNat:=by
   rw [<-g2,af3,agp]
  exact(List.append_cancel_right e5).symm
end
end Go.Proofs.YtcccjgmekakabaaGreat.FP
end

section
namespace Go.Proofs.YtcccjgmekakabaaGreat.FI
open F
open Go Go.Den Go.Proofs
section
variable {S:List Nat} {w0 w:World} {ae:List aa}
set_option maxHeartbeats 4000000 in
theorem LG (h:Hp S w0 w ae) (i j:Nat) {aA:Int} {g f:Sl} {u v:aa} {ah free:List Int} (hi:(ae[i]?).map aa.holds=some u.holds) (hj:(ae[j]?).map aa.holds=some v.holds) (hu:Hp.Reads u g 1 iv ah) (hv:Hp.Reads v f 1 iv free) (ee:free.length<=1000000000) {K:Option Addr->Int->World->Prop}
  (hN: ∀w',cS aA ah free=none->Hp S w0 w' ae->K none 1 w')
  (hK: ∀m b w',cS aA ah free=some m->Hp S w0 w' (ae++ [ay 177 b m])->K (some ⟨b,0,none⟩) 0 w'):NC aA g f w K:=by
 refine Kb ?_
 unfold f126
 have sB:=h.df i hi hu
 have adI:=h.df j hj hv
 by_cases mZ:aA < 1 \/ 200 < aA
 ·refine Ii mZ ?_
  refine aE (by simp) ?_
  refine hN w ?_ h
  unfold cS
  rw [if_pos (by omega)]
 have h1:=h.X4 hi hj
 have pn:Hp.Reads u.ro g 1 iv ah:=⟨hu.rd⟩
 have No:Hp.Reads v.ro f 1 iv free:=⟨hv.rd⟩
 refine QU h1 (by omega) (by omega) fun b w1 h1=>?_
 have bad: ∀{w':World},cS aA ah free=none->Fr [] w w'->K none 1 w':=fun hn hf=>hN _ hn (h.cB hf)
 by_cases hlm:(ah.length:Int) > aA
 ·refine aE (by simp;omega) ?_
  refine bad ?_ h1.fr
  unfold cS
  rw [if_pos (by omega)]
 refine aF (by simp;omega) ?_
 obtain⟨inf,q1,q2,q3,q4⟩:=lN
 obtain⟨Hr,r1,r2,r3,r4⟩:=B1
 refine⟨fun t mm w'=> ∃k:Nat,t=k /\ k<=ah.length /\ mm=ah.length - k /\ (∀x∈ah.take k,1<=x /\ x<=1000001) /\ Hp [] w w' [u.ro,v.ro,ay 177 b ⟨aA,(ah.take k).map qc,(ah.take k).map Ll,[]⟩],⟨ah.length,0,rfl,by omega,rfl,by simp,h1⟩,?_⟩
 rintro t mm w2 ⟨k,rfl,hk,rfl,bF,h1⟩
 by_cases ar:k < ah.length
 ·refine aE (by simp;omega) ?_
  have ga:ah[((k:Int)).toNat]? =some ah[k]:=by simp [ar]
  have ff:(ah[k] < 1 \/ ah[k] > 1000001)->cS aA ah free=none:=by
   intro hb
   unfold cS
   rw [if_pos]
   refine .inr (.inr (.inr fun h=>?_))
   have:=h ah[k] (afR ar)
   omega
  refine⟨fun w'=>w'=w2 /\ 1<=ah[k] /\ ah[k]<=1000001,?_,?_⟩
  ·refine h1.dd (k:=.i .i64) (u:=u.ro) (x:=ah[k]) 0 rfl pn (by omega) ga aq rfl ?_
   by_cases c1:ah[k] < 1
   ·exact aE (by simpa using c1) (bad (ff (.inl c1)) h1.fr)
   refine aF (by simpa using c1) ?_
   refine h1.dd (k:=.i .i64) (u:=u.ro) (x:=ah[k]) 0 rfl pn (by omega) ga aq rfl ?_
   by_cases c2:ah[k] > 1000001
   ·exact aE (by simpa using c2) (bad (ff (.inr c2)) h1.fr)
   exact aF (by simpa using c2) ⟨rfl,by omega,by omega⟩
  ·rintro w3 ⟨rfl,c1,c2⟩
   refine h1.dd (k:=.i .i64) (u:=u.ro) (x:=ah[k]) 0 rfl pn (by omega) ga aq rfl ?_
   refine⟨fun g2 w'=>w'=w3 /\ g2=qc ah[k],?_,?_⟩
   ·unfold qc
    split <;> rename_i hc
    ·rw [if_pos (by simpa using hc)];exact⟨rfl,rfl⟩
    ·rw [if_neg (by simpa using hc)];exact⟨rfl,rfl⟩
   ·rintro g2 w4 ⟨rfl,rfl⟩
    obtain⟨sg,sa,sf,h1⟩:=nR h1 (i:=2) rfl
    simp only [af3,aga,afN,afZ] at h1
    have RL:=h1.len 3 rfl
    have hsa:=h1.len 4 rfl
    simp only [afP,afM] at RL hsa
    refine bg ?_
    refine h1.ld (x:=sg) 2 rfl rfl ?_
    refine h1.bL (c:= [_]) 3 (qc ah[k]) rfl aq dR q1 q3 q2 rfl rfl (by simp [iv,Value.oneCell']) (by rw [q4];omega) (by omega) fun s2 w1 h1 jO _=>?_
    refine bg ?_
    refine h1.st 2 rfl (by simp) rfl fun w1 h1=>?_
    refine h1.dr fun w1 h1=>?_
    refine bg ?_
    refine h1.ld (x:=sa) 2 rfl rfl ?_
    refine h1.dd (k:=.i .i64) (u:=u.ro) (x:=ah[k]) 0 rfl pn (by omega) ga aq rfl ?_
    refine h1.bL (c:= [_]) 4 (Ll ah[k]) rfl lP ox r1 r3 r2 rfl rfl (by simp [bv,Value.oneCell']) (by rw [r4];omega) (by omega) fun s3 w1 h1 I1 _=>?_
    refine bg ?_
    refine h1.st 2 rfl (by simp) rfl fun w1 h1=>?_
    simp only [af3,aga,afN,afZ] at h1
    have cX:ah.take (k+1)=ah.take k++ [ah[k]]:=by rw [afG ar]
    refine⟨ah.length - (k+1),by omega,k+1,by rw [aB (by omega) (by omega)];omega,by omega,rfl,?_,?_⟩
    ·intro x hx
     rw [cX] at hx
     rcases afB.1 hx with hx | hx
     ·exact bF x hx
     ·simp only [afF] at hx;subst hx;omega
    ·rw [cX,agh,agh]
     have h2:=fg (m:=⟨aA,(ah.take k).map qc++ [ah[k]].map qc,(ah.take k).map Ll++ [ah[k]].map Ll,[]⟩) (rest:= [u.ro,v.ro]) (h1.KJ 2 3 4 5 0 1 (by decide) rfl rfl rfl rfl rfl rfl)
     exact h2.KI 1 2 0 (by decide) rfl rfl rfl
 refine aF (by simp;omega) ?_
 obtain rfl:k=ah.length:=by omega
 rw [agJ] at bF h1
 have B6:cS aA ah free=dW ah free ⟨aA,ah.map qc,ah.map Ll,[]⟩:=by
  unfold cS
  rw [if_neg]
  ·rfl
  rintro(h | h | h | h)
  ·omega
  ·omega
  ·omega
  ·exact h bF
 rw [B6] at hK bad
 refine⟨fun t mm w'=> ∃(k:Nat) (m:af),t=k /\ k<=free.length /\ mm=free.length - k /\ I2 aA ah m /\ m.free.length=k /\
   dW ah free ⟨aA,ah.map qc,ah.map Ll,[]⟩=dW ah (free.drop k) m /\ Hp [] w w' [u.ro,v.ro,ay 177 b m],⟨free.length,0,_,rfl,by omega,rfl,I2.init aA ah,rfl,rfl,h1⟩,?_⟩
 rintro t mm w3 ⟨k,m,rfl,hk,rfl,hI,Vy,p9,h1⟩
 by_cases ar:k < free.length
 ·refine aE (by simp;omega) ?_
  have xi:free.drop k=free[k] :: free.drop (k+1):=agf ar
  refine h1.dd (k:=.i .i64) (u:=v.ro) (x:=free[k]) 1 rfl No (by omega) (by simp [ar]) aq rfl ?_
  generalize free[k]=x at xi ⊢
  have none_:(x < 0 \/ x>=ah.length \/ m.alive.getD x.toNat false=false \/ ah.getD x.toNat 0>=1000000)-> ∀{w':World},Fr [] w w'->K none 1 w':=by
   intro h w' hf
   refine bad ?_ hf
   rw [p9,xi,dW,if_pos h]
  refine⟨fun w'=>w'=w3 /\ 0<=x /\ x < ah.length /\ ah.getD x.toNat 0 < 1000000,?_,?_⟩
  ·by_cases c1:x < 0
   ·exact aE (by simpa using c1) (none_ (.inl c1) h1.fr)
   refine aF (by simpa using c1) ?_
   by_cases c2:x>=ah.length
   ·exact aE (by simp;omega) (none_ (.inr (.inl c2)) h1.fr)
   refine aF (by simp;omega) ?_
   have c5:x.toNat < ah.length:=by omega
   refine h1.dd (k:=.i .i64) (u:=u.ro) (y:=ah.getD x.toNat 0) (x:=ah.getD x.toNat 0) 0 rfl pn (by omega) (by simp [c5]) aq rfl ?_
   by_cases c6:ah.getD x.toNat 0>=1000000
   ·exact aE (by simpa using c6) (none_ (.inr (.inr (.inr c6))) h1.fr)
   ·exact aF (by simpa using c6) ⟨rfl,by omega,by omega,by omega⟩
  ·rintro w4 ⟨rfl,x0,x1,x2⟩
   refine DE h1 2 (by omega) rfl ?_
   by_cases uR:x∈m.free
   ·refine aE (by simpa using uR) ?_
    exact none_ (.inr (.inr (.inl (hI.free x uR).2.2.1))) h1.fr
   ·refine aF (by simpa using uR) ?_
    have fY: ¬(x < 0 \/ x>=ah.length \/ m.alive.getD x.toNat false=false \/ ah.getD x.toNat 0>=1000000):=by
     rintro(h | h | h | h)
     ·omega
     ·omega
     ·exact uR (hI.dead x x0 x1 h x2)
     ·omega
    have Fh:=hI.len
    obtain⟨sg,sa,sf,h1⟩:=nR h1 (i:=2) rfl
    simp only [af3,aga,afN,afZ] at h1
    have hsf:=h1.len 5 rfl
    refine bg ?_
    refine h1.ld (x:=sa) 2 rfl rfl ?_
    refine h1.mL 4 rfl x0 (by omega) lP (y:=false) rfl rfl fun w1 h1=>?_
    refine bg ?_
    refine h1.ld (x:=sf) 2 rfl rfl ?_
    refine h1.bL (c:= [_]) 5 x rfl aq dR q1 q3 q2 rfl rfl (by simp [iv,Value.oneCell']) (by rw [q4];omega) (by omega) fun s2 w1 h1 jO _=>?_
    refine bg ?_
    refine h1.st 2 rfl (by simp) rfl fun w1 h1=>?_
    simp only [af3,aga,afN,afZ] at h1
    have h2:=fg (m:={ m with alive:=m.alive.set x.toNat false,free:=m.free++ [x]}) (rest:= [u.ro,v.ro]) (h1.KJ 2 3 4 5 0 1 (by decide) rfl rfl rfl rfl rfl rfl)
    refine⟨free.length - (k+1),by omega,k+1,_,by rw [aB (by omega) (by omega)];omega,by omega,rfl,hI.step fY,?_,?_,h2.KI 1 2 0 (by decide) rfl rfl rfl⟩
    ·show (m.free++ [x]).length=_
     simp [Vy]
    ·rw [p9,xi,dW,if_neg fY]
 ·refine aF (by simp;omega) ?_
  obtain rfl:k=free.length:=by omega
  rw [ahN,dW] at p9
  exact hK m b _ p9 (h.r0 rfl (h1.oV 2 rfl))
end
end Go.Proofs.YtcccjgmekakabaaGreat.FI
end

section
namespace Go.Proofs.YtcccjgmekakabaaGreat.FW
open F
open Go Go.Den Go.Proofs
open FI (af ay cS)
open FT (az di bM cc dz aP gm bD iv aq)
open FP (dX tB aV eI bS bI aT cw cT Acc ax fi)
section
variable {S:List Nat} {w0 w:World} {ae:List aa}
theorem rI (h:Hp S w0 w ae) (j:Nat) {u:aa} {s:Sl} {X:List Int} (hj:(ae[j]?).map aa.holds=some u.holds) (hu:Hp.Reads u s 1 iv X) (hl:X.length<=1000000000) {K:Sl->Bool->World->Prop}
  (mY:(∀x∈X,0<=x /\ x<=1000001)-> ∀r w',Hp S w0 w' (ae++ [aj r 3 1 iv X])->K r true w') (da: ¬(∀x∈X,0<=x /\ x<=1000001)-> ∀w',Hp S w0 w' ae->K ⟨none,0,0⟩ false w'):JB s w K:=by
 refine Ka ?_
 unfold f125
 obtain⟨inf,q1,q2,q3,q4⟩:=FT.lN
 have eQ:=h.df j hj hu
 have I0: ∀{t:aa},((ae++ [t])[j]?).map aa.holds=some u.holds:=fun{t}=>by
  have ar:j < ae.length:=by
   rcases ahY j ae.length with h | h
   ·exact h
   ·rw [af0 h] at hj;cases hj
  rw [afx ar];exact hj
 have h:=h.nil 3 1 iv
 refine⟨fun out t mm w'=> ∃k:Nat,t=k /\ k<=X.length /\ mm=X.length - k /\ (∀x∈X.take k,0<=x /\ x<=1000001) /\ Hp S w0 w' (ae++ [aj out 3 1 iv (X.take k)]),⟨X.length,0,rfl,by omega,rfl,by simp,h⟩,?_⟩
 clear h
 rintro out t mm w2 ⟨k,rfl,hk,rfl,bF,h⟩
 have kA:=h.len (s:=out) (e:=3) (n:=1) (f:=iv) (l:=X.take k) ae.length (by rw [afU];rfl)
 rw [afM] at kA
 by_cases ar:k < X.length
 ·refine aE (by simp;omega) ?_
  have hx:X[k]? =some X[k]:=by simp [ar]
  have jU:X[k]∈X:=afR ar
  have cX:X.take (k+1)=X.take k++ [X[k]]:=afG ar
  generalize X[k]=x at hx jU cX
  refine⟨fun w'=>(0<=x /\ x<=1000001) /\ Hp S w0 w' (ae++ [aj out 3 1 iv (X.take k)]),?_,?_⟩
  ·refine h.dd (k:=.i .i64) (u:=u) (y:=x) (x:=x) j I0 hu (by omega) (by rw [afu];exact hx) aq rfl ?_
   by_cases h0:x < 0
   ·exact aE (by simpa using h0) (da (fun hh=>by have:=hh x jU;omega) w2 h.front)
   ·refine aF (by simpa using h0) ?_
    refine h.dd (k:=.i .i64) (u:=u) (y:=x) (x:=x) j I0 hu (by omega) (by rw [afu];exact hx) aq rfl ?_
    by_cases h1:x > 1000001
    ·exact aE (by simpa using h1) (da (fun hh=>by have:=hh x jU;omega) w2 h.front)
    ·exact aF (by simpa using h1) ⟨⟨by omega,by omega⟩,h⟩
  clear h
  rintro w3 ⟨fY,h⟩
  refine h.dd (k:=.i .i64) (u:=u) (y:=x) (x:=x) j I0 hu (by omega) (by rw [afu];exact hx) aq rfl ?_
  refine h.bL ae.length x (c:= [_]) afU aq AI q1 q3 q2 rfl rfl (by simp [iv,Value.oneCell']) (by rw [q4];omega) (by omega) fun bH w4 h _ _=>?_
  rw [ch,<-cX] at h
  refine⟨X.length - (k+1),by omega,k+1,by rw [aB (by omega) (by omega)];omega,by omega,rfl,fun y hy=>?_,h⟩
  rw [cX] at hy
  rcases afB.1 hy with hy | hy
  ·exact bF y hy
  ·simp only [afF] at hy
   subst hy;exact fY
 ·refine aF (by simp;omega) ?_
  rw [afE (by omega)] at h bF
  exact mY bF out w2 h
theorem cT.size {bs X:List Int} {aA size:Int} (hR:cT bs aA X size):0<=size /\ size<=bs.length:=by
 by_cases h0:size=0
 ·omega
 ·obtain⟨hA,he⟩:=hR.2.1 h0
  obtain⟨_,_,_,_,rest,hr⟩:=hA
  have:=congrArg List.length hr
  rw [afw] at this
  omega
theorem cT.few {bs X:List Int} {size:Int} (hR:cT bs 200 X size):X.length<=200:=by
 by_cases h0:size=0
 ·rw [hR.1 h0];simp
 ·have:=(hR.2.1 h0).1.2.1;omega
theorem rJ {bs X:List Int} {size:Int} (hR:cT bs 200 X size) (h0:size≠0) (hx: ∀x∈X,0<=x /\ x<=1000001):lZ bs=some (X,bs.drop size.toNat):=by
 unfold lZ
 rw [yK hR,if_neg]
 rintro(h | h)
 ·exact h0 h
 ·exact h hx
theorem rK {bs X:List Int} {size:Int} (hR:cT bs 200 X size) (h:size=0 \/ ¬ ∀x∈X,0<=x /\ x<=1000001):lZ bs=none:=by
 unfold lZ
 rw [yK hR,if_pos h]
def sJ (ks:KD) (m:af):WA:=⟨ks,m,fun e=>if m.is e.1 e.2=true then some (List.replicate ks.length none) else none⟩
theorem Iv (n:Nat):flat (List.replicate n none)= []:=by
 unfold flat
 rw [ahx]
 induction n with
 | zero=>rfl
 | succ n ih=>rw [agO,List.flatten_cons,ih];rfl
theorem pg (n:Nat): ∀k,aY (List.replicate n none) k= []
 | 0=>rfl
 | k+1=>by
  rw [aY,pg n k]
  have:(List.replicate n (none:Option (List Int))).getD k none=none:=by
   rw [afO,ahd]
   split <;> rfl
  rw [this];rfl
theorem CC {ks:KD} (hm:cC ks) {m:af} (h2:m.Hl) (mZ:m.aA=200):(sJ ks m).fits:=by
 refine⟨⟨h2,mZ,hm,fun e=>?_,fun e p hp=>?_⟩,fun e p hp=>?_⟩
 ·show (if m.is e.1 e.2=true then some (List.replicate ks.length none) else none:Option PL).isSome=m.is e.1 e.2
  cases m.is e.1 e.2 <;> rfl
 ·have hp:(if m.is e.1 e.2=true then some (List.replicate ks.length none) else none:Option PL)=some p:=hp
  split at hp
  ·rw [<-afK hp,Iv]
   intro x hx;cases hx
  ·cases hp
 ·have hp:(if m.is e.1 e.2=true then some (List.replicate ks.length none) else none:Option PL)=some p:=hp
  split at hp
  ·rw [<-afK hp]
   refine⟨by simp [sJ],fun i v k h1 _=>?_⟩
   rw [ahd] at h1
   split at h1 <;> cases h1
  ·cases hp
theorem vv {ks:KD} {m:af} (hm:m.Ok):(sJ ks m).rows=(m.eA m.ah.length).map fun e=>(e,[]):=by
 unfold WA.rows WA.all
 refine ahu fun e he=>?_
 have vW:m.is e.1 e.2=true:=(vo hm).1 he
 unfold WA.k9
 have:(sJ ks m).row e=some (List.replicate ks.length none):=by
  show (if m.is e.1 e.2=true then some (List.replicate ks.length none) else none:Option PL)=_
  rw [if_pos vW]
 rw [this]
 show (e,aY (List.replicate ks.length none) _)=_
 rw [pg]
end
end Go.Proofs.YtcccjgmekakabaaGreat.FW
end

section
namespace Go.Proofs.YtcccjgmekakabaaGreat.FW
open F
open Go Go.Den Go.Proofs
open FI (af)
open FT (bM)
section
variable {α:Type} (k:α->Int)
def rL (l:List α):Prop:=l.Pairwise fun a b=>k a < k b
def jV (l:List α) (x:α):List α:=l.takeWhile (fun y=>decide (k y < k x))++x :: l.dropWhile (fun y=>decide (k y < k x))
variable {k}
theorem tD: ∀{l m:List α},rL k l->rL k m->(∀x,x∈l↔x∈m)->l=m
 | [],[],_,_,_=>rfl
 | [],b :: m,_,_,h=>absurd ((h b).2 (by simp)) (by simp)
 | a :: l,[],_,_,h=>absurd ((h a).1 (by simp)) (by simp)
 | a :: l,b :: m,hl,hm,h=>by
  obtain⟨h1,h2⟩:=ahA.1 hl
  obtain⟨h3,h4⟩:=ahA.1 hm
  have hab:a=b:=by
   have ha:=(h a).1 (by simp)
   have hb:=(h b).2 (by simp)
   rcases af1.1 ha with ha | ha
   ·exact ha
   ·rcases af1.1 hb with hb | hb
    ·exact hb.symm
    ·have:=h1 b hb;have:=h3 a ha;omega
  subst hab
  congr 1
  refine tD h2 h4 fun x=>⟨fun hx=>?_,fun hx=>?_⟩
  ·rcases af1.1 ((h x).1 (by simp [hx])) with e | e
   ·subst e;have:=h1 x hx;omega
   ·exact e
  ·rcases af1.1 ((h x).2 (by simp [hx])) with e | e
   ·subst e;have:=h3 x hx;omega
   ·exact e
theorem vw {l:List α} {x y:α}:y∈jV k l x↔y=x \/ y∈l:=by
 unfold jV
 have e: ∀y,y∈l↔y∈l.takeWhile (fun y=>decide (k y < k x)) \/ y∈l.dropWhile (fun y=>decide (k y < k x)):=fun y=>by
  rw [<-afB,List.takeWhile_append_dropWhile]
 rw [afB,af1,e]
 constructor
 ·rintro(h | h | h)
  ·exact .inr (.inl h)
  ·exact .inl h
  ·exact .inr (.inr h)
 ·rintro(h | h | h)
  ·exact .inr (.inl h)
  ·exact .inl h
  ·exact .inr (.inr h)
theorem xO {l:List α} {x:α} (h:rL k l) (hn: ∀y∈l,k y≠k x):rL k (jV k l x):=by
 induction l with
 | nil=>simp [rL,jV]
 | cons a l ih=>
  obtain⟨h1,h2⟩:=ahA.1 h
  by_cases ha:k a < k x
  ·have e:jV k (a :: l) x=a :: jV k l x:=by unfold jV;simp [ha]
   rw [e]
   refine ahA.2 ⟨fun y hy=>?_,ih h2 fun y hy=>hn y (by simp [hy])⟩
   rcases vw.1 hy with rfl | hy
   ·exact ha
   ·exact h1 y hy
  ·have e:jV k (a :: l) x=x :: a :: l:=by unfold jV;simp [ha]
   rw [e]
   have:=hn a (by simp)
   refine ahA.2 ⟨fun y hy=>?_,h⟩
   rcases af1.1 hy with rfl | hy
   ·omega
   ·have:=h1 y hy;omega
theorem CD {l:List α} (h:rL k l) (q:Nat):rL k (l.eraseIdx q):=List.Pairwise.sublist (ah0 l q) h
theorem mem_erase {l:List α} (h:rL k l) {q:Nat} {x:α} (hq:l[q]? =some x) (y:α):y∈l.eraseIdx q↔y∈l /\ y≠x:=by
 induction l generalizing q with
 | nil=>simp at hq
 | cons a l ih=>
  obtain⟨h1,h2⟩:=ahA.1 h
  cases q with
  | zero=>
   simp only [afJ,afy] at hq
   subst hq
   simp only [List.eraseIdx_cons_zero,af1]
   constructor
   ·intro hy
    refine⟨.inr hy,fun e=>?_⟩
    subst e
    have:=h1 y hy;omega
   ·rintro⟨h | h,aR⟩
    ·exact absurd h aR
    ·exact h
  | succ q=>
   simp only [af8] at hq
   have kS:=afz hq
   simp only [ahP,af1,ih h2 hq]
   constructor
   ·rintro(rfl | ⟨h,aR⟩)
    ·exact⟨.inl rfl,fun e=>by subst e;have:=h1 _ kS;omega⟩
    ·exact⟨.inr h,aR⟩
   ·rintro⟨h | h,aR⟩
    ·exact .inl h
    ·exact .inr ⟨h,aR⟩
end
theorem sK (p:PL): ∀k,rL (·.1) (aY p k) /\ ∀y∈aY p k,y.1<=k
 | 0=>by simp [aY,rL]
 | k+1=>by
  obtain⟨h1,h2⟩:=sK p k
  rw [aY]
  split
  ·refine⟨List.pairwise_append.2 ⟨h1,by simp,fun x hx y hy=>?_⟩,fun y hy=>?_⟩
   ·simp only [afF] at hy
    subst hy
    have:=h2 x hx
    show x.1 < ((k+1:Nat):Int)
    omega
   ·rcases afB.1 hy with hy | hy
    ·have:=h2 y hy;omega
    ·simp only [afF] at hy
     subst hy;exact agr _
  ·rw [afH]
   exact⟨h1,fun y hy=>by have:=h2 y hy;omega⟩
theorem vx (p:PL):rL (·.1) (partsOf p):=(sK p _).1
theorem vy (p:PL): ∀(k i:Nat) (v:List Int),i < k->p[i]? =some (some v)->(((i+1:Nat):Int),v)∈aY p k
 | 0,i,v,h,_=>by omega
 | k+1,i,v,h,hp=>by
  rw [aY]
  by_cases Fa:i < k
  ·exact agZ _ (vy p k i v Fa hp)
  ·obtain rfl:i=k:=by omega
   have:p.getD i none=some v:=by rw [afO,hp];rfl
   rw [this]
   exact ahj _ (by simp)
theorem ll {p:PL} {y:Part}:y∈partsOf p↔ ∃i:Nat,y.1=((i+1:Nat):Int) /\ p[i]? =some (some y.2):=by
 constructor
 ·intro h
  obtain⟨i,h1,_,h3⟩:=pe p _ y h
  exact⟨i,h1,h3⟩
 ·rintro⟨i,h1,h2⟩
  have:=vy p p.length i y.2 (aft.1 h2).1 h2
  rw [<-h1] at this
  exact this
theorem EU {p:PL} {i:Nat} (hi:i < p.length) (hn:p.getD i none=none) (v:List Int):partsOf (p.set i (some v))=jV (·.1) (partsOf p) (((i+1:Nat):Int),v):=by
 have hpi:p[i]? =some none:=by
  rw [afO,afD hi] at hn
  rw [afD hi,<-hn];rfl
 refine tD (vx _) (xO (vx _) fun y hy e=>?_) fun y=>?_
 ·obtain⟨j,h1,h2⟩:=ll.1 hy
  have:j=i:=by have:y.1=((i+1:Nat):Int):=e;omega
  subst this
  rw [hpi] at h2;cases h2
 ·rw [vw,ll,ll]
  constructor
  ·rintro⟨j,h1,h2⟩
   rw [agm] at h2
   split at h2
   ·rename_i e
    subst e
    exact .inl (ahg h1 (afK (afK h2)).symm)
   ·exact .inr ⟨j,h1,h2⟩
  ·rintro(rfl | ⟨j,h1,h2⟩)
   ·exact⟨i,rfl,by rw [afX hi]⟩
   ·refine⟨j,h1,?_⟩
    rw [afY]
    ·exact h2
    ·rintro rfl
     rw [hpi] at h2;cases h2
theorem lp (a:WA):rL (fun r:gL=>r.1.1) a.rows:=by
 unfold WA.rows rL
 rw [ahV]
 exact(FI.iA a.au _).2
theorem iG {a:WA} (bK:a.Ok) {r:gL}:r∈a.rows↔ ∃p,a.row r.1=some p /\ r.2=partsOf p:=by
 constructor
 ·intro h
  obtain⟨e,he,rfl⟩:=afQ.1 h
  obtain⟨p,hp⟩:=hH bK he
  exact⟨p,hp,by unfold WA.k9;rw [hp];rfl⟩
 ·rintro⟨p,h1,h2⟩
  refine afQ.2 ⟨r.1,(Dw bK).2 (by rw [h1];rfl),?_⟩
  unfold WA.k9
  rw [h1]
  exact ahg rfl h2.symm
end Go.Proofs.YtcccjgmekakabaaGreat.FW
end

section
namespace Go.Proofs.YtcccjgmekakabaaGreat.FW
open F
open Go Go.Den Go.Proofs
open FT (iv aq)
theorem find_spec {s:Sl} {l:List Part} {w:World} (hr:vK w s l) (hl:l.length<=1000000000) {kind:Int} {K:Int->World->Prop}
  (mY: ∀(q:Nat) (x:Part),l[q]? =some x->x.1=kind->K q w) (da:(∀x∈l,x.1≠kind)->K (-1) w):NI s kind w K:=by
 refine Kh ?_
 unfold f131
 have eQ:=hr.len
 obtain⟨xs,rfl,⟨o,hR⟩,_⟩:=hr
 rw [afP] at hl eQ
 refine⟨fun t mm w'=> ∃k:Nat,t=k /\ k<=xs.length /\ mm=xs.length - k /\ w'=w /\ ∀(j:Nat) (x:PV),xs[j]? =some x->j < k->x.1≠kind,⟨xs.length,0,rfl,by omega,rfl,rfl,fun j x _ h=>by omega⟩,?_⟩
 rintro t mm w2 ⟨k,rfl,hk,rfl,rfl,bF⟩
 by_cases ar:k < xs.length
 ·refine aE (by simp;omega) ?_
  have hx:xs[k]? =some xs[k]:=by simp [ar]
  generalize xs[k]=x at hx
  refine cf.ix aW hR (by omega) (x:=x) (by rw [afu];exact hx) fun ad hc=>?_
  refine ep (k:=.i .i64) (x:=x.1) (hc 0 (by omega)) rfl ?_
  by_cases he:x.1=kind
  ·exact aE (by simpa using he) (mY k (bN x) (by rw [afC,hx];rfl) he)
  ·refine aF (by simpa using he) ⟨xs.length - (k+1),by omega,k+1,by rw [aB (by omega) (by omega)];omega,by omega,rfl,rfl,fun j y hy hj=>?_⟩
   by_cases kN:j < k
   ·exact bF j y hy kN
   ·obtain rfl:j=k:=by omega
    obtain rfl:y=x:=afK (hy.symm.trans hx)
    exact he
 ·refine aF (by simp;omega) (da fun y hy=>?_)
  obtain⟨x,hx,rfl⟩:=afQ.1 hy
  obtain⟨j,hj⟩:=afT hx
  exact bF j x hj (by have:=(aft.1 hj).1;omega)
end Go.Proofs.YtcccjgmekakabaaGreat.FW
end

section
namespace Go.Den
open Go
namespace Hp
section
variable {S:List Nat} {w0 w:World} {ae:List aa}
variable {X α:Type} {e:TypeId} {n:Nat} {cells:X->List Value} {sub:X->aa} {vis:X->α} {s:Sl} {l:List α}
theorem LH (h:Hp S w0 w ae) {i k:Nat} {y:α} (hi:ae[i]? =some (gD e n cells sub vis s l)) (hk:l[k]? =some y) (ho: ∀x,(sub x).own=true):
  ∃(xs:List X) (x:X),xs.map vis=l /\ xs[k]? =some x /\ vis x=y /\ Hp S w0 w (ae.set i (aj s e n cells xs)++ [an ((xs.map sub).set k ao),sub x]):=by
 obtain⟨xs,hx,h⟩:=h.dy hi
 subst hx
 rw [afC,af2] at hk
 obtain⟨x,hx,rfl⟩:=hk
 refine⟨xs,x,rfl,hx,rfl,?_⟩
 have hl:(ae.set i (aj s e n cells xs)).length=ae.length:=agi
 have h:=h.pick (i:=ae.length) (k:=k) (ts:=xs.map sub) (t:=sub x) (by rw [<-hl];exact afU) (by rw [afC,hx];rfl) (ho x)
 rw [<-hl,afI _ _ (afV _),af9,afN,afA] at h
 exact h
theorem EV (h:Hp S w0 w ae) {i j m k:Nat} (mJ:i≠j) (Zw:j≠m) (him:i≠m) {xs:List X} {x':X} (hk:k < xs.length)
  (hi:ae[i]? =some (aj s e n cells (xs.set k x'))) (hj:ae[j]? =some (an ((xs.map sub).set k ao))) (hm:ae[m]? =some (sub x')) (ho:(sub x').own=true):
  Hp S w0 w (((ae.set j ao).set m ao).set i (gD e n cells sub vis s ((xs.map vis).set k (vis x')))):=by
 have ky:=(aft.1 hi).1
 have gN:=(aft.1 hj).1
 have Fh:=(aft.1 hm).1
 have h:=h.mT (i:=j) (j:=m) (k:=k) Zw hj hm (by rw [afX (by simpa using hk)]) ho
 rw [agz] at h
 have e1:(xs.map sub).set k (sub x')=(xs.set k x').map sub:=by rw [agR]
 rw [e1] at h
 have h:=h.dE (i:=i) (j:=j) (xs:=xs.set k x') (sub:=sub) (vis:=vis) (l:=(xs.map vis).set k (vis x')) mJ
  (by rw [afY (fun q=>him q.symm),afY (fun q=>mJ q.symm)];exact hi)
  (by rw [afY (fun q=>Zw q.symm),afX gN]) (by rw [agR])
 have e2:((((ae.set j (an ((xs.set k x').map sub))).set m ao).set i (gD e n cells sub vis s ((xs.map vis).set k (vis x')))).set j ao)=(((ae.set j ao).set m ao).set i (gD e n cells sub vis s ((xs.map vis).set k (vis x')))):=by
  rw [aie _ _ mJ,aie _ _ (fun q=>Zw q.symm),agz]
 rw [e2] at h
 exact h
theorem Zx {A:List aa} {t:aa} (h:Hp S w0 w (ae++A++ [t])) {i:Nat} (hi:i < ae.length):Hp S w0 w (ae.set i t):=by
 refine h.GB ((List.range ae.length).map fun j=>if j=i then ae.length+A.length else j) ?_ (by simp) fun n j hn=>?_
 ·rw [agE,ahV]
  refine List.Pairwise.imp_of_mem (fun{a b} ha hb aR he=>aR ?_) (agE.1 aii)
  have ha:=agC.1 ha
  have hb:=agC.1 hb
  split at he <;> split at he <;> omega
 ·rw [afC] at hn
  obtain⟨m,hm,rfl⟩:=af2.1 hn
  have Fh:=(aft.1 hm).1
  rw [agV (by simpa using Fh)] at hm
  obtain rfl:=afK hm
  simp only [aht] at Fh
  by_cases Zy:n=i
  ·subst Zy
   rw [if_pos rfl,afX hi,afv (by simp)]
   simp
  ·rw [if_neg Zy,afY (fun e=>Zy e.symm),afA,afx Fh]
end
end Hp
theorem sL: ∀(k:Nat) {ts:List aa} {t:aa} {w:World} {O1 O2:List Nat},(an ts).holds w O1->t.holds w O2->(∀x∈O1,x ∉ O2)->(an (ts.take k++t :: ts.drop k)).holds w (O1++O2)
 | 0,ts,t,w,O1,O2,h1,h2,hd=>⟨O2,O1,h2,h1,fun x hx hy=>hd x hy hx,fun x=>by simp [or_comm]⟩
 | k+1,[],t,w,O1,O2,h1,h2,hd=>⟨O2,O1,h2,h1,fun x hx hy=>hd x hy hx,fun x=>by simp [or_comm]⟩
 | k+1,u :: ts,t,w,O1,O2,⟨P1,P2,g1,g2,g3,g4⟩,h2,hd=>by
  have ih:=sL k (ts:=ts) g2 h2 (fun x hx=>hd x ((g4 x).2 (.inr hx)))
  refine⟨P1,P2++O2,g1,ih,fun x hx hy=>?_,fun x=>?_⟩
  ·rcases afB.1 hy with hy | hy
   ·exact g3 x hx hy
   ·exact hd x ((g4 x).2 (.inl hx)) hy
  ·rw [afB,afB,g4 x,or_assoc]
theorem jI: ∀(k:Nat) {ts:List aa} {w:World} {O:List Nat},(an ts).holds w O-> ∃O',(an (ts.eraseIdx k)).holds w O' /\ ∀x∈O',x∈O
 | _,[],w,O,h=>⟨O,by simpa using h,fun x hx=>hx⟩
 | 0,u :: ts,w,O,⟨P1,P2,g1,g2,g3,g4⟩=>⟨P2,g2,fun x hx=>(g4 x).2 (.inr hx)⟩
 | k+1,u :: ts,w,O,⟨P1,P2,g1,g2,g3,g4⟩=>by
  obtain⟨O',h1,h2⟩:=jI k g2
  refine⟨P1++O',⟨P1,O',g1,h1,fun x hx hy=>g3 x hx (h2 x hy),fun x=>afB⟩,fun x hx=>?_⟩
  rcases afB.1 hx with hx | hx
  ·exact(g4 x).2 (.inl hx)
  ·exact(g4 x).2 (.inr (h2 x hx))
namespace Hp
section
variable {S:List Nat} {w0 w:World} {ae:List aa}
theorem Iw (h:Hp S w0 w ae) {i j:Nat} (aR:i≠j) {ts:List aa} {t:aa} (k:Nat) (hi:ae[i]? =some (an ts)) (hj:ae[j]? =some t) (ho:t.own=true):Hp S w0 w ((ae.set i (an (ts.take k++t :: ts.drop k))).set j ao):=
 h.join aR hi hj (aK _) ho (aK _) (fun w O1 O2 h1 h2 hd=>sL k h1 h2 hd)
theorem QY (h:Hp S w0 w ae) {i:Nat} {ts:List aa} (k:Nat) (hi:ae[i]? =some (an ts)):Hp S w0 w (ae.set i (an (ts.eraseIdx k))):=
 h.less hi (aK _) (fun w O hO=>jI k hO) (aK _)
end
end Hp
end Go.Den
end

section
namespace Go.Proofs.YtcccjgmekakabaaGreat.FW
open F
open Go Go.Den Go.Proofs
open FI (af ay)
open FT (bM dz aP iv aq)
theorem xQ {α:Type} (k:α->Int) {l:List α} {x:α} {i:Nat} (hi:i<=l.length) (h1: ∀y∈l.take i,k y < k x) (h2: ∀y,l[i]? =some y-> ¬k y < k x):jV k l x=l.take i++x :: l.drop i:=by
 have hp: ∀a∈l.take i,(fun y=>decide (k y < k x)) a=true:=fun a ha=>by simpa using h1 a ha
 have ht:l.takeWhile (fun y=>decide (k y < k x))=l.take i /\ l.dropWhile (fun y=>decide (k y < k x))=l.drop i:=by
  have e:l=l.take i++l.drop i:=(agp i l).symm
  have hd: ∀m:List α,(∀y,m[0]? =some y-> ¬k y < k x)->m.takeWhile (fun y=>decide (k y < k x))= [] /\ m.dropWhile (fun y=>decide (k y < k x))=m:=fun m hm=>by
   cases m with
   | nil=>exact⟨rfl,rfl⟩
   | cons y m=>
    have:=hm y rfl
    exact⟨List.takeWhile_cons_of_neg (by simpa using this),List.dropWhile_cons_of_neg (by simpa using this)⟩
  obtain⟨d1,d2⟩:=hd (l.drop i) (fun y hy=>h2 y (by rw [agn] at hy;exact hy))
  constructor
  ·rw [show l.takeWhile (fun y=>decide (k y < k x))=(l.take i++l.drop i).takeWhile (fun y=>decide (k y < k x)) by rw [<-e],List.takeWhile_append_of_pos hp,d1,afH]
  ·rw [show l.dropWhile (fun y=>decide (k y < k x))=(l.take i++l.drop i).dropWhile (fun y=>decide (k y < k x)) by rw [<-e],List.dropWhile_append_of_pos hp,d2]
 unfold jV
 rw [ht.1,ht.2]
theorem qx {α:Type} {t:aa} {s:Sl} {n:Nat} {f:α->List Value} {l:List α} (h:Hp.Reads t s n f l):Hp.Reads t.ro s n f l:=⟨fun hO=>h.rd hO⟩
section
variable {S:List Nat} {w0 w:World} {ae:List aa}
set_option maxHeartbeats 4000000 in
theorem EW (h:Hp S w0 w ae) (i:Nat) {s:Sl} {l:List Part} (hi:ae[i]? =some (bn s l)) {kind:Int} {v:Sl} {vals:List Int} (hv: ∃o,cf w v 1 iv vals o) (hl:l.length<=1000000) (gi:vals.length<=1000000000) {K:Sl->World->Prop}
  (hK: ∀r w',Hp S w0 w' (ae.set i (bn r (jV (·.1) l (kind,vals))))->K r w'):NJ s kind v w K:=by
 refine Ki ?_
 unfold f132
 obtain⟨inf,i1,i2,i3,i4⟩:=xC
 have ky:=(aft.1 hi).1
 obtain⟨xs,rfl,h1⟩:=h.dy hi
 clear h
 rw [afP] at hl
 have g1:=h1.IY (j:=i) (u:=aj s 36 2 cY xs) (by rw [afx (by simpa using ky),afX ky];rfl)
 obtain⟨o,hvo⟩:=hv
 have g1:=g1.ey (t:=kG v 1 iv vals) hvo (by simp)
 have g1:Hp [] w w [(aj s 36 2 cY xs).ro,(kG v 1 iv vals).ro]:=g1
 have rs:Hp.Reads (aj s 36 2 cY xs).ro s 2 cY xs:=qx Hp.bX
 have eQ:=g1.df 0 (u:=(aj s 36 2 cY xs).ro) rfl rs
 have Ff:=g1.cap (s:=s) (l:=xs) (e:=36) (n:=2) (f:=cY) 0 rfl
 refine g1.nw (c:= [_,_]) fun pb w1 h=>?_
 have h:=h.nil 36 2 cY
 have h:Hp [] w w1 [(aj s 36 2 cY xs).ro,(kG v 1 iv vals).ro,ai pb 36 [.int .i64 kind,.slice v.a v.len v.cap],aj ⟨none,0,0⟩ 36 2 cY []]:=h
 refine⟨fun out t w'=> ∃k:Nat,t=k /\ k<=xs.length /\ (∀y∈xs.take k,y.1 < kind) /\ (∀y,xs[k]? =some y-> ¬y.1 < kind) /\ Hp [] w w' [(aj s 36 2 cY xs).ro,(kG v 1 iv vals).ro,ai pb 36 [.int .i64 kind,.slice v.a v.len v.cap],aj out 36 2 cY (xs.take k)],?_,?_⟩
 ·refine⟨fun out t mm w'=> ∃k:Nat,t=k /\ k<=xs.length /\ mm=xs.length - k /\ (∀y∈xs.take k,y.1 < kind) /\ Hp [] w w' [(aj s 36 2 cY xs).ro,(kG v 1 iv vals).ro,ai pb 36 [.int .i64 kind,.slice v.a v.len v.cap],aj out 36 2 cY (xs.take k)],⟨xs.length,0,rfl,by omega,rfl,by simp,h⟩,?_⟩
  clear h
  rintro out t mm w2 ⟨k,rfl,hk,rfl,bF,h⟩
  have kA:=h.len (s:=out) (l:=xs.take k) (e:=36) (n:=2) (f:=cY) 3 rfl
  rw [afM] at kA
  refine⟨fun w'=>k < xs.length /\ (∀y,xs[k]? =some y->y.1 < kind) /\ Hp [] w w' [(aj s 36 2 cY xs).ro,(kG v 1 iv vals).ro,ai pb 36 [.int .i64 kind,.slice v.a v.len v.cap],aj out 36 2 cY (xs.take k)],?_,?_⟩
  ·refine h.dr fun w3 h=>?_
   by_cases ar:k < xs.length
   ·refine aE (by simp;omega) ?_
    have hx:xs[k]? =some xs[k]:=by simp [ar]
    generalize xs[k]=x at hx
    refine h.sq (s:=s) (l:=xs) (f:=cY) (n:=2) (e:=36) 0 rfl (by omega) (by rw [afu];exact hx) aW fun ad hc=>?_
    refine ep (k:=.i .i64) (x:=x.1) (hc 0 (by omega)) rfl ?_
    refine h.cx (k:=.i .i64) (x:=kind) 2 rfl rfl ?_
    by_cases wF:x.1 < kind
    ·exact aE (by simpa using wF) ⟨ar,fun y hy=>by rw [hx] at hy;obtain rfl:=afK hy;exact wF,h⟩
    ·exact aF (by simpa using wF) ⟨k,rfl,hk,bF,fun y hy=>by rw [hx] at hy;obtain rfl:=afK hy;exact wF,h⟩
   ·exact aF (by simp;omega) ⟨k,rfl,hk,bF,fun y hy=>by have:=(aft.1 hy).1;omega,h⟩
  clear h
  rintro w3 ⟨ar,wF,h⟩
  have hx:xs[k]? =some xs[k]:=by simp [ar]
  have cX:xs.take (k+1)=xs.take k++ [xs[k]]:=afG ar
  generalize xs[k]=x at hx cX
  have wF:=wF x hx
  refine h.sq (s:=s) (l:=xs) (f:=cY) (n:=2) (e:=36) 0 rfl (by omega) (by rw [afu];exact hx) aW fun ad hc=>?_
  refine ep (k:=.i .i64) (x:=x.1) (hc 0 (by omega)) rfl ?_
  refine j8 (k:=.sl) (x:=x.2.1) (hc 1 (by omega)) rfl ?_
  refine h.bL 3 x (c:= [_,_]) rfl aW qj i1 i3 i2 rfl rfl (by simp [cY,Value.oneCell']) (by rw [i4];omega) (by omega) fun bH w4 h _ _=>?_
  refine⟨xs.length - (k+1),by omega,k+1,by rw [aB (by omega) (by omega)];omega,by omega,rfl,fun y hy=>?_,?_⟩
  ·rw [cX] at hy
   rcases afB.1 hy with hy | hy
   ·exact bF y hy
   ·simp only [afF] at hy;subst hy;exact wF
  ·rw [cX];exact h
 clear h
 rintro out t w2 ⟨k,rfl,hk,bF,Iy,h⟩
 have kA:=h.len (s:=out) (l:=xs.take k) (e:=36) (n:=2) (f:=cY) 3 rfl
 rw [afM] at kA
 refine h.dr fun w3 h=>?_
 refine h.cx (k:=.i .i64) (x:=kind) 2 rfl rfl ?_
 refine h.ld (n:=1) (k:=.sl) (x:=v) 2 rfl rfl ?_
 have xD: ∃o,cf w3 v 1 iv vals o:=by
  obtain⟨O,hO⟩:=h.n9 (i:=1) rfl
  exact⟨O,hO⟩
 refine vp h xD gi fun r w4 h=>?_
 have h:Hp [] w w4 [(aj s 36 2 cY xs).ro,(kG v 1 iv vals).ro,ai pb 36 [.int .i64 kind,.slice v.a v.len v.cap],aj out 36 2 cY (xs.take k),aj r 2 1 iv vals]:=h
 refine⟨h.GJ 2 rfl rfl,?_⟩
 refine h.bL 3 ((kind,r,vals):PV) (c:= [_,_]) rfl aW qj i1 i3 i2 rfl rfl (by simp [cY,Value.oneCell']) (by rw [i4];omega) (by omega) fun oR w5 h Vx _=>?_
 have h:Hp [] w w5 [(aj s 36 2 cY xs).ro,(kG v 1 iv vals).ro,ai pb 36 [.int .i64 kind,.slice v.a v.len v.cap],aj oR 36 2 cY (xs.take k++ [(kind,r,vals)]),aj r 2 1 iv vals]:=h
 refine Hp.jT (s:=s) rs eQ aW (by omega) (by omega) (by omega) (agr _) (by omega) fun s5 Hj Lw VR=>?_
 have e1:(xs.take ((s.len:Nat):Int).toNat).drop ((k:Nat):Int).toNat=xs.drop k:=by rw [afu,afu,afE (by omega)]
 rw [e1] at Hj
 rw [afu,afu] at Lw
 refine h.gY 3 0 (s:=oR) (s2:=s5) (u:=(aj s 36 2 cY xs).ro) rfl rfl Hj aW qj i1 i3 i2 rfl (by simp [cY,Value.oneCell']) (by rw [i4];omega) (by omega) fun s6 w6 h _ _=>?_
 have h:Hp [] w w6 [(aj s 36 2 cY xs).ro,(kG v 1 iv vals).ro,ai pb 36 [.int .i64 kind,.slice v.a v.len v.cap],aj s6 36 2 cY (xs.take k++ [(kind,r,vals)]++xs.drop k),aj r 2 1 iv vals]:=h
 have g:=h.PS 3 4 (by decide) rfl rfl
 have h:=h1.r0 rfl g
 clear g
 have A3:(ae.set i (aj s 36 2 cY xs)).length=ae.length:=agi
 generalize Tx:ae.set i (aj s 36 2 cY xs)=EX at h A3
 have h:Hp S w0 w6 (EX++ [an (xs.map tV),aj s6 36 2 cY (xs.take k++(kind,r,vals) :: xs.drop k),aj r 2 1 iv vals]):=by
  have h:Hp S w0 w6 (EX++ [an (xs.map tV)]++ [aj s6 36 2 cY (xs.take k++ [(kind,r,vals)]++xs.drop k),aj r 2 1 iv vals]):=h
  simpa using h
 have g0: ∀{l:List aa} (k:Nat),(EX++l)[EX.length+k]? =l[k]? :=fun{l} k=>by rw [afv (by omega)];simp
 have s0: ∀{l:List aa} (k:Nat) (t:aa),(EX++l).set (EX.length+k) t=EX++l.set k t:=fun{l} k t=>by rw [afI _ _ (by omega)];simp
 have h:=h.Iw (i:=EX.length+0) (j:=EX.length+2) (by omega) (t:=tV (kind,r,vals)) k (by rw [g0];rfl) (by rw [g0];rfl) rfl
 rw [s0,s0] at h
 have e2:(xs.map tV).take k++tV (kind,r,vals) :: (xs.map tV).drop k=(xs.take k++(kind,r,vals) :: xs.drop k).map tV:=by
  rw [agh,agl,ah3,List.map_drop]
 have e3:jV (·.1) (xs.map bN) (kind,vals)=(xs.take k++(kind,r,vals) :: xs.drop k).map bN:=by
  rw [xQ (fun y:Part=>y.1) (i:=k) (by rw [afP];omega) (fun y hy=>by
   rw [<-ah3] at hy
   obtain⟨x,hx,rfl⟩:=afQ.1 hy
   exact bF x hx) (fun y hy=>by
   rw [afC] at hy
   obtain⟨x,hx,rfl⟩:=af2.1 hy
   exact Iy x hx),agh,agl,ah3,List.map_drop]
  rfl
 rw [e2] at h
 have h:=h.dE (i:=EX.length+1) (j:=EX.length+0) (cells:=cY) (sub:=tV) (vis:=bN) (l:=jV (·.1) (xs.map bN) (kind,vals)) (by omega) (by rw [g0];rfl) (by rw [g0];rfl) e3.symm
 rw [s0,s0] at h
 have h:Hp S w0 w6 (EX++ [ao,bn s6 (jV (·.1) (xs.map bN) (kind,vals)),ao]):=h
 have h:Hp S w0 w6 (EX++ [ao]++ [bn s6 (jV (·.1) (xs.map bN) (kind,vals))]++ [ao]):=by simpa using h
 have h:=h.front.Zx (i:=i) (by omega)
 rw [<-Tx,agz] at h
 exact hK s6 w6 h
theorem CE (h:Hp S w0 w ae) (i:Nat) {s:Sl} {l:KD} (hi:(ae[i]?).map aa.holds=some (aD s l).holds):l.length=s.len:=(h.gF (s:=s) (l:=l) (e:=107) (n:=2) (cells:=du) (sub:=tF) (vis:=lg) i hi).1
theorem yP (h:Hp S w0 w ae) (i j:Nat) {b:Nat} {q:RH} {ks:KD} (hi:(ae[i]?).map aa.holds=some (ai b 73 q.cells).holds) (hj:(ae[j]?).map aa.holds=some (aD q.K ks).holds) (hl:ks.length<=1000000) {kind:Int} (k1: -9223372036854775808<=kind) (k2:kind<=9223372036854775807) {K:Int->World->Prop}
  (hK:match fl ks kind with | some n=>K (n:Nat) w | none=>K (-1) w):NH (some ⟨b,0,none⟩) kind w K:=by
 refine Kg ?_
 unfold f130
 have cU:=CE h j hj
 refine⟨fun w'=>w'=w /\ 1<=kind /\ kind<=ks.length,?_,?_⟩
 ·by_cases h1:kind < 1
  ·refine aE (by simpa using h1) ?_
   have:fl ks kind=none:=by unfold fl;rw [if_neg (by omega)]
   rw [this] at hK;exact hK
  ·refine aF (by simpa using h1) ?_
   refine bg ?_
   refine h.cx (k:=.sl) (x:=q.K) i hi rfl ?_
   by_cases h2:kind > q.K.len
   ·refine aE (by simpa using h2) ?_
    have:fl ks kind=none:=by unfold fl;rw [if_pos (by omega),af0 (by omega)];rfl
    rw [this] at hK;exact hK
   ·exact aF (by simpa using h2) ⟨rfl,by omega,by omega⟩
 ·rintro w' ⟨rfl,h1,h2⟩
  refine bg ?_
  refine h.cx (k:=.sl) (x:=q.K) i hi rfl ?_
  obtain⟨O,hO⟩:=h.dQ hj
  obtain⟨xs,iF,⟨o,hR⟩,hx⟩:=(AM hO).open
  have kS:xs.length=ks.length:=by rw [<-iF];simp [kinds]
  have hg:xs[(kind - 1).toNat]? =some (xs[(kind - 1).toNat]'(by omega)):=afD _
  generalize xs[(kind - 1).toNat]'(by omega)=x at hg
  have hw:IntKind.i64.wrap (kind - 1)=kind - 1:=aB (by omega) (by omega)
  rw [hw]
  refine cf.ix aU hR (by omega) hg fun ad hc=>?_
  refine j8 (k:=.sl) (x:=x.2.1) (hc 1 (by omega)) rfl ?_
  obtain⟨_,o2,Fq⟩:=hx x (afz hg)
  have:fl ks kind=some x.2.2.length:=by
   unfold fl;rw [if_pos (by omega),<-iF];unfold kinds;rw [afC,hg];rfl
  rw [this] at hK
  dsimp only at hK
  rw [Fq.len] at hK
  exact hK
end
end Go.Proofs.YtcccjgmekakabaaGreat.FW
end

section
namespace Go.Proofs.YtcccjgmekakabaaGreat.FW
open F
open Go Go.Den Go.Proofs
open FI (af ay)
open FT (bM dz aP iv aq)
theorem EY {a:WA} (bK:a.Ok) {x y:bM} (hx:(a.row x).isSome=true) (hy:(a.row y).isSome=true) (h1:x.1=y.1):x=y:=by
 rw [bK.Dq x] at hx
 rw [bK.Dq y] at hy
 obtain⟨_,h2⟩:=af.jG.1 hx
 obtain⟨_,h3⟩:=af.jG.1 hy
 exact ahg h1 (by rw [<-h2,<-h3,h1])
theorem Iz {a a':WA} (bK:a.Ok) (kD:a'.Ok) {e:bM} (hn:a.row e=none) {p:PL} (hr:a'.row=aH a.row e (some p)):a'.rows=jV (fun r:gL=>r.1.1) a.rows (e,partsOf p):=by
 have Uk: ∀x,a'.row x=if x=e then some p else a.row x:=fun x=>by rw [hr];rfl
 refine tD (k:=fun r:gL=>r.1.1) (lp a') (xO (lp a) fun y hy he=>?_) fun x=>?_
 ·obtain⟨py,UT,_⟩:=(iG bK).1 hy
  have aR:y.1≠e:=fun he=>by rw [he,hn] at UT;cases UT
  refine aR (EY kD (x:=y.1) (y:=e) (by rw [Uk,if_neg aR,UT];rfl) (by rw [Uk,if_pos rfl];rfl) he)
 ·rw [vw,iG kD,iG bK,Uk]
  by_cases hx:x.1=e
  ·rw [if_pos hx]
   constructor
   ·rintro⟨q,hq,h2⟩
    obtain rfl:=afK hq
    exact .inl (ahg hx h2)
   ·rintro(h | ⟨q,hq,_⟩)
    ·exact⟨p,rfl,by rw [h]⟩
    ·rw [hx,hn] at hq;cases hq
  ·rw [if_neg hx]
   constructor
   ·exact fun h=>.inr h
   ·rintro(h | h)
    ·exact absurd (by rw [h]) hx
    ·exact h
theorem IA {a a':WA} (bK:a.Ok) (kD:a'.Ok) {e:bM} {q:Nat} {r:gL} (hq:a.rows[q]? =some r) (MN:r.1=e) (hr:a'.row=aH a.row e none):a'.rows=a.rows.eraseIdx q:=by
 have Uk: ∀x,a'.row x=if x=e then none else a.row x:=fun x=>by rw [hr];rfl
 refine tD (k:=fun r:gL=>r.1.1) (lp a') (CD (lp a) q) fun x=>?_
 rw [mem_erase (lp a) hq,iG kD,iG bK,Uk]
 obtain⟨pr,qD,yX⟩:=(iG bK).1 (afz hq)
 by_cases hx:x.1=e
 ·rw [if_pos hx]
  constructor
  ·rintro⟨_,h,_⟩;cases h
  ·rintro⟨⟨p,hp,h2⟩,aR⟩
   refine absurd (ahg (hx.trans MN.symm) ?_) aR
   rw [hx,<-MN,qD] at hp
   rw [h2,yX,afK hp]
 ·rw [if_neg hx]
  constructor
  ·exact fun h=>⟨h,fun he=>hx (by rw [he];exact MN)⟩
  ·exact fun h=>h.1
theorem LI {a:WA} (bK:a.Ok) {e:bM} (h: ∀r∈a.rows,r.1≠e):a.row e=none:=by
 cases hr:a.row e with
 | none=>rfl
 | some p=>exact absurd rfl (h (e,partsOf p) ((iG bK).2 ⟨p,hr,rfl⟩))
section
variable {S:List Nat} {w0 w:World} {ae:List aa}
theorem Ul (h:Hp S w0 w ae) (i:Nat) {b:Nat} {a:WA} (hi:(ae[i]?).map aa.holds=some (iT b a).holds) {e:bM} {K:Int->World->Prop}
  (mY: ∀(q:Nat) (r:gL) (w':World),a.rows[q]? =some r->r.1=e->Hp S w0 w' ae->K q w') (da: ∀w',(∀r∈a.rows,r.1≠e)->Hp S w0 w' ae->K (-1) w'):WW (some ⟨b,0,none⟩) e.1 e.2 w K:=by
 refine Px ?_
 unfold f72
 obtain⟨q,xs,hf,iF,h1⟩:=tA h i hi
 have gI:=kf hf.1
 have fv:xs.length=a.all.length:=by
  have:=congrArg List.length iF
  rw [afP] at this
  unfold WA.rows at this
  rw [afP] at this
  exact this
 have Uh:=h1.df (u:=mq q.L xs) (s:=q.L) (l:=xs) (f:=EP) (n:=3) 2 rfl (dU rfl)
 refine h1.nw (c:= [_,_]) fun eb w1 h1=>?_
 have h1:Hp [] w w1 [(ai b 73 q.cells).ro,(ay 177 q.p a.au).ro,(mq q.L xs).ro,ai eb 33 [.int .i64 e.1,.int .i64 e.2]]:=h1
 refine⟨fun t mm w'=> ∃k:Nat,t=k /\ k<=xs.length /\ mm=xs.length - k /\ (∀r∈a.rows.take k,r.1≠e) /\ Hp [] w w' [(ai b 73 q.cells).ro,(ay 177 q.p a.au).ro,(mq q.L xs).ro,ai eb 33 [.int .i64 e.1,.int .i64 e.2]],⟨xs.length,0,rfl,by omega,rfl,by simp,h1⟩,?_⟩
 clear h1
 rintro t mm w2 ⟨k,rfl,hk,rfl,bF,h1⟩
 refine bg ?_
 refine h1.ld (n:=2) (k:=.sl) (x:=q.L) 0 rfl rfl ?_
 by_cases ar:k < xs.length
 ·refine aE (by simp;omega) ?_
  have hx:xs[k]? =some xs[k]:=by simp [ar]
  have DI:a.rows[k]? =some (Ft xs[k]):=by rw [<-iF,afC,hx];rfl
  have hrt:a.rows.take (k+1)=a.rows.take k++ [Ft xs[k]]:=by rw [ag5,DI];rfl
  generalize xs[k]=x at hx DI hrt
  refine h1.dr fun w3 h1=>?_
  refine bg ?_
  refine h1.ld (n:=2) (k:=.sl) (x:=q.L) 0 rfl rfl ?_
  refine h1.vH 2 (u:=mq q.L xs) rfl (dU rfl) (by omega) (by simpa using ar) fun y hy=>?_
  rw [afu]
  refine h1.pX (k:=.i .i64) (v:=x.1.1) 2 (u:=mq q.L xs) rfl (dU rfl) hy (fun _=>rfl) hx rfl ?_
  refine h1.A6 (m:=1) (k:=.i .i64) (v:=x.1.2) 2 (u:=mq q.L xs) rfl (dU rfl) hy (fun _=>rfl) hx rfl ?_
  refine h1.cx (k:=.i .i64) (x:=e.1) 3 rfl rfl ?_
  refine h1.ld (n:=1) (k:=.i .i64) (x:=e.2) 3 rfl rfl ?_
  refine FT.xe ?_
  by_cases he:x.1=e
  ·refine aE (by rw [<-he];simp) (mY k (Ft x) w3 DI he (h.cB h1.fr))
  ·refine aF (fun hh=>he ?_) ⟨xs.length - (k+1),by omega,k+1,by rw [aB (by omega) (by omega)];omega,by omega,rfl,fun r hr=>?_,h1⟩
   ·simp only [afW,beq_iff_eq] at hh
    exact ahg hh.1 hh.2
   ·rw [hrt] at hr
    rcases afB.1 hr with hr | hr
    ·exact bF r hr
    ·simp only [afF] at hr;subst hr;exact he
 ·refine aF (by simp;omega) (da w2 ?_ (h.cB h1.fr))
  have Cg:a.rows.length=xs.length:=by rw [<-iF,afP]
  rw [afE (by omega)] at bF
  exact bF
set_option maxHeartbeats 4000000 in
theorem AU (h:Hp S w0 w ae) (i j k:Nat) (aR: [i,j,k].Nodup) {b:Nat} {q:RH} {rows:List gL} {P:Sl} {parts:List Part} {e:bM} (hi:ae[i]? =some (ai b 73 q.cells)) (hj:ae[j]? =some (aZ q.L rows)) (hk:ae[k]? =some (bn P parts)) (hl:rows.length<=1000000) {K:World->Prop}
  (hK: ∀s w',Hp S w0 w' (((ae.set i (ai b 73 ({ q with L:=s}:RH).cells)).set j (aZ s (jV (fun r:gL=>r.1.1) rows (e,parts)))).set k ao)->K w'):NL (some ⟨b,0,none⟩) e.1 e.2 P w K:=by
 refine Kk ?_
 unfold f134
 obtain⟨inf,i1,i2,i3,i4⟩:=vc
 obtain⟨O,h1,back⟩:=h.f3 aR hi hj hk rfl rfl rfl
 clear h
 obtain⟨xs,rfl,h⟩:=h1.dy (i:=1) rfl
 clear h1
 rw [afP] at hl
 have eQ:=h.len (s:=q.L) (l:=xs) (e:=75) (n:=3) (f:=rdv) 1 rfl
 have Ff:=h.cap (s:=q.L) (l:=xs) (e:=75) (n:=3) (f:=rdv) 1 rfl
 refine h.nw (c:= [_,_,_]) fun rb w1 h=>?_
 have h:=h.nil 75 3 rdv
 have h:Hp O w w1 [ai b 73 q.cells,aj q.L 75 3 rdv xs,bn P parts,an (xs.map gJ),ai rb 75 [.int .i64 e.1,.int .i64 e.2,.slice P.a P.len P.cap],aj ⟨none,0,0⟩ 75 3 rdv []]:=h
 refine⟨fun out t w'=> ∃k:Nat,t=k /\ k<=xs.length /\ (∀y∈xs.take k,y.1.1 < e.1) /\ (∀y,xs[k]? =some y-> ¬y.1.1 < e.1) /\ Hp O w w' [ai b 73 q.cells,aj q.L 75 3 rdv xs,bn P parts,an (xs.map gJ),ai rb 75 [.int .i64 e.1,.int .i64 e.2,.slice P.a P.len P.cap],aj out 75 3 rdv (xs.take k)],?_,?_⟩
 ·refine⟨fun out t mm w'=> ∃k:Nat,t=k /\ k<=xs.length /\ mm=xs.length - k /\ (∀y∈xs.take k,y.1.1 < e.1) /\ Hp O w w' [ai b 73 q.cells,aj q.L 75 3 rdv xs,bn P parts,an (xs.map gJ),ai rb 75 [.int .i64 e.1,.int .i64 e.2,.slice P.a P.len P.cap],aj out 75 3 rdv (xs.take k)],⟨xs.length,0,rfl,by omega,rfl,by simp,h⟩,?_⟩
  clear h
  rintro out t mm w2 ⟨k,rfl,hk,rfl,bF,h⟩
  have kA:=h.len (s:=out) (l:=xs.take k) (e:=75) (n:=3) (f:=rdv) 5 rfl
  rw [afM] at kA
  refine⟨fun w'=>k < xs.length /\ (∀y,xs[k]? =some y->y.1.1 < e.1) /\ Hp O w w' [ai b 73 q.cells,aj q.L 75 3 rdv xs,bn P parts,an (xs.map gJ),ai rb 75 [.int .i64 e.1,.int .i64 e.2,.slice P.a P.len P.cap],aj out 75 3 rdv (xs.take k)],?_,?_⟩
  ·refine h.dr fun w3 h=>bg (h.ld (n:=2) (k:=.sl) (x:=q.L) 0 rfl rfl ?_)
   by_cases ar:k < xs.length
   ·refine aE (by simp;omega) (bg (h.ld (n:=2) (k:=.sl) (x:=q.L) 0 rfl rfl ?_))
    have hx:xs[k]? =some xs[k]:=by simp [ar]
    generalize xs[k]=x at hx
    refine h.sq (s:=q.L) (l:=xs) (f:=rdv) (n:=3) (e:=75) 1 rfl (by omega) (by rw [afu];exact hx) cd fun ad hc=>?_
    refine ep (k:=.i .i64) (x:=x.1.1) (hc 0 (by omega)) rfl ?_
    refine h.cx (k:=.i .i64) (x:=e.1) 4 rfl rfl ?_
    by_cases wF:x.1.1 < e.1
    ·exact aE (by simpa using wF) ⟨ar,fun y hy=>by rw [hx] at hy;obtain rfl:=afK hy;exact wF,h⟩
    ·exact aF (by simpa using wF) ⟨k,rfl,hk,bF,fun y hy=>by rw [hx] at hy;obtain rfl:=afK hy;exact wF,h⟩
   ·exact aF (by simp;omega) ⟨k,rfl,hk,bF,fun y hy=>by have:=(aft.1 hy).1;omega,h⟩
  clear h
  rintro w3 ⟨ar,wF,h⟩
  have hx:xs[k]? =some xs[k]:=by simp [ar]
  have cX:xs.take (k+1)=xs.take k++ [xs[k]]:=afG ar
  generalize xs[k]=x at hx cX
  have wF:=wF x hx
  refine bg (h.ld (n:=2) (k:=.sl) (x:=q.L) 0 rfl rfl ?_)
  refine h.sq (s:=q.L) (l:=xs) (f:=rdv) (n:=3) (e:=75) 1 rfl (by omega) (by rw [afu];exact hx) cd fun ad hc=>?_
  refine ep (k:=.i .i64) (x:=x.1.1) (hc 0 (by omega)) rfl ?_
  refine j8 (k:=.i .i64) (x:=x.1.2) (hc 1 (by omega)) rfl ?_
  refine j8 (k:=.sl) (x:=x.2.1) (hc 2 (by omega)) rfl ?_
  refine h.bL 5 x (c:= [_,_,_]) rfl cd qk i1 i3 i2 rfl rfl (by simp [rdv,Value.oneCell']) (by rw [i4];omega) (by omega) fun bH w4 h _ _=>?_
  refine⟨xs.length - (k+1),by omega,k+1,by rw [aB (by omega) (by omega)];omega,by omega,rfl,fun y hy=>?_,?_⟩
  ·rw [cX] at hy
   rcases afB.1 hy with hy | hy
   ·exact bF y hy
   ·simp only [afF] at hy;subst hy;exact wF
  ·rw [cX];exact h
 clear h
 rintro out t w2 ⟨k,rfl,hk,bF,Iy,h⟩
 have kA:=h.len (s:=out) (l:=xs.take k) (e:=75) (n:=3) (f:=rdv) 5 rfl
 rw [afM] at kA
 refine h.cx (k:=.i .i64) (x:=e.1) 4 rfl rfl ?_
 refine h.ld (n:=1) (k:=.i .i64) (x:=e.2) 4 rfl rfl ?_
 refine h.ld (n:=2) (k:=.sl) (x:=P) 4 rfl rfl ?_
 refine h.bL 5 ((e,P,parts):RV) (c:= [_,_,_]) rfl cd qk i1 i3 i2 rfl rfl (by simp [rdv,Value.oneCell']) (by rw [i4];omega) (by omega) fun oR w5 h Vx _=>?_
 have h:Hp O w w5 [ai b 73 q.cells,aj q.L 75 3 rdv xs,bn P parts,an (xs.map gJ),ai rb 75 [.int .i64 e.1,.int .i64 e.2,.slice P.a P.len P.cap],aj oR 75 3 rdv (xs.take k++ [(e,P,parts)])]:=h
 refine bg (h.ld (n:=2) (k:=.sl) (x:=q.L) 0 rfl rfl ?_)
 refine Hp.jT (s:=q.L) (u:=aj q.L 75 3 rdv xs) Hp.bX eQ cd (by omega) (by omega) (by omega) (agr _) (by omega) fun s5 Hj Lw VR=>?_
 have e1:(xs.take ((q.L.len:Nat):Int).toNat).drop ((k:Nat):Int).toNat=xs.drop k:=by rw [afu,afu,afE (by omega)]
 rw [e1] at Hj
 rw [afu,afu] at Lw
 refine h.gY 5 1 (s:=oR) (s2:=s5) (u:=aj q.L 75 3 rdv xs) rfl rfl Hj cd qk i1 i3 i2 rfl (by simp [rdv,Value.oneCell']) (by rw [i4];omega) (by omega) fun s6 w6 h _ _=>?_
 refine bg (h.st (n:=2) 0 rfl (by simp) rfl fun w7 h=>?_)
 have h:Hp O w w7 [ai b 73 ({ q with L:=s6}:RH).cells,aj q.L 75 3 rdv xs,bn P parts,an (xs.map gJ),ai rb 75 [.int .i64 e.1,.int .i64 e.2,.slice P.a P.len P.cap],aj s6 75 3 rdv (xs.take k++ [(e,P,parts)]++xs.drop k)]:=h
 rw [afA] at h
 have h:=h.Iw (i:=3) (j:=2) (by decide) (t:=gJ (e,P,parts)) k rfl rfl rfl
 have e2:(xs.map gJ).take k++gJ (e,P,parts) :: (xs.map gJ).drop k=(xs.take k++(e,P,parts) :: xs.drop k).map gJ:=by
  rw [agh,agl,ah3,List.map_drop]
 have e3:jV (fun r:gL=>r.1.1) (xs.map fj) (e,parts)=(xs.take k++(e,P,parts) :: xs.drop k).map fj:=by
  rw [xQ (fun r:gL=>r.1.1) (i:=k) (by rw [afP];omega) (fun y hy=>by
   rw [<-ah3] at hy
   obtain⟨x,hx,rfl⟩:=afQ.1 hy
   exact bF x hx) (fun y hy=>by
   rw [afC] at hy
   obtain⟨x,hx,rfl⟩:=af2.1 hy
   exact Iy x hx),agh,agl,ah3,List.map_drop]
  rfl
 rw [e2] at h
 have h:=h.dE (i:=5) (j:=3) (s:=s6) (cells:=rdv) (sub:=gJ) (vis:=fj) (l:=jV (fun r:gL=>r.1.1) (xs.map fj) (e,parts)) (by omega) rfl rfl e3.symm
 have h:Hp O w w7 [ai b 73 ({ q with L:=s6}:RH).cells,aj q.L 75 3 rdv xs,ao,ao,ai rb 75 [.int .i64 e.1,.int .i64 e.2,.slice P.a P.len P.cap],aZ s6 (jV (fun r:gL=>r.1.1) (xs.map fj) (e,parts))]:=h
 have h:=h.KI 0 5 2 (by decide) rfl rfl rfl
 have:=back (rest:= []) rfl rfl rfl rfl h
 rw [afH] at this
 exact hK s6 w7 this
end
end Go.Proofs.YtcccjgmekakabaaGreat.FW
end
